/-
  Errors as plain data: facadesee's Alike, sentinels, sentinel, Fault, Same, Is.
-/
import Derived.Test.YtjchfkpcglpgdaaDoorSdL
import Derived.Test.YtjchfkpcglpgdaaDoorEr
set_option linter.unusedSimpArgs false
set_option linter.unusedVariables false
namespace Go.Proofs.YtjchfkpcglpgdaaDoor
open Go.RowKit Go.Hp

def sentG : List Nat := [3, 4, 0, 5, 6, 1, 2, 7, 8, 9, 10, 11, 12, 13, 14, 15]
abbrev Sents (w : World) (ads : List Addr) : Prop := Errs w 119 sentG ads

theorem esComp : (Tryd.prog.info? 119).map (·.comparable) = some true := by kernel_rfl
theorem esSize : (Tryd.prog.info? 136).map (·.size) = some 1 := by kernel_rfl

set_option maxRecDepth 100000 in
set_option maxHeartbeats 1000000 in
theorem alike_same (a : Addr) (w : World) : Calls Tryd.prog 62 #[.iface 119 (.pointer (some a)), .iface 119 (.pointer (some a))] w (Same w (.bool true)) := by
  obtain ⟨i, hi, hcmp⟩ := Option.map_eq_some_iff.1 esComp
  obtain ⟨j, hj, hjs⟩ := Option.map_eq_some_iff.1 esSize
  have heq := fun w => run_eql_iface_ptr_same (P := Tryd.prog) w a (ti := 27) (tp := 119) Tryd.underlying27 Tryd.underlying119 hi hcmp hj
  go_enter Tryd.func62, Tryd.ntmps62
  go_wp2_with (first
    | ((with_reducible refine Reg.wp_region_text ?_ ?_ ?_); (kernel_rfl); (kernel_rfl))
    | ((with_reducible refine Reg.text_nil ?_))
    | ((with_reducible refine Reg.text_plain ?_ ?_); (rfl); (intro K hK))
    | ((with_reducible apply Reg.text_nilCheck); (rfl); (intro K hK))
    | ((with_reducible apply Reg.text_bin); (rfl); (rfl); (intro K hK))
    | ((with_reducible refine Reg.text_loud ?_ ?_); (rfl); (intro K hK))
    | ((with_reducible refine Reg.text_skipG ?_ ?_); (rfl); (intro K hK)))
  go_ret
  exact ⟨rfl, by (repeat (first | exact drawn0 _ | apply drawn1 | apply drawnN))⟩
set_option maxRecDepth 100000 in
set_option maxHeartbeats 1000000 in
theorem alike_other (a b : Addr) (ca cb : Array Value) (ta tb : TypeId) (w : World) (hne : a ≠ b) (ha : w.heap[a.block]? = some (.cells ca ta (0, 0))) (hb : w.heap[b.block]? = some (.cells cb tb (0, 0))) :
    Calls Tryd.prog 62 #[.iface 119 (.pointer (some a)), .iface 119 (.pointer (some b))] w (Same w (.bool false)) := by
  obtain ⟨i, hi, hcmp⟩ := Option.map_eq_some_iff.1 esComp
  obtain ⟨j, hj, hjs⟩ := Option.map_eq_some_iff.1 esSize
  have heq := run_eql_iface_ptr_other (P := Tryd.prog) w (ti := 27) (tp := 119) Tryd.underlying27 Tryd.underlying119 hi hcmp hj (by rw [hjs]; decide) hne ha hb
  go_enter Tryd.func62, Tryd.ntmps62
  go_wp2_with (first
    | ((with_reducible refine Reg.wp_region_text ?_ ?_ ?_); (kernel_rfl); (kernel_rfl))
    | ((with_reducible refine Reg.text_nil ?_))
    | ((with_reducible refine Reg.text_plain ?_ ?_); (rfl); (intro K hK))
    | ((with_reducible apply Reg.text_nilCheck); (rfl); (intro K hK))
    | ((with_reducible apply Reg.text_bin); (rfl); (rfl); (intro K hK))
    | ((with_reducible refine Reg.text_loud ?_ ?_); (rfl); (intro K hK))
    | ((with_reducible refine Reg.text_skipG ?_ ?_); (rfl); (intro K hK)))
  go_ret
  exact ⟨rfl, by (repeat (first | exact drawn0 _ | apply drawn1 | apply drawnN))⟩

set_option maxRecDepth 100000 in
set_option maxHeartbeats 2000000 in
theorem sentinels_core (a0 a1 a2 a3 a4 a5 a6 a7 a8 a9 a10 a11 a12 a13 a14 a15 : Addr) (w : World)
    (h0 : w.cell? ⟨3, 0, none⟩ = some (.iface 119 (.pointer (some a0)))) (h1 : w.cell? ⟨4, 0, none⟩ = some (.iface 119 (.pointer (some a1)))) (h2 : w.cell? ⟨0, 0, none⟩ = some (.iface 119 (.pointer (some a2)))) (h3 : w.cell? ⟨5, 0, none⟩ = some (.iface 119 (.pointer (some a3))))
    (h4 : w.cell? ⟨6, 0, none⟩ = some (.iface 119 (.pointer (some a4)))) (h5 : w.cell? ⟨1, 0, none⟩ = some (.iface 119 (.pointer (some a5)))) (h6 : w.cell? ⟨2, 0, none⟩ = some (.iface 119 (.pointer (some a6)))) (h7 : w.cell? ⟨7, 0, none⟩ = some (.iface 119 (.pointer (some a7))))
    (h8 : w.cell? ⟨8, 0, none⟩ = some (.iface 119 (.pointer (some a8)))) (h9 : w.cell? ⟨9, 0, none⟩ = some (.iface 119 (.pointer (some a9)))) (h10 : w.cell? ⟨10, 0, none⟩ = some (.iface 119 (.pointer (some a10)))) (h11 : w.cell? ⟨11, 0, none⟩ = some (.iface 119 (.pointer (some a11))))
    (h12 : w.cell? ⟨12, 0, none⟩ = some (.iface 119 (.pointer (some a12)))) (h13 : w.cell? ⟨13, 0, none⟩ = some (.iface 119 (.pointer (some a13)))) (h14 : w.cell? ⟨14, 0, none⟩ = some (.iface 119 (.pointer (some a14)))) (h15 : w.cell? ⟨15, 0, none⟩ = some (.iface 119 (.pointer (some a15)))) :
    Calls Tryd.prog 61 #[] w fun e w' => e = .returned (.slice (some ⟨w.heap.size, 0, none⟩) 16 16) ∧ ∃ n, w' = (w.alloc (.cells #[.iface 119 (.pointer (some a0)), .iface 119 (.pointer (some a1)), .iface 119 (.pointer (some a2)), .iface 119 (.pointer (some a3)), .iface 119 (.pointer (some a4)), .iface 119 (.pointer (some a5)), .iface 119 (.pointer (some a6)), .iface 119 (.pointer (some a7)), .iface 119 (.pointer (some a8)), .iface 119 (.pointer (some a9)), .iface 119 (.pointer (some a10)), .iface 119 (.pointer (some a11)), .iface 119 (.pointer (some a12)), .iface 119 (.pointer (some a13)), .iface 119 (.pointer (some a14)), .iface 119 (.pointer (some a15))] 27)).drewN n := by
  go_enter Tryd.func61, Tryd.ntmps61
  go_wp2_with (first
    | ((with_reducible refine Reg.wp_region_text ?_ ?_ ?_); (kernel_rfl); (kernel_rfl))
    | ((with_reducible refine Reg.text_nil ?_))
    | ((with_reducible refine Reg.text_plain ?_ ?_); (rfl); (intro K hK))
    | ((with_reducible apply Reg.text_nilCheck); (rfl); (intro K hK))
    | ((with_reducible apply Reg.text_bin); (rfl); (rfl); (intro K hK))
    | ((with_reducible refine Reg.text_loud ?_ ?_); (rfl); (intro K hK))
    | ((with_reducible refine Reg.text_skipG ?_ ?_); (rfl); (intro K hK)))
  go_ret
  exact ⟨rfl, by (repeat (first | exact drawn0 _ | apply drawn1 | apply drawnN))⟩

theorem list16 {α : Type} : ∀ (l : List α), l.length = 16 → ∃ a0 a1 a2 a3 a4 a5 a6 a7 a8 a9 a10 a11 a12 a13 a14 a15, l = [a0, a1, a2, a3, a4, a5, a6, a7, a8, a9, a10, a11, a12, a13, a14, a15]
  | [a0, a1, a2, a3, a4, a5, a6, a7, a8, a9, a10, a11, a12, a13, a14, a15], _ => ⟨a0, a1, a2, a3, a4, a5, a6, a7, a8, a9, a10, a11, a12, a13, a14, a15, rfl⟩

def errVal (a : Addr) : Value := .iface 119 (.pointer (some a))

theorem sentinels_calls {w : World} {ads : List Addr} (h : Sents w ads) :
    Calls Tryd.prog 61 #[] w fun e w' => e = .returned (.slice (some ⟨w.heap.size, 0, none⟩) 16 16) ∧ ∃ n, w' = (w.alloc (.cells (ads.map errVal).toArray 27)).drewN n := by
  obtain ⟨a0, a1, a2, a3, a4, a5, a6, a7, a8, a9, a10, a11, a12, a13, a14, a15, rfl⟩ := list16 ads h.len
  exact sentinels_core a0 a1 a2 a3 a4 a5 a6 a7 a8 a9 a10 a11 a12 a13 a14 a15 w (h.cell 0 3 _ rfl rfl) (h.cell 1 4 _ rfl rfl) (h.cell 2 0 _ rfl rfl) (h.cell 3 5 _ rfl rfl) (h.cell 4 6 _ rfl rfl) (h.cell 5 1 _ rfl rfl) (h.cell 6 2 _ rfl rfl)
    (h.cell 7 7 _ rfl rfl) (h.cell 8 8 _ rfl rfl) (h.cell 9 9 _ rfl rfl) (h.cell 10 10 _ rfl rfl) (h.cell 11 11 _ rfl rfl) (h.cell 12 12 _ rfl rfl) (h.cell 13 13 _ rfl rfl) (h.cell 14 14 _ rfl rfl) (h.cell 15 15 _ rfl rfl)

theorem alike_not {w : World} {ads : List Addr} (h : Sents w ads) {i k : Nat} {a b : Addr} (hi : ads[i]? = some a) (hk : ads[k]? = some b) (hne : i ≠ k) :
    Calls Tryd.prog 62 #[.iface 119 (.pointer (some a)), .iface 119 (.pointer (some b))] w (Same w (.bool false)) := by
  obtain ⟨ca, ta, ha⟩ := h.blk a (List.mem_of_getElem? hi)
  obtain ⟨cb, tb, hb⟩ := h.blk b (List.mem_of_getElem? hk)
  refine alike_other a b ca cb ta tb w (fun e => hne ?_) ha hb
  exact (List.getElem?_inj (List.getElem?_eq_some_iff.1 hi).1 h.nd).1 (by rw [hi, hk, e])

set_option maxRecDepth 100000 in
set_option maxHeartbeats 1000000 in
theorem sentinel_calls {w : World} {ads : List Addr} {k : Nat} {a : Addr} (h : Sents w ads) (hk : ads[k]? = some a) :
    Calls Tryd.prog 48 #[.iface 119 (.pointer (some a))] w fun e w' => e = .returned (.int .i64 (101 + k)) ∧ Ext w w' := by
  have HS := Lib.hid h
  have hk16 : k < 16 := by have := (List.getElem?_eq_some_iff.1 hk).1; have h2 := h.len; simp [sentG] at h2; omega
  have hlen : ads.length = 16 := h.len
  have HK := Lib.hid hk
  have HL := Lib.hid hlen
  clear h hk hlen
  go_enter Tryd.func48, Tryd.ntmps48
  go_wp2_with (first
    | ((go_at_call 61; refine (sentinels_calls HS.out).mono ?_; rintro e w1 ⟨rfl, hw1⟩; have HW := Lib.hid hw1; clear hw1))
    | ((with_reducible refine Reg.wp_region_text ?_ ?_ ?_); (kernel_rfl); (kernel_rfl))
    | ((with_reducible refine Reg.text_nil ?_))
    | ((with_reducible refine Reg.text_plain ?_ ?_); (rfl); (intro K hK))
    | ((with_reducible apply Reg.text_nilCheck); (rfl); (intro K hK))
    | ((with_reducible apply Reg.text_bin); (rfl); (rfl); (intro K hK))
    | ((with_reducible refine Reg.text_loud ?_ ?_); (rfl); (intro K hK))
    | ((with_reducible refine Reg.text_skipG ?_ ?_); (rfl); (intro K hK)))
  have hb1 : Blk w1 w.heap.size (ads.map errVal).toArray 27 := by
    obtain ⟨n, rfl⟩ := HW.out
    exact (Blk.new w _ _).drewN n
  have he1 : Ext w w1 := by
    obtain ⟨n, rfl⟩ := HW.out
    exact ((Only.refl _ w).alloc _).drewN n
  have HB := Lib.hid hb1
  have HE := Lib.hid he1
  clear hb1 he1
  go_loopw [4] (fun t wr => ∃ i : Nat, t = .int .i64 i ∧ i ≤ k ∧ Hid (Ext w1 wr)) (fun t _ => 16 - (intOf t).toNat)
  case atStart => exact ⟨0, rfl, Nat.zero_le _, Only.refl _ _⟩
  case round =>
    obtain ⟨i, rfl, hik, hx⟩ := hrel
    obtain ⟨b, hb⟩ : ∃ b, ads[i]? = some b := ⟨_, List.getElem?_eq_getElem (by have := HL.out; omega)⟩
    have hc : wr.cell? ⟨w.heap.size, i, none⟩ = some (.iface 119 (.pointer (some b))) := (hx.out.blk HB.out (fun h => h)).cell_some (by rw [List.getElem?_toArray, List.getElem?_map, hb]; rfl)
    have HSr := Lib.hid (HS.out.ext (HE.out.trans hx.out (fun _ _ h => h)))
    have HBb := Lib.hid hb
    clear hb
    by_cases hik' : i = k
    · obtain rfl : a = b := by have h1 := HK.out; have h2 := HBb.out; rw [hik'] at h2; exact Option.some.inj (h1.symm.trans h2)
      subst hik'
      go_wp2_with (first
    | ((go_at_call 62; refine (alike_same _ _).mono ?_; rintro e w2 ⟨rfl, n, rfl⟩))
    | ((with_reducible refine Reg.wp_region_text ?_ ?_ ?_); (kernel_rfl); (kernel_rfl))
    | ((with_reducible refine Reg.text_nil ?_))
    | ((with_reducible refine Reg.text_plain ?_ ?_); (rfl); (intro K hK))
    | ((with_reducible apply Reg.text_nilCheck); (rfl); (intro K hK))
    | ((with_reducible apply Reg.text_bin); (rfl); (rfl); (intro K hK))
    | ((with_reducible refine Reg.text_loud ?_ ?_); (rfl); (intro K hK))
    | ((with_reducible refine Reg.text_skipG ?_ ?_); (rfl); (intro K hK)))
      go_ret
      exact ⟨rfl, (HE.out.trans hx.out (fun _ _ h => h)).drewN _⟩
    · go_wp2_with (first
    | ((go_at_call 62; refine (alike_not HSr.out HK.out HBb.out (fun e => hik' e.symm)).mono ?_; rintro e w2 ⟨rfl, n, rfl⟩))
    | ((with_reducible refine Reg.wp_region_text ?_ ?_ ?_); (kernel_rfl); (kernel_rfl))
    | ((with_reducible refine Reg.text_nil ?_))
    | ((with_reducible refine Reg.text_plain ?_ ?_); (rfl); (intro K hK))
    | ((with_reducible apply Reg.text_nilCheck); (rfl); (intro K hK))
    | ((with_reducible apply Reg.text_bin); (rfl); (rfl); (intro K hK))
    | ((with_reducible refine Reg.text_loud ?_ ?_); (rfl); (intro K hK))
    | ((with_reducible refine Reg.text_skipG ?_ ?_); (rfl); (intro K hK)))
      go_roundw
      case rel => exact ⟨i + 1, by simp, by omega, hx.out.drewN _⟩
      case measure => simp [intOf]; omega


set_option maxRecDepth 100000 in
set_option maxHeartbeats 1000000 in
theorem bare_calls (n : Int) (w : World) : Calls Tryd.prog 34 #[.int .i64 n] w fun e w' => e = .returned (.agg #[.int .i64 n, .bool false, .int .i64 0]) ∧ Ext w w' := by
  go_enter Tryd.func34, Tryd.ntmps34
  go_wp2_with (first
    | ((with_reducible refine Reg.wp_region_text ?_ ?_ ?_); (kernel_rfl); (kernel_rfl))
    | ((with_reducible refine Reg.text_nil ?_))
    | ((with_reducible refine Reg.text_plain ?_ ?_); (rfl); (intro K hK))
    | ((with_reducible apply Reg.text_nilCheck); (rfl); (intro K hK))
    | ((with_reducible apply Reg.text_bin); (rfl); (rfl); (intro K hK))
    | ((with_reducible refine Reg.text_loud ?_ ?_); (rfl); (intro K hK))
    | ((with_reducible refine Reg.text_skipG ?_ ?_); (rfl); (intro K hK)))
  refine bodyPost_ret (results_cell_row rfl _ _ w.heap.size _ _ _ _ rfl (Blk.new w _ _) Tryd.underlying72 rfl (by kernel_rfl)) rfl ?_
  exact ⟨rfl, (Only.refl _ w).alloc _⟩

set_option maxRecDepth 100000 in
set_option maxHeartbeats 1000000 in
theorem none_calls (w : World) : Calls Tryd.prog 47 #[] w fun e w' => e = .returned (.agg #[.int .i64 0, .bool false, .int .i64 0]) ∧ Ext w w' := by
  go_enter Tryd.func47, Tryd.ntmps47
  go_wp2_with (first
    | ((with_reducible refine Reg.wp_region_text ?_ ?_ ?_); (kernel_rfl); (kernel_rfl))
    | ((with_reducible refine Reg.text_nil ?_))
    | ((with_reducible refine Reg.text_plain ?_ ?_); (rfl); (intro K hK))
    | ((with_reducible apply Reg.text_nilCheck); (rfl); (intro K hK))
    | ((with_reducible apply Reg.text_bin); (rfl); (rfl); (intro K hK))
    | ((with_reducible refine Reg.text_loud ?_ ?_); (rfl); (intro K hK))
    | ((with_reducible refine Reg.text_skipG ?_ ?_); (rfl); (intro K hK)))
  refine bodyPost_ret (results_cell_row rfl _ _ w.heap.size _ _ _ _ rfl (Blk.new w _ _) Tryd.underlying72 rfl (by kernel_rfl)) rfl ?_
  exact ⟨rfl, (Only.refl _ w).alloc _⟩

set_option maxRecDepth 100000 in
set_option maxHeartbeats 1000000 in
theorem sameFault_calls (n m : Int) (w : World) : Calls Tryd.prog 42 #[(.agg #[.int .i64 n, .bool false, .int .i64 0]), (.agg #[.int .i64 m, .bool false, .int .i64 0])] w fun e w' => e = .returned (.bool (n == m)) ∧ Ext w w' := by
  go_enter Tryd.func42, Tryd.ntmps42
  go_wp2_with (first
    | ((with_reducible refine Reg.wp_region_text ?_ ?_ ?_); (kernel_rfl); (kernel_rfl))
    | ((with_reducible refine Reg.text_nil ?_))
    | ((with_reducible refine Reg.text_plain ?_ ?_); (rfl); (intro K hK))
    | ((with_reducible apply Reg.text_nilCheck); (rfl); (intro K hK))
    | ((with_reducible apply Reg.text_bin); (rfl); (rfl); (intro K hK))
    | ((with_reducible refine Reg.text_loud ?_ ?_); (rfl); (intro K hK))
    | ((with_reducible refine Reg.text_skipG ?_ ?_); (rfl); (intro K hK)))
  all_goals go_ret
  all_goals refine ⟨?_, ((Only.refl _ w).alloc _).alloc _⟩
  all_goals simp [*]

set_option maxRecDepth 100000 in
set_option maxHeartbeats 1000000 in
theorem fault_nil (w : World) : Calls Tryd.prog 43 #[.nilIface] w fun e w' => e = .returned (.agg #[.int .i64 0, .bool false, .int .i64 0]) ∧ Ext w w' := by
  go_enter Tryd.func43, Tryd.ntmps43
  go_wp2_with (first
    | ((go_at_call 47; refine (none_calls _).mono ?_; rintro e w1 ⟨rfl, hw1⟩; have hb := hw1.blk (Blk.new w _ _) (fun h => h); have d0 := hb.cell_some (o := 0) rfl; have d1 := hb.cell_some (o := 1) rfl; have d2 := hb.cell_some (o := 2) rfl; have f0 := hb.free 0; have f1 := hb.free 1; have f2 := hb.free 2; have HB := Lib.hid hb; have HW := Lib.hid hw1; clear hb hw1))
    | ((with_reducible refine Reg.wp_region_text ?_ ?_ ?_); (kernel_rfl); (kernel_rfl))
    | ((with_reducible refine Reg.text_nil ?_))
    | ((with_reducible refine Reg.text_plain ?_ ?_); (rfl); (intro K hK))
    | ((with_reducible apply Reg.text_nilCheck); (rfl); (intro K hK))
    | ((with_reducible apply Reg.text_bin); (rfl); (rfl); (intro K hK))
    | ((with_reducible refine Reg.text_loud ?_ ?_); (rfl); (intro K hK))
    | ((with_reducible refine Reg.text_skipG ?_ ?_); (rfl); (intro K hK)))
  refine bodyPost_ret (results_cell_row rfl _ _ w.heap.size _ _ _ _ rfl (((HB.out.set 0 _).set 1 _).set 2 _) Tryd.underlying72 rfl (by kernel_rfl)) rfl ?_
  refine ⟨rfl, ?_⟩
  exact ((((((Only.refl _ w).alloc _).trans HW.out (fun _ _ h => h)).setCell (a := ⟨w.heap.size, 0, none⟩) _ (fun h => absurd h (Nat.lt_irrefl _))).setCell (a := ⟨w.heap.size, 1, none⟩) _ (fun h => absurd h (Nat.lt_irrefl _))).setCell (a := ⟨w.heap.size, 2, none⟩) _ (fun h => absurd h (Nat.lt_irrefl _)))

set_option maxRecDepth 100000 in
set_option maxHeartbeats 1000000 in
theorem fault_err {w : World} {ads : List Addr} {k : Nat} {a : Addr} (h : Sents w ads) (hk : ads[k]? = some a) :
    Calls Tryd.prog 43 #[.iface 119 (.pointer (some a))] w fun e w' => e = .returned (.agg #[.int .i64 (101 + k), .bool false, .int .i64 0]) ∧ Ext w w' := by
  have hT : ∀ w, Sem.run Tryd.prog (Instr.typeAssert (Value.iface 119 (Value.pointer (some a))) 27 91 true) w = Result.ok (Value.tuple #[Value.pointer none, .bool false]) w := fun _ => by kernel_rfl
  have HS := Lib.hid h
  have HK := Lib.hid hk
  clear h hk
  go_enter Tryd.func43, Tryd.ntmps43
  go_wp2_with (first
    | ((go_at_call 48; refine (sentinel_calls (HS.out.ext ((Only.refl _ w).alloc _)) HK.out).mono ?_; rintro e w1 ⟨rfl, hw1⟩; have hb := hw1.blk (Blk.new w _ _) (fun h => h); have HW := Lib.hid hw1; have HB := Lib.hid hb; clear hw1 hb))
    | ((go_at_call 34; refine (bare_calls _ _).mono ?_; rintro e w2 ⟨rfl, hw2⟩; have hb := hw2.blk HB.out (fun h => h); have d0 := hb.cell_some (o := 0) rfl; have d1 := hb.cell_some (o := 1) rfl; have d2 := hb.cell_some (o := 2) rfl; have f0 := hb.free 0; have f1 := hb.free 1; have f2 := hb.free 2; have HB2 := Lib.hid hb; have HW2 := Lib.hid hw2; clear hb hw2))
    | ((with_reducible refine Reg.wp_region_text ?_ ?_ ?_); (kernel_rfl); (kernel_rfl))
    | ((with_reducible refine Reg.text_nil ?_))
    | ((with_reducible refine Reg.text_plain ?_ ?_); (rfl); (intro K hK))
    | ((with_reducible apply Reg.text_nilCheck); (rfl); (intro K hK))
    | ((with_reducible apply Reg.text_bin); (rfl); (rfl); (intro K hK))
    | ((with_reducible refine Reg.text_loud ?_ ?_); (rfl); (intro K hK))
    | ((with_reducible refine Reg.text_skipG ?_ ?_); (rfl); (intro K hK)))
  refine bodyPost_ret (results_cell_row rfl _ _ w.heap.size _ _ _ _ rfl (((HB2.out.set 0 _).set 1 _).set 2 _) Tryd.underlying72 rfl (by kernel_rfl)) rfl ?_
  refine ⟨rfl, ?_⟩
  exact (((((((Only.refl _ w).alloc _).trans HW.out (fun _ _ h => h)).trans HW2.out (fun _ _ h => h)).setCell (a := ⟨w.heap.size, 0, none⟩) _ (fun h => absurd h (Nat.lt_irrefl _))).setCell (a := ⟨w.heap.size, 1, none⟩) _ (fun h => absurd h (Nat.lt_irrefl _))).setCell (a := ⟨w.heap.size, 2, none⟩) _ (fun h => absurd h (Nat.lt_irrefl _)))

/-- What an error is as a fault: its code. -/
inductive Coded (ads : List Addr) : Value → Int → Prop
  | fine : Coded ads .nilIface 0
  | err {k : Nat} {a : Addr} (h : ads[k]? = some a) : Coded ads (.iface 119 (.pointer (some a))) (101 + k)

theorem fault_calls {w : World} {ads : List Addr} {x : Value} {c : Int} (h : Sents w ads) (hx : Coded ads x c) :
    Calls Tryd.prog 43 #[x] w fun e w' => e = .returned (.agg #[.int .i64 c, .bool false, .int .i64 0]) ∧ Ext w w' := by
  cases hx with
  | fine => exact fault_nil w
  | err hk => exact fault_err h hk

set_option maxRecDepth 100000 in
set_option maxHeartbeats 1000000 in
theorem same_calls {w : World} {ads : List Addr} {x : Value} {c n : Int} (h : Sents w ads) (hx : Coded ads x c) :
    Calls Tryd.prog 33 #[x, (.agg #[.int .i64 n, .bool false, .int .i64 0])] w fun e w' => e = .returned (.bool (c == n)) ∧ Ext w w' := by
  have HS := Lib.hid h
  have HK := Lib.hid hx
  clear h hx
  go_enter Tryd.func33, Tryd.ntmps33
  have hb0 : Blk (w.alloc (.cells #[.int .i64 n, .bool false, .int .i64 0] 72)) w.heap.size #[.int .i64 n, .bool false, .int .i64 0] 72 := Blk.new w _ _
  have hb0d : (w.alloc (.cells #[.int .i64 n, .bool false, .int .i64 0] 72)).drew.heap[w.heap.size]? = some (.cells #[.int .i64 n, .bool false, .int .i64 0] 72 (0, 0)) := hb0
  go_wp2_with (first
    | ((go_at_call 43; refine (fault_calls (HS.out.ext (((Only.refl _ w).alloc _).drewN 1)) HK.out).mono ?_; rintro e w1 ⟨rfl, hw1⟩; have hb1 := hw1.blk (hb0.drewN 1) (fun h => h); have HW := Lib.hid hw1; clear hw1))
    | ((go_at_call 42; refine (sameFault_calls _ _ _).mono ?_; rintro e w2 ⟨rfl, hw2⟩; have HW2 := Lib.hid hw2; clear hw2))
    | (((with_reducible refine Ro.walk_late_row ?_ hb0d Tryd.underlying72 ?_ ?_ ?_); (rfl); (rfl); (kernel_rfl); (intro K hK)))
    | (((with_reducible refine Ro.keeps_blk ?_ ?_ ?_); (rfl); (focus (exact hb1))))
    | ((with_reducible refine Ro.wp_region_walk (id := 1) [(7, 6)] [2,0,1,3,4] _ ?_ ?_ (by simp only [Reg.opsOf, List.map_cons, List.map_nil, Array.getD_eq_getD_getElem?, List.getElem?_toArray, List.getElem?_cons_zero, List.getElem?_cons_succ, Option.getD_some]; rfl) ?_); (kernel_rfl); (kernel_rfl))
    | ((with_reducible refine Ro.walk_nil ?_))
    | ((with_reducible refine Ro.walk_plain ?_ ?_ ?_); (rfl); (rfl); (intro K hK))
    | ((with_reducible apply Ro.walk_late); (rfl); (intro w'; kernel_rfl); (focus (first | (with_reducible assumption) | (simp only [World.cell?_drew, World.cell?_drewN]; with_reducible assumption) | (go_simp; exact rfl) | (go_simp; done))); (intro K hK))
    | ((with_reducible apply Ro.walk_nilCheck); (rfl); (rfl); (intro K hK))
    | ((with_reducible apply Ro.walk_bin); (rfl); (rfl); (rfl); (intro K hK))
    | ((with_reducible refine Ro.walk_loud ?_ ?_); (rfl); (intro K hK))
    | ((with_reducible refine Ro.Then.mk ?_ ?_))
    | ((with_reducible exact Ro.keeps_nil))
    | ((with_reducible refine Ro.keeps_skip ?_ ?_); (rfl))
    | ((with_reducible refine Ro.keeps_here ?_ ?_ ?_); (rfl); (focus (first | (with_reducible assumption) | (simp only [World.cell?_drew, World.cell?_drewN]; with_reducible assumption) | (go_simp; exact rfl) | (go_simp; done))))
    | ((with_reducible refine Reg.wp_region_text ?_ ?_ ?_); (kernel_rfl); (kernel_rfl))
    | ((with_reducible refine Reg.text_nil ?_))
    | ((with_reducible refine Reg.text_plain ?_ ?_); (rfl); (intro K hK))
    | ((with_reducible apply Reg.text_nilCheck); (rfl); (intro K hK))
    | ((with_reducible apply Reg.text_bin); (rfl); (rfl); (intro K hK))
    | ((with_reducible refine Reg.text_loud ?_ ?_); (rfl); (intro K hK))
    | ((with_reducible refine Reg.text_skipG ?_ ?_); (rfl); (intro K hK)))
  go_ret
  exact ⟨rfl, ((((Only.refl _ w).alloc _).drewN 1).trans HW.out (fun _ _ h => h)).trans HW2.out (fun _ _ h => h)⟩
end Go.Proofs.YtjchfkpcglpgdaaDoor
