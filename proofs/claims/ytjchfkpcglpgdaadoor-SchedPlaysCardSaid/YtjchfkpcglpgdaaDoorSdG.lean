/-
  The scheduler in memory: Sleep, Ran, Pick, and what is refused.
-/
import Derived.Test.YtjchfkpcglpgdaaDoorSdF
set_option linter.unusedSimpArgs false
set_option linter.unusedVariables false
namespace Go.Proofs.YtjchfkpcglpgdaaDoor
open Go.RowKit Go.Hp

set_option maxRecDepth 100000 in
set_option maxHeartbeats 1000000 in
theorem sleep_core (s : Bool) (T : Turns) (bs bm bo i br ba k : Nat) (id id' we us ti till : Int) (w : World) (P Q : World → Prop)
    (hbs : ¬ T.fp bs) (hbsl : bs < w.heap.size)
    (h0 : w.cell? ⟨bs, 0, none⟩ = some (.map (some bm))) (h1 : w.cell? ⟨bs, 1, none⟩ = some (.pointer (some ⟨br, 0, none⟩))) (h2 : w.cell? ⟨bs, 2, none⟩ = some (.pointer (some ⟨ba, 0, none⟩)))
    (hlk : ∀ w' : World, w'.heap[bm]? = w.heap[bm]? → (Instr.lookup 56 (.map (some bm)) (.int .i64 id) false).run Tryd.prog w' = .ok (.pointer (some ⟨bo, 0, none⟩)) w')
    (h3 : w.cell? ⟨bo, 3, none⟩ = some (.bool s)) (h5 : w.cell? ⟨bo, 5, none⟩ = some (.int .i64 i))
    (hT : (if s then ba else br) = T.bt)
    (hrm : Hid (∀ n, Calls Tryd.prog 32 #[.iface 57 (.pointer (some ⟨T.bt, 0, none⟩)), .int .i64 i] (w.drewN n) fun e w' => e = .returned (.iface 63 (.pointer (some ⟨bo, 0, none⟩))) ∧ Only T.fp w w' ∧
      Blk w' bo #[.int .i64 id', .int .i64 we, .int .i64 us, .bool s, .int .i64 ti, .int .i64 k] 65 ∧ P w'))
    (hpu : Hid (∀ w2, Only T.fp w w2 → Blk w2 bo #[.int .i64 id', .int .i64 we, .int .i64 us, .bool s, .int .i64 ti, .int .i64 k] 65 → P w2 →
      Calls Tryd.prog 29 #[.iface 57 (.pointer (some ⟨ba, 0, none⟩)), .iface 63 (.pointer (some ⟨bo, 0, none⟩))] ((w2.setCell ⟨bo, 3, none⟩ (.bool true)).setCell ⟨bo, 4, none⟩ (.int .i64 till)) fun e w' => e = .returned (.tuple #[]) ∧ Q w')) :
    Calls Tryd.prog 16 #[.pointer (some ⟨bs, 0, none⟩), .int .i64 id, .int .i64 till] w fun e w' => e = .returned .nilIface ∧ ∃ w2 n, Q w2 ∧ w' = w2.drewN n := by
  cases s
  all_goals simp only [Bool.false_eq_true, if_false, if_true] at hT
  all_goals subst hT
  all_goals go_enter Tryd.func16, Tryd.ntmps16
  all_goals (go_wp2_with (first
    | ((go_at_call 31; go_in))
    | ((go_at_call 32; refine (hrm.out 1).mono ?_; rintro e w2 ⟨rfl, ho2, hb2, hP2⟩; have c2' := (World.cell?_of_block (a := ⟨bs, 2, none⟩) (ho2.block bs hbsl hbs)).trans h2; have d3 := hb2.cell_some (o := 3) rfl; have d4 := hb2.cell_some (o := 4) rfl; have e3 := hb2.free 3; have e4 := hb2.free 4; have HC := Lib.hid (hpu.out w2 ho2 hb2 hP2); clear ho2 hb2 hP2))
    | ((go_at_call 29; refine HC.out.mono ?_; rintro e w3 ⟨rfl, hQ3⟩; have HQ := Lib.hid hQ3; clear hQ3))
    | ((with_reducible refine Ro.wp_region_walk (id := 4) [(24, 19)] [4,5,6,7,0,1,2,3,8] _ ?_ ?_ (by simp only [Reg.opsOf, List.map_cons, List.map_nil, Array.getD_eq_getD_getElem?, List.getElem?_toArray, List.getElem?_cons_zero, List.getElem?_cons_succ, Option.getD_some]; rfl) ?_); (kernel_rfl); (kernel_rfl))
    | ((with_reducible refine Ro.walk_nil ?_))
    | ((with_reducible refine Ro.walk_plain ?_ ?_ ?_); (rfl); (rfl); (intro K hK))
    | ((with_reducible apply Ro.walk_late); (rfl); (intro w'; kernel_rfl); (focus (first | (with_reducible assumption) | (simp only [World.cell?_drew, World.cell?_drewN]; with_reducible assumption) | (go_simp; exact rfl) | (go_simp; done))); (intro K hK))
    | ((with_reducible apply Ro.walk_nilCheck); (rfl); (rfl); (intro K hK))
    | ((with_reducible apply Ro.walk_bin); (rfl); (rfl); (rfl); (intro K hK))
    | ((with_reducible refine Ro.walk_loud ?_ ?_); (rfl); (intro K hK))
    | ((with_reducible refine Ro.Then.mk ?_ ?_))
    | ((with_reducible exact Ro.keeps_nil))
    | ((with_reducible refine Ro.keeps_skip ?_ ?_); (rfl))
    | ((with_reducible refine Ro.keeps_here ?_ ?_ ?_); (rfl); (focus (first | (with_reducible assumption) | (simp only [World.cell?_drew, World.cell?_drewN]; with_reducible assumption) | (go_simp; exact rfl) | (go_simp; done))))
    | ((with_reducible refine Reg.wp_region_text ?_ ?_ ?_); (kernel_rfl); (kernel_rfl))
    | ((with_reducible refine Reg.text_nil ?_))
    | ((with_reducible refine Reg.text_plain ?_ ?_); (rfl); (intro K hK))
    | ((with_reducible apply Reg.text_nilCheck); (rfl); (intro K hK))
    | ((with_reducible apply Reg.text_bin); (rfl); (rfl); (intro K hK))
    | ((with_reducible refine Reg.text_loud ?_ ?_); (rfl); (intro K hK))
    | ((with_reducible refine Reg.text_skipG ?_ ?_); (rfl); (intro K hK))))
  all_goals go_ret
  all_goals exact ⟨rfl, _, 0, HQ.out, rfl⟩

set_option maxRecDepth 100000 in
set_option maxHeartbeats 1000000 in
theorem ran_core (s : Bool) (T : Turns) (bs bm bo i br ba : Nat) (id we us steps : Int) (w : World) (Q : World → Prop)
    (hso : bs ≠ bo)
    (h0 : w.cell? ⟨bs, 0, none⟩ = some (.map (some bm))) (h1 : w.cell? ⟨bs, 1, none⟩ = some (.pointer (some ⟨br, 0, none⟩))) (h2 : w.cell? ⟨bs, 2, none⟩ = some (.pointer (some ⟨ba, 0, none⟩)))
    (hlk : ∀ w' : World, w'.heap[bm]? = w.heap[bm]? → (Instr.lookup 56 (.map (some bm)) (.int .i64 id) false).run Tryd.prog w' = .ok (.pointer (some ⟨bo, 0, none⟩)) w')
    (c1 : w.cell? ⟨bo, 1, none⟩ = some (.int .i64 we)) (c2 : w.cell? ⟨bo, 2, none⟩ = some (.int .i64 us)) (h3 : w.cell? ⟨bo, 3, none⟩ = some (.bool s)) (h5 : w.cell? ⟨bo, 5, none⟩ = some (.int .i64 i)) (f2 : w.frozen? ⟨bo, 2, none⟩ = false)
    (hT : (if s then ba else br) = T.bt) (hw1 : 1 ≤ we) (hw2 : we ≤ 100) (hu1 : 0 ≤ us) (hu2 : us ≤ 1152921504606846976) (hs1 : 0 ≤ steps) (hs2 : steps ≤ 1073741824)
    (hfx : Hid (∀ n, Calls Tryd.prog 30 #[.iface 57 (.pointer (some ⟨T.bt, 0, none⟩)), .int .i64 i] ((w.setCell ⟨bo, 2, none⟩ (.int .i64 (min (us + 100 * steps / we) 1152921504606846976))).drewN n) fun e w' => e = .returned (.tuple #[]) ∧ Q w')) :
    Calls Tryd.prog 12 #[.pointer (some ⟨bs, 0, none⟩), .int .i64 id, .int .i64 steps] w fun e w' => e = .returned .nilIface ∧ ∃ w2 n, Q w2 ∧ w' = w2.drewN n := by
  have hdv1 : 0 ≤ 100 * steps / we := Int.ediv_nonneg (by omega) (by omega)
  have hdv2 : 100 * steps / we ≤ 107374182400 := Int.le_trans (Int.ediv_le_self _ (by omega)) (by omega)
  have hfx' : ∀ n (x : Int), x = min (us + 100 * steps / we) 1152921504606846976 → Calls Tryd.prog 30 #[.iface 57 (.pointer (some ⟨T.bt, 0, none⟩)), .int .i64 i] ((w.setCell ⟨bo, 2, none⟩ (.int .i64 x)).drewN n) fun e w' => e = .returned (.tuple #[]) ∧ Q w' := fun n x hx => by subst hx; exact hfx.out n
  have HF := Lib.hid hfx'
  clear hfx hfx'
  cases s
  all_goals simp only [Bool.false_eq_true, if_false, if_true] at hT
  all_goals subst hT
  all_goals go_enter Tryd.func12, Tryd.ntmps12
  all_goals (go_wp2_with (first
    | ((go_at_call 31; go_in))
    | ((go_at_call 30; (refine (HF.out 2 _ ?_).mono ?_); (focus omega); rintro e w3 ⟨rfl, hQ3⟩; have HQ := Lib.hid hQ3; clear hQ3))
    | ((with_reducible refine Ro.wp_region_walk (id := 7) [(49, 44)] [4,5,6,7,0,1,2,3,8] _ ?_ ?_ (by simp only [Reg.opsOf, List.map_cons, List.map_nil, Array.getD_eq_getD_getElem?, List.getElem?_toArray, List.getElem?_cons_zero, List.getElem?_cons_succ, Option.getD_some]; rfl) ?_); (kernel_rfl); (kernel_rfl))
    | ((with_reducible refine Ro.walk_nil ?_))
    | ((with_reducible refine Ro.walk_plain ?_ ?_ ?_); (rfl); (rfl); (intro K hK))
    | ((with_reducible apply Ro.walk_late); (rfl); (intro w'; kernel_rfl); (focus (first | (with_reducible assumption) | (simp only [World.cell?_drew, World.cell?_drewN]; with_reducible assumption) | (go_simp; exact rfl) | (go_simp; done))); (intro K hK))
    | ((with_reducible apply Ro.walk_nilCheck); (rfl); (rfl); (intro K hK))
    | ((with_reducible apply Ro.walk_bin); (rfl); (rfl); (rfl); (intro K hK))
    | ((with_reducible refine Ro.walk_loud ?_ ?_); (rfl); (intro K hK))
    | ((with_reducible refine Ro.Then.mk ?_ ?_))
    | ((with_reducible exact Ro.keeps_nil))
    | ((with_reducible refine Ro.keeps_skip ?_ ?_); (rfl))
    | ((with_reducible refine Ro.keeps_here ?_ ?_ ?_); (rfl); (focus (first | (with_reducible assumption) | (simp only [World.cell?_drew, World.cell?_drewN]; with_reducible assumption) | (go_simp; exact rfl) | (go_simp; done))))
    | ((with_reducible refine Reg.wp_region_text ?_ ?_ ?_); (kernel_rfl); (kernel_rfl))
    | ((with_reducible refine Reg.text_nil ?_))
    | ((with_reducible refine Reg.text_plain ?_ ?_); (rfl); (intro K hK))
    | ((with_reducible apply Reg.text_nilCheck); (rfl); (intro K hK))
    | ((with_reducible apply Reg.text_bin); (rfl); (rfl); (intro K hK))
    | ((with_reducible refine Reg.text_loud ?_ ?_); (rfl); (intro K hK))
    | ((with_reducible refine Reg.text_skipG ?_ ?_); (rfl); (intro K hK))))
  all_goals go_ret
  all_goals exact ⟨rfl, _, HQ.out, 0, rfl⟩

set_option maxRecDepth 100000 in
set_option maxHeartbeats 1000000 in
theorem del_none (bs bm : Nat) (id : Int) (e : Value) (w : World) (hg : w.cell? ⟨2, 0, none⟩ = some e) (h0 : w.cell? ⟨bs, 0, none⟩ = some (.map (some bm)))
    (hlk : ∀ w' : World, w'.heap[bm]? = w.heap[bm]? → (Instr.lookup 56 (.map (some bm)) (.int .i64 id) false).run Tryd.prog w' = .ok (.pointer none) w') :
    Calls Tryd.prog 14 #[.pointer (some ⟨bs, 0, none⟩), .int .i64 id] w fun e' w' => e' = .returned e ∧ ∃ n, w' = w.drewN n := by
  go_enter Tryd.func14, Tryd.ntmps14
  go_wp2_with (first
    | ((with_reducible refine Reg.wp_region_text ?_ ?_ ?_); (kernel_rfl); (kernel_rfl))
    | ((with_reducible refine Reg.text_nil ?_))
    | ((with_reducible refine Reg.text_plain ?_ ?_); (rfl); (intro K hK))
    | ((with_reducible apply Reg.text_nilCheck); (rfl); (intro K hK))
    | ((with_reducible apply Reg.text_bin); (rfl); (rfl); (intro K hK))
    | ((with_reducible refine Reg.text_loud ?_ ?_); (rfl); (intro K hK))
    | ((with_reducible refine Reg.text_skipG ?_ ?_); (rfl); (intro K hK)))
  go_ret
  exact ⟨rfl, by (repeat (first | exact drawn0 _ | apply drawn1 | apply drawnN))⟩

set_option maxRecDepth 100000 in
set_option maxHeartbeats 1000000 in
theorem sleep_none (bs bm : Nat) (id till : Int) (e : Value) (w : World) (hg : w.cell? ⟨2, 0, none⟩ = some e) (h0 : w.cell? ⟨bs, 0, none⟩ = some (.map (some bm)))
    (hlk : ∀ w' : World, w'.heap[bm]? = w.heap[bm]? → (Instr.lookup 56 (.map (some bm)) (.int .i64 id) false).run Tryd.prog w' = .ok (.pointer none) w') :
    Calls Tryd.prog 16 #[.pointer (some ⟨bs, 0, none⟩), .int .i64 id, .int .i64 till] w fun e' w' => e' = .returned e ∧ ∃ n, w' = w.drewN n := by
  go_enter Tryd.func16, Tryd.ntmps16
  go_wp2_with (first
    | ((with_reducible refine Reg.wp_region_text ?_ ?_ ?_); (kernel_rfl); (kernel_rfl))
    | ((with_reducible refine Reg.text_nil ?_))
    | ((with_reducible refine Reg.text_plain ?_ ?_); (rfl); (intro K hK))
    | ((with_reducible apply Reg.text_nilCheck); (rfl); (intro K hK))
    | ((with_reducible apply Reg.text_bin); (rfl); (rfl); (intro K hK))
    | ((with_reducible refine Reg.text_loud ?_ ?_); (rfl); (intro K hK))
    | ((with_reducible refine Reg.text_skipG ?_ ?_); (rfl); (intro K hK)))
  go_ret
  exact ⟨rfl, by (repeat (first | exact drawn0 _ | apply drawn1 | apply drawnN))⟩

set_option maxRecDepth 100000 in
set_option maxHeartbeats 1000000 in
theorem ran_none (bs bm : Nat) (id steps : Int) (e : Value) (w : World) (hg : w.cell? ⟨2, 0, none⟩ = some e) (h0 : w.cell? ⟨bs, 0, none⟩ = some (.map (some bm)))
    (hlk : ∀ w' : World, w'.heap[bm]? = w.heap[bm]? → (Instr.lookup 56 (.map (some bm)) (.int .i64 id) false).run Tryd.prog w' = .ok (.pointer none) w') :
    Calls Tryd.prog 12 #[.pointer (some ⟨bs, 0, none⟩), .int .i64 id, .int .i64 steps] w fun e' w' => e' = .returned e ∧ ∃ n, w' = w.drewN n := by
  go_enter Tryd.func12, Tryd.ntmps12
  go_wp2_with (first
    | ((with_reducible refine Reg.wp_region_text ?_ ?_ ?_); (kernel_rfl); (kernel_rfl))
    | ((with_reducible refine Reg.text_nil ?_))
    | ((with_reducible refine Reg.text_plain ?_ ?_); (rfl); (intro K hK))
    | ((with_reducible apply Reg.text_nilCheck); (rfl); (intro K hK))
    | ((with_reducible apply Reg.text_bin); (rfl); (rfl); (intro K hK))
    | ((with_reducible refine Reg.text_loud ?_ ?_); (rfl); (intro K hK))
    | ((with_reducible refine Reg.text_skipG ?_ ?_); (rfl); (intro K hK)))
  go_ret
  exact ⟨rfl, by (repeat (first | exact drawn0 _ | apply drawn1 | apply drawnN))⟩

set_option maxRecDepth 100000 in
set_option maxHeartbeats 1000000 in
theorem ran_range (bs bm bo : Nat) (id steps : Int) (e : Value) (w : World) (hs : steps < 0 ∨ 1073741824 < steps) (hg : w.cell? ⟨0, 0, none⟩ = some e) (h0 : w.cell? ⟨bs, 0, none⟩ = some (.map (some bm)))
    (hlk : ∀ w' : World, w'.heap[bm]? = w.heap[bm]? → (Instr.lookup 56 (.map (some bm)) (.int .i64 id) false).run Tryd.prog w' = .ok (.pointer (some ⟨bo, 0, none⟩)) w') :
    Calls Tryd.prog 12 #[.pointer (some ⟨bs, 0, none⟩), .int .i64 id, .int .i64 steps] w fun e' w' => e' = .returned e ∧ ∃ n, w' = w.drewN n := by
  rcases hs with hs | hs
  all_goals go_enter Tryd.func12, Tryd.ntmps12
  all_goals (go_wp2_with (first
    | ((with_reducible refine Reg.wp_region_text ?_ ?_ ?_); (kernel_rfl); (kernel_rfl))
    | ((with_reducible refine Reg.text_nil ?_))
    | ((with_reducible refine Reg.text_plain ?_ ?_); (rfl); (intro K hK))
    | ((with_reducible apply Reg.text_nilCheck); (rfl); (intro K hK))
    | ((with_reducible apply Reg.text_bin); (rfl); (rfl); (intro K hK))
    | ((with_reducible refine Reg.text_loud ?_ ?_); (rfl); (intro K hK))
    | ((with_reducible refine Reg.text_skipG ?_ ?_); (rfl); (intro K hK))))
  all_goals go_ret
  all_goals exact ⟨rfl, by (repeat (first | exact drawn0 _ | apply drawn1 | apply drawnN))⟩

set_option maxRecDepth 100000 in
set_option maxHeartbeats 1000000 in
theorem pick_none (bs br cap : Nat) (ao : Option Addr) (w : World) (h1 : w.cell? ⟨bs, 1, none⟩ = some (.pointer (some ⟨br, 0, none⟩))) (hr : w.cell? ⟨br, 0, none⟩ = some (.slice ao 0 cap)) :
    Calls Tryd.prog 17 #[.pointer (some ⟨bs, 0, none⟩)] w fun e' w' => e' = .returned (.tuple #[.int .i64 0, .bool false]) ∧ ∃ n, w' = w.drewN n := by
  go_enter Tryd.func17, Tryd.ntmps17
  go_wp2_with (first
    | ((go_at_call 35; go_in))
    | ((with_reducible refine Reg.wp_region_text ?_ ?_ ?_); (kernel_rfl); (kernel_rfl))
    | ((with_reducible refine Reg.text_nil ?_))
    | ((with_reducible refine Reg.text_plain ?_ ?_); (rfl); (intro K hK))
    | ((with_reducible apply Reg.text_nilCheck); (rfl); (intro K hK))
    | ((with_reducible apply Reg.text_bin); (rfl); (rfl); (intro K hK))
    | ((with_reducible refine Reg.text_loud ?_ ?_); (rfl); (intro K hK))
    | ((with_reducible refine Reg.text_skipG ?_ ?_); (rfl); (intro K hK)))
  go_ret2
  exact ⟨rfl, by (repeat (first | exact drawn0 _ | apply drawn1 | apply drawnN))⟩

set_option maxRecDepth 100000 in
set_option maxHeartbeats 1000000 in
theorem pick_some (bs br ba bo n cap : Nat) (id : Int) (w : World) (hn : 0 < n) (hn8 : n ≤ 8) (h1 : w.cell? ⟨bs, 1, none⟩ = some (.pointer (some ⟨br, 0, none⟩))) (hr : w.cell? ⟨br, 0, none⟩ = some (.slice (some ⟨ba, 0, none⟩) n cap))
    (ha : w.cell? ⟨ba, 0, none⟩ = some (.pointer (some ⟨bo, 0, none⟩))) (ho : w.cell? ⟨bo, 0, none⟩ = some (.int .i64 id)) :
    Calls Tryd.prog 17 #[.pointer (some ⟨bs, 0, none⟩)] w fun e' w' => e' = .returned (.tuple #[.int .i64 id, .bool true]) ∧ ∃ n, w' = w.drewN n := by
  go_enter Tryd.func17, Tryd.ntmps17
  go_wp2_with (first
    | ((go_at_call 35; go_in))
    | ((with_reducible refine Reg.wp_region_text ?_ ?_ ?_); (kernel_rfl); (kernel_rfl))
    | ((with_reducible refine Reg.text_nil ?_))
    | ((with_reducible refine Reg.text_plain ?_ ?_); (rfl); (intro K hK))
    | ((with_reducible apply Reg.text_nilCheck); (rfl); (intro K hK))
    | ((with_reducible apply Reg.text_bin); (rfl); (rfl); (intro K hK))
    | ((with_reducible refine Reg.text_loud ?_ ?_); (rfl); (intro K hK))
    | ((with_reducible refine Reg.text_skipG ?_ ?_); (rfl); (intro K hK)))
  go_ret2
  exact ⟨rfl, by (repeat (first | exact drawn0 _ | apply drawn1 | apply drawnN))⟩
end Go.Proofs.YtjchfkpcglpgdaaDoor
