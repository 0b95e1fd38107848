/-
  The scheduler's heaps: Push and Pop of them.
-/
import Derived.Test.YtjchfkpcglpgdaaDoorSdA
import Derived.Lib.Hide
set_option linter.unusedSimpArgs false
set_option linter.unusedVariables false
namespace Go.Proofs.YtjchfkpcglpgdaaDoor
open Go.RowKit Go.Hp

theorem ty_turns : SliceTy Tryd.prog 58 63 1 8 (.pointer none) := ⟨by kernel_rfl, by kernel_rfl, rfl, by decide⟩

set_option maxRecDepth 100000 in
set_option maxHeartbeats 1000000 in
theorem pop_core (bt ba bo n cap : Nat) (w : World) (hn : n ≤ 8) (hc : n + 1 ≤ cap)
   (h0 : w.cell? ⟨bt, 0, none⟩ = some (.slice (some ⟨ba, 0, none⟩) (n + 1) cap)) (f0 : w.frozen? ⟨bt, 0, none⟩ = false)
   (hcn : w.cell? ⟨ba, n, none⟩ = some (.pointer (some ⟨bo, 0, none⟩))) :
    Calls Tryd.prog 87 #[.pointer (some ⟨bt, 0, none⟩)] w fun e w' => e = .returned (.iface 63 (.pointer (some ⟨bo, 0, none⟩))) ∧
     ∃ k, w' = (w.setCell ⟨bt, 0, none⟩ (.slice (some ⟨ba, 0, none⟩) n cap)).drewN k := by
  go_enter Tryd.func87, Tryd.ntmps87
  go_wp2_with (first
    | ((with_reducible refine Reg.wp_region_text ?_ ?_ ?_); (kernel_rfl); (kernel_rfl))
    | ((with_reducible refine Reg.text_nil ?_))
    | ((with_reducible refine Reg.text_plain ?_ ?_); (rfl); (intro K hK))
    | ((with_reducible apply Reg.text_nilCheck); (rfl); (intro K hK))
    | ((with_reducible apply Reg.text_bin); (rfl); (rfl); (intro K hK))
    | ((with_reducible refine Reg.text_loud ?_ ?_); (rfl); (intro K hK))
    | ((with_reducible refine Reg.text_skipG ?_ ?_); (rfl); (intro K hK)))
  go_ret
  exact ⟨rfl, by (repeat (first | exact drawn0 _ | apply drawn1 | apply drawnN))⟩

theorem pop_calls {w : World} {T : Turns} {L : List One} {o : One} (h : TurnsAt w T) (hL : T.L = L ++ [o]) :
    Calls Tryd.prog 87 #[ptr T.bt] w fun e w' => e = .returned (.iface 63 (ptr o.b)) ∧
      TurnsAt w' { T with L := L, tail := o.val :: T.tail } ∧ Only T.fp w w' ∧ Blk w' o.b (o.cells L.length) 65 := by
  have hi : T.L[L.length]? = some o := by simp [hL]
  obtain ⟨ba, ha⟩ := h.arr_some hi
  have h0 := h.c0
  unfold Turns.val at h0
  rw [ha] at h0
  simp only [hL, List.length_append, List.length_cons, List.length_nil, Nat.zero_add] at h0
  obtain ⟨n1, n2, n3⟩ := h.ne ha hi
  have hlen := h.len
  simp only [hL, List.length_append, List.length_cons, List.length_nil, Nat.zero_add] at hlen
  refine (pop_core T.bt ba o.b L.length _ w (by omega) (by omega) h0 (h.hd.free _) (h.ca ha hi)).mono ?_
  rintro e w' ⟨rfl, k, rfl⟩
  have hon : Only T.fp w ((w.setCell ⟨T.bt, 0, none⟩ (.slice (some ⟨ba, 0, none⟩) L.length (L.length + 1 + T.tail.length))).drewN k) :=
    ((Only.refl T.fp w).setCell _ (fun _ => by simp [Turns.fp, Turns.blocks])).drewN k
  refine ⟨rfl, ?_, hon, ?_⟩
  · refine (TurnsAt.drewN ?_ k)
    refine ⟨?_, ?_, ?_, ?_, ?_, ?_, ?_⟩
    · have e : ({ T with L := L, tail := o.val :: T.tail } : Turns).val = .slice (some ⟨ba, 0, none⟩) L.length (L.length + 1 + T.tail.length) := by
        simp [Turns.val, ha]; omega
      rw [e]
      exact h.hd.set 0 _
    · intro x hx
      obtain rfl : ba = x := Option.some.inj (ha.symm.trans hx)
      have e : (L.map One.val ++ o.val :: T.tail).toArray = (T.L.map One.val ++ T.tail).toArray := by simp [hL]
      show Blk _ _ (L.map One.val ++ o.val :: T.tail).toArray _
      rw [e]
      exact (h.ar ba ha).set_other (a := ⟨T.bt, 0, none⟩) n1.symm _
    · intro hx; rw [ha] at hx; cases hx
    · intro j p hj
      have hj' : T.L[j]? = some p := by
        have hj : L[j]? = some p := hj
        rw [hL, List.getElem?_append_left (List.getElem?_eq_some_iff.1 hj).1, hj]
      obtain ⟨_, m2, _⟩ := h.ne ha hj'
      exact (h.on j p hj').set_other (a := ⟨T.bt, 0, none⟩) m2.symm _
    · have := h.nd
      unfold Turns.blocks at this ⊢
      rw [hL, List.map_append, ← List.append_assoc, ← List.cons_append] at this
      exact (List.nodup_append.1 this).1
    · show L.length ≤ 8
      omega
    · have := h.cp
      simp only [hL, List.length_append, List.length_cons, List.length_nil] at this ⊢
      omega
  · exact ((h.on _ o hi).set_other (a := ⟨T.bt, 0, none⟩) n2.symm _).drewN k

set_option maxRecDepth 100000 in
set_option maxHeartbeats 1000000 in
theorem push_core (bt bo n cap : Nat) (ao : Option Addr) (p : Int) (xs tail : List Value) (arr : Option Nat) (w : World) (hn : n ≤ 8) (hto : bt ≠ bo) (hta : arr ≠ some bt) (hoa : arr ≠ some bo) (hlt : bt < w.heap.size)
   (h0 : w.cell? ⟨bt, 0, none⟩ = some (.slice ao n cap)) (f0 : w.frozen? ⟨bt, 0, none⟩ = false)
   (c5 : w.cell? ⟨bo, 5, none⟩ = some (.int .i64 p)) (f5 : w.frozen? ⟨bo, 5, none⟩ = false)
   (hrow : Hid (Row w 63 1 (.slice ao n cap) n xs arr tail)) :
    Calls Tryd.prog 88 #[.pointer (some ⟨bt, 0, none⟩), .iface 63 (.pointer (some ⟨bo, 0, none⟩))] w fun e w' => e = .returned (.tuple #[]) ∧
     ∃ g' cap' w2 tail' k, w' = (w2.setCell ⟨bt, 0, none⟩ (.slice (some ⟨g', 0, none⟩) (n + 1) cap')).drewN k ∧ Row w2 63 1 (.slice (some ⟨g', 0, none⟩) (n + 1) cap') (n + 1) (xs ++ [.pointer (some ⟨bo, 0, none⟩)]) (some g') tail' ∧
       (arr = some g' ∨ g' = w.heap.size + 1) ∧ Only (fun b => arr = some b) ((w.setCell ⟨bo, 5, none⟩ (.int .i64 n)).alloc (.cells #[.pointer (some ⟨bo, 0, none⟩)] 63)) w2 := by
  have hT : ∀ w, Sem.run Tryd.prog (Instr.typeAssert (Value.iface 63 (Value.pointer (some ⟨bo, 0, none⟩))) 20 63 true) w = Result.ok (Value.tuple #[Value.pointer (some ⟨bo, 0, none⟩), .bool true]) w := fun _ => by kernel_rfl
  have hr1 : Hid (Row ((w.setCell ⟨bo, 5, none⟩ (.int .i64 n)).alloc (.cells #[.pointer (some ⟨bo, 0, none⟩)] 63)) 63 1 (.slice ao n cap) n xs arr tail) :=
    Row.of_only (F := fun b => b = bo) hrow.out (((Only.refl (fun b => b = bo) w).setCell (a := ⟨bo, 5, none⟩) _ (fun _ => rfl)).alloc _) (fun g hg e => hoa (by rw [hg, e]))
  clear hrow
  go_enter Tryd.func88, Tryd.ntmps88
  go_wp2_with (first
    | ((at_builtin; refine wpList_append_row ty_turns rfl _ _ rfl rfl hr1.out ⟨w.heap.size, 0, none⟩ 1 1 [.pointer (some ⟨bo, 0, none⟩)] rfl rfl (by decide) ?_ ?_ ?_ ?_ ?_; (exact one_new _ _ _ (by simp)); (simp [Value.oneCell']); (unfold maxLen; omega); (omega)))
    | ((with_reducible refine Reg.wp_region_text ?_ ?_ ?_); (kernel_rfl); (kernel_rfl))
    | ((with_reducible refine Reg.text_nil ?_))
    | ((with_reducible refine Reg.text_plain ?_ ?_); (rfl); (intro K hK))
    | ((with_reducible apply Reg.text_nilCheck); (rfl); (intro K hK))
    | ((with_reducible apply Reg.text_bin); (rfl); (rfl); (intro K hK))
    | ((with_reducible refine Reg.text_loud ?_ ?_); (rfl); (intro K hK))
    | ((with_reducible refine Reg.text_skipG ?_ ?_); (rfl); (intro K hK)))
  intro g' cap' w2 tail' q1 q2 q4
  have e : w2.heap[bt]? = w.heap[bt]? :=
    (q4.block bt (by simp; omega) (fun e => hta e)).trans ((Below.heap_alloc _ _ bt (by simp; omega)).trans (heap_setCell_ne w ⟨bo, 5, none⟩ _ hto))
  have c0' : w2.cell? ⟨bt, 0, none⟩ = some (.slice ao n cap) := (World.cell?_of_block (a := ⟨bt, 0, none⟩) e).trans h0
  have f0' : w2.frozen? ⟨bt, 0, none⟩ = false := (World.frozen?_of_block (a := ⟨bt, 0, none⟩) e).trans f0
  clear e
  have H1 := Lib.hid q1
  have H2 := Lib.hid q2
  have H4 := Lib.hid q4
  clear q1 q2 q4 hr1 hta hoa
  go_wp2_with (first
    | ((with_reducible refine Reg.wp_region_text ?_ ?_ ?_); (kernel_rfl); (kernel_rfl))
    | ((with_reducible refine Reg.text_nil ?_))
    | ((with_reducible refine Reg.text_plain ?_ ?_); (rfl); (intro K hK))
    | ((with_reducible apply Reg.text_nilCheck); (rfl); (intro K hK))
    | ((with_reducible apply Reg.text_bin); (rfl); (rfl); (intro K hK))
    | ((with_reducible refine Reg.text_loud ?_ ?_); (rfl); (intro K hK))
    | ((with_reducible refine Reg.text_skipG ?_ ?_); (rfl); (intro K hK)))
  go_end0
  exact ⟨rfl, g', cap', w2, tail', 0, rfl, H1.out, H2.out, H4.out⟩

theorem TurnsAt.row {w : World} {T : Turns} (h : TurnsAt w T) : Row w 63 1 T.val T.L.length (T.L.map One.val) T.arr T.tail := by
  refine ⟨by simp, ?_⟩
  have hn := h.no
  have ha := h.ar
  unfold Turns.val
  cases hr : T.arr with
  | none => obtain ⟨h1, h2⟩ := hn hr; exact ⟨rfl, by simp [h1], h2⟩
  | some g => exact ⟨_, rfl, ha g hr, by simp, h.cp, by omega⟩

theorem Turns.val_slice {w : World} {T : Turns} (h : TurnsAt w T) : ∃ ao cap, T.val = .slice ao T.L.length cap := by
  unfold Turns.val
  cases hr : T.arr with
  | none => exact ⟨none, 0, by simp [(h.no hr).1]⟩
  | some g => exact ⟨_, _, rfl⟩

theorem push_calls {w : World} {T : Turns} {o : One} {p : Nat} (h : TurnsAt w T) (ho : Blk w o.b (o.cells p) 65) (hno : o.b ∉ T.blocks) (hl : T.L.length < 8) :
    Calls Tryd.prog 88 #[ptr T.bt, .iface 63 (ptr o.b)] w fun e w' => e = .returned (.tuple #[]) ∧
      ∃ T' : Turns, T'.bt = T.bt ∧ T'.L = T.L ++ [o] ∧ TurnsAt w' T' ∧ (T'.arr = T.arr ∨ ∃ g, T'.arr = some g ∧ w.heap.size ≤ g) ∧ Only (fun b => b ∈ T.blocks ∨ b = o.b) w w' := by
  obtain ⟨ao, cap, hv⟩ := Turns.val_slice h
  have h0 := h.c0
  rw [hv] at h0
  have hrow := h.row
  rw [hv] at hrow
  simp only [Turns.blocks, List.mem_cons, List.mem_append, not_or] at hno
  have nto : T.bt ≠ o.b := fun e => hno.1 e.symm
  have nao : T.arr ≠ some o.b := fun e => hno.2.1 (by simp [e])
  have nta : T.arr ≠ some T.bt := fun e => by
    have := h.nd
    simp only [Turns.blocks, e, Option.toList, List.nodup_cons, List.mem_append, List.mem_cons, true_or, not_true, false_and] at this
  have nol : ∀ (j : Nat) (q : One), T.L[j]? = some q → q.b ≠ o.b := fun j q hj e => hno.2.2 (List.mem_map.2 ⟨q, List.mem_of_getElem? hj, e⟩)
  refine (push_core T.bt o.b T.L.length cap ao p _ T.tail T.arr w h.len nto nta nao h.hd.lt h0 (h.hd.free _) (ho.cell_some rfl) (ho.free _) (show Hid _ from hrow)).mono ?_
  rintro e w' ⟨rfl, g', cap', w2, tail', k, rfl, hr2, hg, ho2⟩
  refine ⟨rfl, { bt := T.bt, arr := some g', tail := tail', L := T.L ++ [o] }, rfl, rfl, ?_, ?_, ?_⟩
  · obtain ⟨hx, c2, hc2, hb2, hcap2, hm2, hle2⟩ := hr2
    obtain rfl : cap' = c2 := by simpa using hc2
    have hsz : T.bt < w.heap.size := h.hd.lt
    have nbg : T.bt ≠ g' := fun e => by
      rcases hg with hg | hg
      · exact nta (by rw [hg, e])
      · omega
    have hge : ∀ b, b < w.heap.size → T.arr ≠ some b → b ≠ g' := fun b hb ha e => by
      rcases hg with hg | hg
      · exact ha (by rw [hg, e])
      · omega
    have keep : ∀ b cs t, Blk w b cs t → b ≠ o.b → T.arr ≠ some b → b ≠ T.bt → Blk ((w2.setCell ⟨T.bt, 0, none⟩ (.slice (some ⟨g', 0, none⟩) (T.L.length + 1) cap')).drewN k) b cs t := fun b cs t hb n1 n2 n3 =>
      ((ho2.blk ((hb.set_other (a := ⟨o.b, 5, none⟩) n1 _).alloc _) n2).set_other (a := ⟨T.bt, 0, none⟩) n3 _).drewN k
    have hbt2 : Blk w2 T.bt #[T.val] 60 := ho2.blk ((h.hd.set_other (a := ⟨o.b, 5, none⟩) nto _).alloc _) nta
    have hob2 : Blk w2 o.b (o.cells T.L.length) 65 := ho2.blk ((ho.set 5 (.int .i64 T.L.length)).alloc _) nao
    have htl : (T.L.map One.val ++ [o.val]) = (T.L ++ [o]).map One.val := by simp
    have hl1 : tail'.length + (T.L.length + 1) = cap' := by
      simp only [List.length_append, List.length_map, List.length_cons, List.length_nil] at hcap2
      omega
    refine ⟨?_, ?_, ?_, ?_, ?_, ?_, ?_⟩
    · have e1 : ({ bt := T.bt, arr := some g', tail := tail', L := T.L ++ [o] } : Turns).val = .slice (some ⟨g', 0, none⟩) (T.L.length + 1) cap' := by
        simp [Turns.val]; omega
      rw [e1]
      exact (hbt2.set 0 _).drewN k
    · intro x hx
      obtain rfl : g' = x := by simpa using hx
      have := hb2.set_other (a := ⟨T.bt, 0, none⟩) nbg.symm (.slice (some ⟨g', 0, none⟩) (T.L.length + 1) cap')
      show Blk _ _ ((T.L ++ [o]).map One.val ++ tail').toArray _
      rw [← htl]
      exact this.drewN k
    · intro hx; simp at hx
    · intro j q hj
      have hj : (T.L ++ [o])[j]? = some q := hj
      rw [List.getElem?_append] at hj
      split at hj
      · rename_i hlt
        obtain ⟨m1, m2⟩ : T.arr ≠ some q.b ∧ q.b ≠ T.bt := by
          obtain ⟨ba, hba⟩ := h.arr_some hj
          obtain ⟨_, a2, a3⟩ := h.ne hba hj
          exact ⟨fun e => a3 (by rw [hba] at e; exact Option.some.inj e), a2.symm⟩
        exact keep _ _ _ (h.on j q hj) (nol j q hj) m1 m2
      · rename_i hlt
        have : j = T.L.length ∧ q = o := by
          cases hd : j - T.L.length with
          | zero => rw [hd] at hj; simp at hj; exact ⟨by omega, hj.symm⟩
          | succ d => rw [hd] at hj; simp at hj
        obtain ⟨rfl, rfl⟩ := this
        exact (hob2.set_other (a := ⟨T.bt, 0, none⟩) nto.symm _).drewN k
    · have hnd := h.nd
      unfold Turns.blocks at hnd ⊢
      simp only [Option.toList, List.cons_append, List.nil_append, List.map_append, List.map_cons, List.map_nil] at hnd ⊢
      obtain ⟨hn1, hn2⟩ := List.nodup_cons.1 hnd
      have hn3 := (List.nodup_append.1 hn2).2.1
      have hin : ∀ b ∈ T.L.map (·.b), b < w.heap.size ∧ T.arr ≠ some b := fun b hb => by
        obtain ⟨q, hq, rfl⟩ := List.mem_map.1 hb
        obtain ⟨j, hj⟩ := List.getElem?_of_mem hq
        obtain ⟨ba, hba⟩ := h.arr_some hj
        obtain ⟨_, a2, a3⟩ := h.ne hba hj
        exact ⟨(h.on j q hj).lt, fun e => a3 (by rw [hba] at e; exact Option.some.inj e)⟩
      refine List.nodup_cons.2 ⟨?_, List.nodup_cons.2 ⟨?_, ?_⟩⟩
      · simp only [List.mem_cons, List.mem_append, List.not_mem_nil, or_false, not_or]
        exact ⟨nbg, fun hm => hn1 (List.mem_append_right _ hm), nto⟩
      · simp only [List.mem_append, List.mem_cons, List.not_mem_nil, or_false, not_or]
        exact ⟨fun hm => hge g' (hin g' hm).1 (hin g' hm).2 rfl, fun e => hge o.b ho.lt nao e.symm⟩
      · refine List.nodup_append.2 ⟨hn3, by simp, ?_⟩
        intro x hx y hy e
        simp at hy
        obtain ⟨q, hq, hqx⟩ := List.mem_map.1 hx
        obtain ⟨j, hj⟩ := List.getElem?_of_mem hq
        exact nol j q hj (by rw [hqx, e, hy])
    · simp; omega
    · simp only [List.length_append, List.length_cons, List.length_nil]; omega
  · rcases hg with hg | hg
    · exact .inl hg.symm
    · exact .inr ⟨g', rfl, by omega⟩
  · have f1 : Only (fun b => b ∈ T.blocks ∨ b = o.b) w ((w.setCell ⟨o.b, 5, none⟩ (.int .i64 T.L.length)).alloc (.cells #[.pointer (some ⟨o.b, 0, none⟩)] 63)) :=
      ((Only.refl _ w).setCell _ (fun _ => .inr rfl)).alloc _
    have f2 := f1.trans ho2 (fun b _ e => .inl (by simp [Turns.blocks, e]))
    exact (f2.setCell _ (fun _ => .inl (by simp [Turns.blocks]))).drewN k
end Go.Proofs.YtjchfkpcglpgdaaDoor
