/-
  facaderef's Ints and Put; the document's Ready.
-/
import Derived.Test.YtjchfkpcglpgdaaDoorSdZd
set_option linter.unusedSimpArgs false
set_option linter.unusedVariables false
namespace Go.Proofs.YtjchfkpcglpgdaaDoor
open Go.RowKit Go.Hp

/-- A new slice with the list. -/
def NewInts (w : World) (l : List Int) (e : Ending) (w' : World) : Prop := ∃ v B, e = .returned v ∧ (ints v l).at_ w' B ∧ (∀ b ∈ B, w.heap.size ≤ b) ∧ Ext w w'

structure CopyInv (w : World) (l : List Int) (wr : World) (v : Value) (k : Nat) : Prop where
  row : ∃ arr tail, Row wr 3 1 v k ((l.take k).map (Value.int .i64)) arr tail ∧ ∀ g, arr = some g → w.heap.size ≤ g
  ext : Ext w wr

set_option maxRecDepth 100000 in
set_option maxHeartbeats 2000000 in
theorem intsCopy_calls {w : World} {v : Value} {l : List Int} (h : IntsAt w v l) (hl : l.length ≤ 1000000) :
    Calls Tryd.prog 46 #[v] w (NewInts w l) := by
  obtain ⟨ao, cap, rfl, hc⟩ := intsAt_cell h
  have HC := Lib.hid hc
  obtain ⟨n, hn⟩ : ∃ n, Hid (l.length = n) := ⟨_, rfl⟩
  rw [hn.out] at hl ⊢
  clear h hc
  have hmk : Sem.run Tryd.prog (Instr.makeSlice 35 (.int .i64 0) (.int .i64 (n : Int))) w = _ := run_make_one (w := w) ty_ints rfl 0 n (Nat.zero_le _) (by omega) (by unfold maxLen; omega)
  go_enter Tryd.func46, Tryd.ntmps46
  go_wp2_with (first
    | ((with_reducible refine Reg.wp_region_text ?_ ?_ ?_); (kernel_rfl); (kernel_rfl))
    | ((with_reducible refine Reg.text_nil ?_))
    | ((with_reducible refine Reg.text_plain ?_ ?_); (rfl); (intro K hK))
    | ((with_reducible apply Reg.text_nilCheck); (rfl); (intro K hK))
    | ((with_reducible apply Reg.text_bin); (rfl); (rfl); (intro K hK))
    | ((with_reducible refine Reg.text_loud ?_ ?_); (rfl); (intro K hK))
    | ((with_reducible refine Reg.text_skipG ?_ ?_); (rfl); (intro K hK)))
  go_loopw [3, 4] (fun v i wr => ∃ k : Nat, k ≤ n ∧ i = .int .i64 k ∧ Hid (CopyInv w l wr v k)) (fun _ i _ => n - (intOf i).toNat)
  case atStart => exact ⟨0, Nat.zero_le _, rfl, ⟨some w.heap.size, _, row_make 0 n (Nat.zero_le _) (by unfold maxLen; omega), fun g hg => by cases hg; exact Nat.le_refl _⟩, (Only.refl _ w).alloc _⟩
  case round =>
    obtain ⟨k, hk, rfl, hA⟩ := hrel
    obtain ⟨⟨arr, tail, hrow, harr⟩, hx⟩ := hA.out
    obtain ⟨ao2, cap2, rfl⟩ := hrow.val
    by_cases hlt : k < n
    · obtain ⟨x, hxk⟩ : ∃ x, l[k]? = some x := ⟨_, List.getElem?_eq_getElem (by rw [hn.out]; exact hlt)⟩
      obtain ⟨b0, off0, rfl, c0⟩ := HC.out k x hxk
      have c0' := Hp.Ext.cell hx c0
      have HRW := Lib.hid (hrow.of_only ((Only.refl (fun _ => False) wr).alloc (.cells #[.int .i64 x] 3)) (fun _ _ h => h))
      have HO := Lib.hid hxk
      have HAR := Lib.hid harr
      have HX := Lib.hid hx
      clear c0 hrow harr hx hxk hmk
      go_wp2_with (first
    | ((at_builtin; refine wpList_append_row ty_ints rfl _ _ rfl rfl HRW.out ⟨wr.heap.size, 0, none⟩ 1 1 [.int .i64 x] rfl rfl (by decide) ?_ ?_ ?_ ?_ ?_; (exact one_new _ _ _ (by simp)); (simp [Value.oneCell']); (unfold maxLen; omega); (omega)))
    | ((with_reducible refine Reg.wp_region_text ?_ ?_ ?_); (kernel_rfl); (kernel_rfl))
    | ((with_reducible refine Reg.text_nil ?_))
    | ((with_reducible refine Reg.text_plain ?_ ?_); (rfl); (intro K hK))
    | ((with_reducible apply Reg.text_nilCheck); (rfl); (intro K hK))
    | ((with_reducible apply Reg.text_bin); (rfl); (rfl); (intro K hK))
    | ((with_reducible refine Reg.text_loud ?_ ?_); (rfl); (intro K hK))
    | ((with_reducible refine Reg.text_skipG ?_ ?_); (rfl); (intro K hK)))
      intro g' cap' w4 tail' q1 q2 q4
      have hA' : Hid (CopyInv w l w4 (.slice (some ⟨g', 0, none⟩) (k + 1) cap') (k + 1)) := by
        refine ⟨⟨_, tail', by rw [take_snoc' HO.out, List.map_append, List.map_take]; exact q1, ?_⟩, ?_⟩
        · intro g hg
          cases hg
          rcases q2 with h | h
          · exact HAR.out _ h
          · rw [h]
            have := HX.out.size
            simp
            omega
        · exact (HX.out.alloc _).trans q4 (fun b hb h => by have := HAR.out b h; omega)
      clear q1 q2 q4 HRW
      go_wp2
      go_roundw
      case rel => exact ⟨k + 1, by omega, by simp, hA'⟩
      case measure => simp [intOf]; omega
    · obtain rfl : k = n := by omega
      have HAT : Hid ((ints (.slice ao2 k cap2) l).at_ wr arr.toList) := ⟨arr, tail, by
        rw [← hn.out, List.take_length] at hrow
        rw [← hn.out]
        exact hrow, rfl⟩
      have HAR := Lib.hid harr
      have HX := Lib.hid hx
      clear hrow harr hx hA hmk
      go_wp2
      go_ret
      exact ⟨_, _, rfl, HAT.out, fun b hb => HAR.out b (by simpa using hb), HX.out⟩
end Go.Proofs.YtjchfkpcglpgdaaDoor
