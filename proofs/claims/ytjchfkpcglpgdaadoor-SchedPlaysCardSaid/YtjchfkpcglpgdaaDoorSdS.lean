/-
  SameInts.
-/
import Derived.Test.YtjchfkpcglpgdaaDoorSdR
set_option linter.unusedSimpArgs false
set_option linter.unusedVariables false
namespace Go.Proofs.YtjchfkpcglpgdaaDoor
open Go.RowKit Go.Hp

theorem intsAt_cell {w : World} {v : Value} {l : List Int} (h : IntsAt w v l) : ∃ ao cap, v = .slice ao l.length cap ∧ ∀ (i : Nat) (x : Int), l[i]? = some x → ∃ b off, ao = some ⟨b, off, none⟩ ∧ w.cell? ⟨b, off + i, none⟩ = some (.int .i64 x) := by
  obtain ⟨ao, cap, h1, h2⟩ := h
  refine ⟨ao, cap, h1, fun i x hi => ?_⟩
  rcases h2 with rfl | ⟨b, off, h3, h4⟩
  · simp at hi
  · exact ⟨b, off, h3, h4 i x hi⟩

theorem take_eq_snoc {l1 l2 : List Int} {k : Nat} {x y : Int} (h : l1.take k = l2.take k) (h1 : l1[k]? = some x) (h2 : l2[k]? = some y) : l1.take (k + 1) = l2.take (k + 1) ↔ x = y := by
  rw [take_snoc' h1, take_snoc' h2, h]
  simp

set_option maxRecDepth 100000 in
set_option maxHeartbeats 2000000 in
theorem sameInts_calls {w : World} {v1 v2 : Value} {l1 l2 : List Int} (h1 : IntsAt w v1 l1) (h2 : IntsAt w v2 l2) (hl1 : l1.length < 9223372036854775807) (hl2 : l2.length < 9223372036854775807) :
    Calls Tryd.prog 19 #[v1, v2] w (Same w (.bool (decide (l1 = l2)))) := by
  obtain ⟨ao1, cap1, rfl, hc1⟩ := intsAt_cell h1
  obtain ⟨ao2, cap2, rfl, hc2⟩ := intsAt_cell h2
  have HC1 := Lib.hid hc1
  have HC2 := Lib.hid hc2
  obtain ⟨n1, hn1⟩ : ∃ n1, Hid (l1.length = n1) := ⟨_, rfl⟩
  obtain ⟨n2, hn2⟩ : ∃ n2, Hid (l2.length = n2) := ⟨_, rfl⟩
  rw [hn1.out] at hl1 ⊢
  rw [hn2.out] at hl2 ⊢
  clear h1 h2 hc1 hc2
  obtain ⟨r, hr⟩ : ∃ r, Hid (decide (l1 = l2) = r) := ⟨_, rfl⟩
  rw [hr.out]
  by_cases hne : n1 = n2
  · subst hne
    go_enter Tryd.func19, Tryd.ntmps19
    go_wp2
    go_loopw [5] (fun i wr => ∃ k m : Nat, k ≤ n1 ∧ i = .int .i64 k ∧ Hid (l1.take k = l2.take k) ∧ Hid (wr = w.drewN m)) (fun i _ => n1 - (intOf i).toNat)
    case atStart => exact ⟨0, 0, Nat.zero_le _, rfl, by simp [Hid], rfl⟩
    case round =>
      obtain ⟨k, m, hk, rfl, he, hw⟩ := hrel
      obtain rfl := hw.out
      clear hw
      by_cases hlt : k < n1
      · obtain ⟨x, hx⟩ : ∃ x, l1[k]? = some x := ⟨_, List.getElem?_eq_getElem (by rw [hn1.out]; exact hlt)⟩
        obtain ⟨y, hy⟩ : ∃ y, l2[k]? = some y := ⟨_, List.getElem?_eq_getElem (by rw [hn2.out]; exact hlt)⟩
        obtain ⟨b1, o1, rfl, c1⟩ := HC1.out k x hx
        obtain ⟨b2, o2, rfl, c2⟩ := HC2.out k y hy
        have HT := Lib.hid (take_eq_snoc he.out hx hy)
        clear hx hy
        by_cases hxy : x = y
        · have HT' := Lib.hid (HT.out.2 hxy)
          subst hxy
          go_wp2_with (first
    | ((with_reducible refine Reg.wp_region_text ?_ ?_ ?_); (kernel_rfl); (kernel_rfl))
    | ((with_reducible refine Reg.text_nil ?_))
    | ((with_reducible refine Reg.text_plain ?_ ?_); (rfl); (intro K hK))
    | ((with_reducible apply Reg.text_nilCheck); (rfl); (intro K hK))
    | ((with_reducible apply Reg.text_bin); (rfl); (rfl); (intro K hK))
    | ((with_reducible refine Reg.text_loud ?_ ?_); (rfl); (intro K hK))
    | ((with_reducible refine Reg.text_skipG ?_ ?_); (rfl); (intro K hK)))
          go_roundw
          case rel => exact ⟨k + 1, m + 1, by omega, by simp, HT', by simp [Hid]⟩
          case measure => simp [intOf]; omega
        · have hb : (x == y) = false := by simpa using hxy
          have hf : Hid (r = false) := by
            unfold Hid
            rw [← hr.out]
            simp only [decide_eq_false_iff_not]
            intro e
            subst e
            exact hxy (HT.out.1 rfl)
          go_wp2_with (first
    | ((with_reducible refine Reg.wp_region_text ?_ ?_ ?_); (kernel_rfl); (kernel_rfl))
    | ((with_reducible refine Reg.text_nil ?_))
    | ((with_reducible refine Reg.text_plain ?_ ?_); (rfl); (intro K hK))
    | ((with_reducible apply Reg.text_nilCheck); (rfl); (intro K hK))
    | ((with_reducible apply Reg.text_bin); (rfl); (rfl); (intro K hK))
    | ((with_reducible refine Reg.text_loud ?_ ?_); (rfl); (intro K hK))
    | ((with_reducible refine Reg.text_skipG ?_ ?_); (rfl); (intro K hK)))
          go_ret
          exact ⟨by rw [hf.out]; rfl, m + 1, by simp⟩
      · obtain rfl : k = n1 := by omega
        have ht : Hid (r = true) := by
          unfold Hid
          rw [← hr.out]
          have := he.out
          rw [List.take_of_length_le (by rw [hn1.out]; exact Nat.le_refl _), List.take_of_length_le (by rw [hn2.out]; exact Nat.le_refl _)] at this
          simpa using this
        go_wp2_with (first
    | ((with_reducible refine Reg.wp_region_text ?_ ?_ ?_); (kernel_rfl); (kernel_rfl))
    | ((with_reducible refine Reg.text_nil ?_))
    | ((with_reducible refine Reg.text_plain ?_ ?_); (rfl); (intro K hK))
    | ((with_reducible apply Reg.text_nilCheck); (rfl); (intro K hK))
    | ((with_reducible apply Reg.text_bin); (rfl); (rfl); (intro K hK))
    | ((with_reducible refine Reg.text_loud ?_ ?_); (rfl); (intro K hK))
    | ((with_reducible refine Reg.text_skipG ?_ ?_); (rfl); (intro K hK)))
        go_ret
        exact ⟨by rw [ht.out]; rfl, m, rfl⟩
  · have hb : ((n1 : Int) == n2) = false := by simp; omega
    have hf : Hid (r = false) := by
      unfold Hid
      rw [← hr.out]
      simp only [decide_eq_false_iff_not]
      intro e
      subst e
      exact hne (hn1.out.symm.trans hn2.out)
    go_enter Tryd.func19, Tryd.ntmps19
    go_wp2_with (first
    | ((with_reducible refine Reg.wp_region_text ?_ ?_ ?_); (kernel_rfl); (kernel_rfl))
    | ((with_reducible refine Reg.text_nil ?_))
    | ((with_reducible refine Reg.text_plain ?_ ?_); (rfl); (intro K hK))
    | ((with_reducible apply Reg.text_nilCheck); (rfl); (intro K hK))
    | ((with_reducible apply Reg.text_bin); (rfl); (rfl); (intro K hK))
    | ((with_reducible refine Reg.text_loud ?_ ?_); (rfl); (intro K hK))
    | ((with_reducible refine Reg.text_skipG ?_ ?_); (rfl); (intro K hK)))
    all_goals go_ret
    exact ⟨by rw [hf.out]; rfl, 0, rfl⟩
end Go.Proofs.YtjchfkpcglpgdaaDoor
