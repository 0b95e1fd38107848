/-
  The document's Pick.
-/
import Derived.Test.YtjchfkpcglpgdaaDoorSdX
set_option linter.unusedSimpArgs false
set_option linter.unusedVariables false
namespace Go.Proofs.YtjchfkpcglpgdaaDoor
open Go.RowKit Go.Hp

/-- The best of the first j. -/
def BestI (l : List Rec) (j : Nat) : Option Nat → Prop
  | none => ∀ i, i < j → ∀ r, l[i]? = some r → r.sleeps = true
  | some k => k < j ∧ ∃ r, l[k]? = some r ∧ r.sleeps = false ∧ ∀ i, i < j → ∀ x, l[i]? = some x → x.sleeps = false → before x r = false
def idxV : Option Nat → Int
  | none => -1
  | some k => k

theorem BestI.stay {l : List Rec} {j : Nat} {c : Option Nat} {r : Rec} (h : BestI l j c) (hr : l[j]? = some r) (hn : r.sleeps = true ∨ ∃ k rk, c = some k ∧ l[k]? = some rk ∧ before r rk = false) : BestI l (j + 1) c := by
  cases c with
  | none =>
    rcases hn with hn | ⟨_, _, h, _⟩
    · intro i hi x hx
      by_cases e : i = j
      · subst e
        obtain rfl := Option.some.inj (hr.symm.trans hx)
        exact hn
      · exact h i (by omega) x hx
    · cases h
  | some k =>
    obtain ⟨h1, rk, h2, h3, h4⟩ := h
    refine ⟨by omega, rk, h2, h3, fun i hi x hx hxs => ?_⟩
    by_cases e : i = j
    · subst e
      obtain rfl := Option.some.inj (hr.symm.trans hx)
      rcases hn with hn | ⟨k', rk', e1, e2, e3⟩
      · rw [hn] at hxs; cases hxs
      · cases e1
        obtain rfl := Option.some.inj (h2.symm.trans e2)
        exact e3
    · exact h4 i (by omega) x hx hxs
theorem BestI.take {l : List Rec} {j : Nat} {c : Option Nat} {r : Rec} (h : BestI l j c) (hr : l[j]? = some r) (hs : r.sleeps = false) (hb : c = none ∨ ∃ k rk, c = some k ∧ l[k]? = some rk ∧ before r rk = true) : BestI l (j + 1) (some j) := by
  refine ⟨by omega, r, hr, hs, fun i hi x hx hxs => ?_⟩
  by_cases e : i = j
  · subst e
    obtain rfl := Option.some.inj (hr.symm.trans hx)
    simp [before]
  · rcases hb with rfl | ⟨k, rk, rfl, h2, h3⟩
    · have := h i (by omega) x hx
      rw [hxs] at this; cases this
    · obtain ⟨_, rk', h4, h5, h6⟩ := h
      obtain rfl := Option.some.inj (h2.symm.trans h4)
      have h7 := h6 i (by omega) x hx hxs
      simp only [before, Bool.or_eq_true, Bool.and_eq_true, decide_eq_true_eq, Bool.or_eq_false_iff, Bool.and_eq_false_iff, decide_eq_false_iff_not] at *
      omega
def bestId (l : List Rec) : Int := match best l with
  | some r => r.id
  | none => -1
theorem BestI.end_none {l : List Rec} (h : BestI l l.length none) : bestId l = -1 := by
  unfold bestId
  cases hb : best l with
  | none => rfl
  | some r =>
    obtain ⟨h1, h2, _⟩ := best_some hb
    obtain ⟨i, hi⟩ := List.mem_iff_getElem?.1 h1
    have := h i (List.getElem?_eq_some_iff.1 hi).1 r hi
    rw [h2] at this; cases this
theorem BestI.end_some {l : List Rec} {k : Nat} (hn : (l.map (·.id)).Nodup) (h : BestI l l.length (some k)) : ∃ r, l[k]? = some r ∧ bestId l = r.id := by
  obtain ⟨h1, r, h2, h3, h4⟩ := h
  refine ⟨r, h2, ?_⟩
  unfold bestId
  cases hb : best l with
  | none =>
    have := best_none hb r (List.mem_of_getElem? h2)
    rw [h3] at this; cases this
  | some q =>
    obtain ⟨q1, q2, q3⟩ := best_some hb
    obtain ⟨i, hi⟩ := List.mem_iff_getElem?.1 q1
    have a1 := h4 i (List.getElem?_eq_some_iff.1 hi).1 q hi q2
    have a2 := q3 r (List.mem_of_getElem? h2) h3
    simp only [before, Bool.or_eq_false_iff, Bool.and_eq_false_iff, decide_eq_false_iff_not] at a1 a2
    show q.id = r.id
    omega

set_option maxRecDepth 100000 in
set_option maxHeartbeats 4000000 in
theorem dpick_calls {w : World} {b : Nat} {l : List Rec} {B : List Nat} (h : (docS b l).at_ w B) (hl : l.length ≤ 8) (hn : (l.map (·.id)).Nodup) :
    Calls Tryd.prog 27 #[.pointer (some ⟨b, 0, none⟩)] w fun e w' => e = .returned (.int .i64 (bestId l)) ∧ Ext w w' := by
  obtain ⟨ao, cap, c0, f0, hel⟩ := docS_read h
  have HEL := Lib.hid hel
  have hBl := (docS b l).lt h
  have hbl : b < w.heap.size := by
    obtain ⟨_, _, _, _, _, _, hB⟩ := h
    exact hBl b (by rw [hB]; simp)
  have HBL := Lib.hid hBl
  have HN := Lib.hid hn
  obtain ⟨n, hln⟩ : ∃ n, Hid (l.length = n) := ⟨_, rfl⟩
  rw [hln.out] at c0 hl
  have HC0 := Lib.hid c0
  obtain ⟨x, hx0⟩ : ∃ x, Hid (bestId l = x) := ⟨_, rfl⟩
  rw [hx0.out]
  clear h hel hBl hn c0
  go_enter Tryd.func27, Tryd.ntmps27
  go_wp2
  go_loopw [3, 4] (fun a i wr => ∃ (j : Nat) (c : Option Nat), i = .int .i64 j ∧ a = .int .i64 (idxV c) ∧ j ≤ n ∧ Hid (BestI l j c) ∧ Hid (Ext w wr)) (fun _ i _ => n - (intOf i).toNat)
  case atStart => exact ⟨0, none, rfl, rfl, by omega, fun i hi => by omega, Only.refl _ _⟩
  case round =>
    obtain ⟨j, c, rfl, rfl, hj, hB, hx⟩ := hrel
    have c0 := Hp.Ext.cell hx.out HC0.out
    have hbr : b < wr.heap.size := Nat.lt_of_lt_of_le hbl hx.out.size
    by_cases hjn : j < n
    · obtain ⟨r, hr⟩ : ∃ r, l[j]? = some r := ⟨_, List.getElem?_eq_getElem (by rw [hln.out]; exact hjn)⟩
      obtain ⟨g, rfl, hgb, hgB, d0, d1, d2, d3, d4, _⟩ := HEL.out j r hr
      have hgr : g < wr.heap.size := Nat.lt_of_lt_of_le (HBL.out g hgB) hx.out.size
      have a0 := Hp.Ext.cell hx.out d0
      have a1 := Hp.Ext.cell hx.out d1
      have a2 := Hp.Ext.cell hx.out d2
      have a3 := Hp.Ext.cell hx.out d3
      have a4 := Hp.Ext.cell hx.out d4
      have HR := Lib.hid hr
      have HNEW : ∀ cs, Hid (Ext w (wr.alloc cs)) := fun cs => hx.out.alloc cs
      have HNW := Lib.hid HNEW
      clear d0 d1 d2 d3 d4 hr HNEW
      cases c with
      | none =>
        have HA : Hid (r.sleeps = false → BestI l (j + 1) (some j)) := fun h => hB.out.take HR.out h (.inl rfl)
        have HB : Hid (r.sleeps = true → BestI l (j + 1) none) := fun h => hB.out.stay HR.out (.inl h)
        simp only [idxV]
        obtain ⟨s, hs⟩ : ∃ s, Hid (r.sleeps = s) := ⟨_, rfl⟩
        rw [hs.out] at a3 HA HB
        cases s
        all_goals (go_wp2_with (first
    | ((with_reducible refine Reg.wp_region_text ?_ ?_ ?_); (kernel_rfl); (kernel_rfl))
    | ((with_reducible refine Reg.text_nil ?_))
    | ((with_reducible refine Reg.text_plain ?_ ?_); (rfl); (intro K hK))
    | ((with_reducible apply Reg.text_nilCheck); (rfl); (intro K hK))
    | ((with_reducible apply Reg.text_bin); (rfl); (rfl); (intro K hK))
    | ((with_reducible refine Reg.text_loud ?_ ?_); (rfl); (intro K hK))
    | ((with_reducible refine Reg.text_skipG ?_ ?_); (rfl); (intro K hK))))
        all_goals go_roundw
        all_goals first
          | (simp [intOf]; omega)
          | exact ⟨j + 1, some j, by simp, rfl, by omega, HA.out rfl, (HNW.out _).out.drewN 1⟩
          | exact ⟨j + 1, none, by simp, rfl, by omega, HB.out rfl, (HNW.out _).out.drewN 1⟩
      | some k =>
        obtain ⟨hkj, rk, hrk, _, _⟩ := hB.out
        obtain ⟨g', e1, _, _, d0, _, d2, _⟩ := HEL.out k rk hrk
        cases e1
        have b0 := Hp.Ext.cell hx.out d0
        have b2 := Hp.Ext.cell hx.out d2
        have HA : Hid (r.sleeps = false → (r.used < rk.used ∨ r.used = rk.used ∧ r.id < rk.id) → BestI l (j + 1) (some j)) := fun h h2 => hB.out.take HR.out h (.inr ⟨k, rk, rfl, hrk, by
          simp only [before, Bool.or_eq_true, Bool.and_eq_true, decide_eq_true_eq]; exact h2⟩)
        have HB : Hid ((r.sleeps = true ∨ ¬ (r.used < rk.used ∨ r.used = rk.used ∧ r.id < rk.id)) → BestI l (j + 1) (some k)) := fun h => hB.out.stay HR.out (h.imp id (fun h => ⟨k, rk, rfl, hrk, by
          simp only [before, Bool.or_eq_false_iff, Bool.and_eq_false_iff, decide_eq_false_iff_not]; omega⟩))
        simp only [idxV]
        clear d0 d2 hrk
        obtain ⟨s, hs⟩ : ∃ s, Hid (r.sleeps = s) := ⟨_, rfl⟩
        obtain ⟨u, hu⟩ : ∃ u, Hid (r.used = u) := ⟨_, rfl⟩
        obtain ⟨i0, hi0⟩ : ∃ i0, Hid (r.id = i0) := ⟨_, rfl⟩
        obtain ⟨uk, huk⟩ : ∃ uk, Hid (rk.used = uk) := ⟨_, rfl⟩
        obtain ⟨ik, hik⟩ : ∃ ik, Hid (rk.id = ik) := ⟨_, rfl⟩
        rw [hs.out] at a3 HA HB
        rw [hu.out] at a2 HA HB
        rw [hi0.out] at a0 HA HB
        rw [huk.out] at b2 HA HB
        rw [hik.out] at b0 HA HB
        rcases Int.lt_trichotomy u uk with hlt | heq | hgt
        · cases s
          all_goals (go_wp2_with (first
    | ((with_reducible refine Reg.wp_region_text ?_ ?_ ?_); (kernel_rfl); (kernel_rfl))
    | ((with_reducible refine Reg.text_nil ?_))
    | ((with_reducible refine Reg.text_plain ?_ ?_); (rfl); (intro K hK))
    | ((with_reducible apply Reg.text_nilCheck); (rfl); (intro K hK))
    | ((with_reducible apply Reg.text_bin); (rfl); (rfl); (intro K hK))
    | ((with_reducible refine Reg.text_loud ?_ ?_); (rfl); (intro K hK))
    | ((with_reducible refine Reg.text_skipG ?_ ?_); (rfl); (intro K hK))))
          all_goals go_roundw
          all_goals first
            | (simp [intOf]; omega)
            | exact ⟨j + 1, some j, by simp, rfl, by omega, HA.out rfl (by omega), (HNW.out _).out.drewN 1⟩
            | exact ⟨j + 1, some k, by simp, rfl, by omega, HB.out (.inl rfl), (HNW.out _).out.drewN 1⟩
        · subst heq
          cases s
          all_goals (go_wp2_with (first
    | ((with_reducible refine Reg.wp_region_text ?_ ?_ ?_); (kernel_rfl); (kernel_rfl))
    | ((with_reducible refine Reg.text_nil ?_))
    | ((with_reducible refine Reg.text_plain ?_ ?_); (rfl); (intro K hK))
    | ((with_reducible apply Reg.text_nilCheck); (rfl); (intro K hK))
    | ((with_reducible apply Reg.text_bin); (rfl); (rfl); (intro K hK))
    | ((with_reducible refine Reg.text_loud ?_ ?_); (rfl); (intro K hK))
    | ((with_reducible refine Reg.text_skipG ?_ ?_); (rfl); (intro K hK))))
          all_goals go_roundw
          all_goals first
            | (simp [intOf]; omega)
            | exact ⟨j + 1, some j, by simp, rfl, by omega, HA.out rfl (by omega), (HNW.out _).out.drewN 1⟩
            | exact ⟨j + 1, some k, by simp, rfl, by omega, HB.out (.inl rfl), (HNW.out _).out.drewN 1⟩
            | exact ⟨j + 1, some k, by simp, rfl, by omega, HB.out (.inr (by omega)), (HNW.out _).out.drewN 1⟩
        · have hne : (u == uk) = false := by simp; omega
          cases s
          all_goals (go_wp2_with (first
    | ((with_reducible refine Reg.wp_region_text ?_ ?_ ?_); (kernel_rfl); (kernel_rfl))
    | ((with_reducible refine Reg.text_nil ?_))
    | ((with_reducible refine Reg.text_plain ?_ ?_); (rfl); (intro K hK))
    | ((with_reducible apply Reg.text_nilCheck); (rfl); (intro K hK))
    | ((with_reducible apply Reg.text_bin); (rfl); (rfl); (intro K hK))
    | ((with_reducible refine Reg.text_loud ?_ ?_); (rfl); (intro K hK))
    | ((with_reducible refine Reg.text_skipG ?_ ?_); (rfl); (intro K hK))))
          all_goals (try (exfalso; omega))
          all_goals go_roundw
          all_goals first
            | (simp [intOf]; omega)
            | exact ⟨j + 1, some k, by simp, rfl, by omega, HB.out (.inl rfl), (HNW.out _).out.drewN 1⟩
            | exact ⟨j + 1, some k, by simp, rfl, by omega, HB.out (.inr (by omega)), (HNW.out _).out.drewN 1⟩
    · obtain rfl : j = n := by omega
      clear hjn hj
      cases c with
      | none =>
        have HE : Hid (x = -1) := hx0.out.symm.trans (BestI.end_none (by have := hB.out; rwa [← hln.out] at this))
        simp only [idxV]
        go_wp2
        go_ret
        exact ⟨by rw [HE.out]; rfl, hx.out⟩
      | some k =>
        obtain ⟨hkj, _⟩ := hB.out
        obtain ⟨r, hr, hri⟩ := BestI.end_some HN.out (by have := hB.out; rwa [← hln.out] at this)
        obtain ⟨g, rfl, _, _, d0, _⟩ := HEL.out k r hr
        have a0 := Hp.Ext.cell hx.out d0
        have HE : Hid (x = r.id) := hx0.out.symm.trans hri
        clear hri hr d0
        simp only [idxV]
        go_wp2
        go_ret
        exact ⟨by rw [HE.out]; rfl, hx.out⟩
end Go.Proofs.YtjchfkpcglpgdaaDoor
