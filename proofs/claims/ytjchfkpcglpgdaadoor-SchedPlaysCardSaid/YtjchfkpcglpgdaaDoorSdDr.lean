/-
  The document's Ready.
-/
import Derived.Test.YtjchfkpcglpgdaaDoorSdPu
set_option linter.unusedSimpArgs false
set_option linter.unusedVariables false
namespace Go.Proofs.YtjchfkpcglpgdaaDoor
open Go.RowKit Go.Hp

theorem put_calls {w : World} {v : Value} {l : List Int} {B : List Nat} (h : (ints v l).at_ w B) (hl : l.length ≤ 1000) (hs : l.Pairwise (· < ·)) (n : Int) (hn : n ∉ l) :
    Calls Tryd.prog 39 #[v, .int .i64 n] w (PutPost w l n) := by
  obtain ⟨arr, tail, h1, rfl⟩ := h
  cases arr with
  | none =>
    obtain ⟨_, h2, h3, _⟩ := h1
    obtain rfl := List.length_eq_zero_iff.1 h3
    subst h2
    exact put_nil n
  | some g =>
    obtain ⟨_, cap, e, _⟩ := _root_.id h1
    subst e
    exact put_some h1 rfl hl hs n hn

theorem lt_sorted {l m : List Int} (h1 : l.Pairwise (· < ·)) (h2 : l.Perm m) : l = sorted m := by
  have hle : l.Pairwise (· ≤ ·) := h1.imp fun h => Int.le_of_lt h
  refine List.Perm.eq_of_pairwise (le := fun a b : Int => a ≤ b) (fun a b _ _ h3 h4 => Int.le_antisymm h3 h4) hle ?_ (h2.trans (List.mergeSort_perm m _).symm)
  have := List.pairwise_mergeSort (le := fun a b : Int => decide (a ≤ b)) (fun a b c h3 h4 => by simp at *; omega) (fun a b => by simp; omega) m
  exact this.imp fun h => by simpa using h

structure DRInv (w : World) (l : List Rec) (wr : World) (v : Value) (k : Nat) : Prop where
  row : ∃ ids B, (ints v ids).at_ wr B ∧ (∀ b ∈ B, w.heap.size ≤ b) ∧ ids.Pairwise (· < ·) ∧ ids.Perm (((l.take k).filter fun r => !r.sleeps).map (·.id))
  ext : Ext w wr

theorem DRInv.more {w : World} {l : List Rec} {wr w2 : World} {k : Nat} {e : Ending} {r : Rec} {ids : List Int} (hk : l[k]? = some r) (hs : r.sleeps = false) (hx : Ext w wr) (hp : ids.Perm (((l.take k).filter fun r => !r.sleeps).map (·.id)))
    (h : PutPost wr ids r.id e w2) : ∃ v', e = .returned v' ∧ DRInv w l w2 v' (k + 1) := by
  obtain ⟨l', h1, h2, v', B, rfl, h3, h4, h5⟩ := h
  refine ⟨v', rfl, ⟨l', B, h3, fun b hb => Nat.le_trans hx.size (h4 b hb), h1, ?_⟩, hx.trans h5 (fun _ _ h => h)⟩
  rw [take_snoc' hk, List.filter_append, List.map_append]
  refine h2.trans ?_
  have e : ([r].filter fun r => !r.sleeps).map (·.id) = [r.id] := by simp [hs]
  rw [e]
  exact ((List.Perm.cons _ hp).trans (List.perm_append_singleton _ _).symm)
theorem DRInv.less {w : World} {l : List Rec} {wr : World} {v : Value} {k : Nat} {r : Rec} (h : DRInv w l wr v k) (hk : l[k]? = some r) (hs : r.sleeps = true) : DRInv w l wr v (k + 1) := by
  obtain ⟨⟨ids, B, h1, h2, h3, h4⟩, h5⟩ := h
  refine ⟨⟨ids, B, h1, h2, h3, ?_⟩, h5⟩
  rw [take_snoc' hk, List.filter_append, List.map_append]
  simpa [hs] using h4
theorem DRInv.out {w : World} {l : List Rec} {wr : World} {v : Value} (h : DRInv w l wr v l.length) : ∃ B, (ints v (readyIds l)).at_ wr B ∧ (∀ b ∈ B, w.heap.size ≤ b) ∧ Ext w wr := by
  obtain ⟨⟨ids, B, h1, h2, h3, h4⟩, h5⟩ := h
  rw [List.take_length] at h4
  refine ⟨B, ?_, h2, h5⟩
  have := lt_sorted h3 h4
  unfold readyIds
  rw [← this]
  exact h1

set_option maxRecDepth 100000 in
set_option maxHeartbeats 4000000 in
theorem dready_calls {w : World} {b : Nat} {l : List Rec} {B : List Nat} (h : (docS b l).at_ w B) (hl : l.length ≤ 8) (hn : (l.map (·.id)).Nodup) :
    Calls Tryd.prog 28 #[.pointer (some ⟨b, 0, none⟩)] w (ReadyPost w l) := by
  obtain ⟨ao, cap, c0, f0, hel⟩ := docS_read h
  have HEL := Lib.hid hel
  have HN := Lib.hid hn
  obtain ⟨n, hln⟩ : ∃ n, Hid (l.length = n) := ⟨_, rfl⟩
  rw [hln.out] at c0 hl
  have HC0 := Lib.hid c0
  clear h hel hn c0
  go_enter Tryd.func28, Tryd.ntmps28
  go_wp2
  go_loopw [3, 4] (fun v i wr => ∃ k : Nat, i = .int .i64 k ∧ k ≤ n ∧ Hid (DRInv w l wr v k)) (fun _ i _ => n - (intOf i).toNat)
  case atStart => exact ⟨0, rfl, by omega, ⟨[], [], ints_nil _ _, by simp, List.Pairwise.nil, by simp⟩, Only.refl _ _⟩
  case round =>
    obtain ⟨k, rfl, hk, hD⟩ := hrel
    have c0 := Hp.Ext.cell hD.out.ext HC0.out
    by_cases hkn : k < n
    · obtain ⟨r, hr⟩ : ∃ r, l[k]? = some r := ⟨_, List.getElem?_eq_getElem (by rw [hln.out]; exact hkn)⟩
      obtain ⟨g, rfl, hgb, hgB, d0, _, _, d3, _, _⟩ := HEL.out k r hr
      have a0 := Hp.Ext.cell hD.out.ext d0
      have a3 := Hp.Ext.cell hD.out.ext d3
      cases hs : r.sleeps with
      | true =>
        have HD2 := Lib.hid (hD.out.less hr hs)
        rw [hs] at a3
        clear d0 d3 hr hs
        go_wp2
        go_roundw
        case rel => exact ⟨k + 1, by simp, by omega, HD2⟩
        case measure => simp [intOf]; omega
      | false =>
        obtain ⟨⟨ids, B', h1, h2, h3, h4⟩, h5⟩ := hD.out
        have hin : ids.length ≤ 1000 := by
          rw [h4.length_eq, List.length_map]
          have := List.length_filter_le (fun r : Rec => !r.sleeps) (l.take k)
          rw [List.length_take] at this
          omega
        have hni : r.id ∉ ids := fun hm => by
          obtain ⟨x, hx, e⟩ := List.mem_map.1 (h4.mem_iff.1 hm)
          have hx := (List.mem_filter.1 hx).1
          obtain ⟨i, hi⟩ := List.mem_iff_getElem?.1 hx
          rw [List.getElem?_take] at hi
          split at hi
          · rename_i hik
            have hkl : i < l.length := (List.getElem?_eq_some_iff.1 hi).1
            have := (List.getElem?_inj (i := i) (j := k) (by simpa using hkl) HN.out).1 (by rw [List.getElem?_map, List.getElem?_map, hi, hr]; simp [e])
            omega
          · cases hi
        have HPU := Lib.hid (put_calls h1 hin h3 r.id hni)
        have HMO : Hid (∀ e w2, PutPost wr ids r.id e w2 → ∃ v', e = .returned v' ∧ DRInv w l w2 v' (k + 1)) := fun e w2 hp => DRInv.more hr hs h5 h4 hp
        rw [hs] at a3
        obtain ⟨x, hx⟩ : ∃ x, Hid (r.id = x) := ⟨_, rfl⟩
        rw [hx.out] at a0 HPU HMO
        clear d0 d3 hr hs h1 h2 h3 h4 h5 hin hni hD
        go_wp2_with (first
    | ((go_at_call 39; refine HPU.out.mono ?_; rintro e w2 hp; obtain ⟨v', rfl, hD2⟩ := HMO.out e w2 hp; have HD2 := Lib.hid hD2; clear hp hD2))
    | ((with_reducible refine Reg.wp_region_text ?_ ?_ ?_); (kernel_rfl); (kernel_rfl))
    | ((with_reducible refine Reg.text_nil ?_))
    | ((with_reducible refine Reg.text_plain ?_ ?_); (rfl); (intro K hK))
    | ((with_reducible apply Reg.text_nilCheck); (rfl); (intro K hK))
    | ((with_reducible apply Reg.text_bin); (rfl); (rfl); (intro K hK))
    | ((with_reducible refine Reg.text_loud ?_ ?_); (rfl); (intro K hK))
    | ((with_reducible refine Reg.text_skipG ?_ ?_); (rfl); (intro K hK)))
        go_roundw
        case rel => exact ⟨k + 1, by simp, by omega, HD2⟩
        case measure => simp [intOf]; omega
    · obtain rfl : k = n := by omega
      have HO := Lib.hid (DRInv.out (by have := hD.out; rwa [← hln.out] at this))
      clear hD
      go_wp2
      go_ret
      obtain ⟨B', h1, h2, h3⟩ := HO.out
      exact ⟨_, B', rfl, h1, h2, h3⟩
end Go.Proofs.YtjchfkpcglpgdaaDoor
