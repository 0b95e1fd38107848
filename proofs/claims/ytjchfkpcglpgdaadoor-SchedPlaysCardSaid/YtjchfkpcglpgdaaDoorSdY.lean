/-
  The document's scheduler in memory: guest, Add, Ran, Sleep.
-/
import Derived.Test.YtjchfkpcglpgdaaDoorSdX
set_option linter.unusedSimpArgs false
set_option linter.unusedVariables false
namespace Go.Proofs.YtjchfkpcglpgdaaDoor
open Go.RowKit Go.Hp

theorem docS_only {w w' : World} {b : Nat} {l : List Rec} {B : List Nat} (h : (docS b l).at_ w B) (he : Ext w w') : (docS b l).at_ w' B := (docS b l).keep h he (fun _ _ h => h)

theorem set_updR {l : List Rec} {k : Nat} {r : Rec} {id : Int} (f : Rec → Rec) (hn : (l.map (·.id)).Nodup) (hk : l[k]? = some r) (hr : r.id = id) : l.set k (f r) = updR l id f := by
  have hkl : k < l.length := (List.getElem?_eq_some_iff.1 hk).1
  apply List.ext_getElem?
  intro j
  unfold updR
  rw [List.getElem?_set, List.getElem?_map]
  by_cases e : k = j
  · subst e
    rw [if_pos rfl, if_pos hkl, hk]
    simp [hr]
  · rw [if_neg e]
    cases hj : l[j]? with
    | none => rfl
    | some x =>
      have : x.id ≠ id := fun q => e ((List.getElem?_inj (by simpa using hkl) hn).1 (by rw [List.getElem?_map, List.getElem?_map, hk, hj]; simp [hr, q]))
      simp [this]

set_option maxRecDepth 100000 in
set_option maxHeartbeats 1000000 in
theorem dsleep_none {w : World} {b : Nat} {l : List Rec} {B : List Nat} (h : (docS b l).at_ w B) (hl : l.length ≤ 8) {id : Int} (till : Int) (hk : findI l id = none) :
    Calls Tryd.prog 25 #[.pointer (some ⟨b, 0, none⟩), .int .i64 id, .int .i64 till] w fun e w' => e = .returned (.int .i64 107) ∧ w = w' := by
  have HF := Lib.hid (find_none h hl hk)
  clear h hk hl
  go_enter Tryd.func25, Tryd.ntmps25
  go_wp2_with (first
    | ((go_at_call 38; refine HF.out.mono ?_; rintro e w1 ⟨rfl, rfl⟩))
    | ((with_reducible refine Reg.wp_region_text ?_ ?_ ?_); (kernel_rfl); (kernel_rfl))
    | ((with_reducible refine Reg.text_nil ?_))
    | ((with_reducible refine Reg.text_plain ?_ ?_); (rfl); (intro K hK))
    | ((with_reducible apply Reg.text_nilCheck); (rfl); (intro K hK))
    | ((with_reducible apply Reg.text_bin); (rfl); (rfl); (intro K hK))
    | ((with_reducible refine Reg.text_loud ?_ ?_); (rfl); (intro K hK))
    | ((with_reducible refine Reg.text_skipG ?_ ?_); (rfl); (intro K hK)))
  go_ret
  exact ⟨rfl, rfl⟩
set_option maxRecDepth 100000 in
set_option maxHeartbeats 1000000 in
theorem dsleep_some {w : World} {b : Nat} {l : List Rec} {B : List Nat} (h : (docS b l).at_ w B) (hl : l.length ≤ 8) (hn : (l.map (·.id)).Nodup) {id : Int} (till : Int) {k : Nat} (hk : findI l id = some k) :
    Calls Tryd.prog 25 #[.pointer (some ⟨b, 0, none⟩), .int .i64 id, .int .i64 till] w fun e w' => e = .returned (.int .i64 0) ∧ Lvs B (docS b (updR l id fun x => { x with sleeps := true, till := till })) w w' := by
  have HF := Lib.hid (find_some h hl hk)
  obtain ⟨ao, cap, c0, f0, hel⟩ := docS_read h
  obtain ⟨r, hr, hri⟩ := findI_some hk
  obtain ⟨g, rfl, hgb, hgB, _, _, _, c3, c4, hfz⟩ := hel k r hr
  have hkl : k < l.length := (List.getElem?_eq_some_iff.1 hr).1
  have hbg : b ≠ g := fun e => hgb e.symm
  have f3 := hfz (k * 5 + 3)
  have f4 := hfz (k * 5 + 4)
  obtain ⟨s1, _⟩ := docS_store h hr c0 rfl 3 (.bool true) { r with sleeps := true } (by decide) rfl
  have c0' : (w.setCell ⟨g, k * 5 + 3, none⟩ (.bool true)).cell? ⟨b, 0, none⟩ = some (.slice (some ⟨g, 0, none⟩) l.length cap) := (World.cell?_of_block (a := ⟨b, 0, none⟩) (heap_setCell_ne w ⟨g, k * 5 + 3, none⟩ _ hbg)).trans c0
  obtain ⟨s2, _⟩ := docS_store s1 (r := { r with sleeps := true }) (i := k) (by rw [List.getElem?_set_self hkl]) c0' rfl 4 (.int .i64 till) { r with sleeps := true, till := till } (by decide) rfl
  rw [List.set_set] at s2
  have e := set_updR (fun x => { x with sleeps := true, till := till }) hn hr hri
  rw [e] at s2
  have HS := Lib.hid s2
  have HGB := Lib.hid hgB
  obtain ⟨n, hln⟩ : ∃ n, l.length = n := ⟨_, rfl⟩
  rw [hln] at c0 hkl hl
  clear h hk hel hr s1 s2 c0' e hfz hln hgB
  go_enter Tryd.func25, Tryd.ntmps25
  go_wp2_with (first
    | ((go_at_call 38; refine HF.out.mono ?_; rintro e w1 ⟨rfl, rfl⟩))
    | ((with_reducible refine Reg.wp_region_text ?_ ?_ ?_); (kernel_rfl); (kernel_rfl))
    | ((with_reducible refine Reg.text_nil ?_))
    | ((with_reducible refine Reg.text_plain ?_ ?_); (rfl); (intro K hK))
    | ((with_reducible apply Reg.text_nilCheck); (rfl); (intro K hK))
    | ((with_reducible apply Reg.text_bin); (rfl); (rfl); (intro K hK))
    | ((with_reducible refine Reg.text_loud ?_ ?_); (rfl); (intro K hK))
    | ((with_reducible refine Reg.text_skipG ?_ ?_); (rfl); (intro K hK)))
  go_ret
  exact ⟨rfl, ⟨B, HS.out, fun _ h => .inl h⟩, ((Only.refl (fun b => b ∈ B) w).setCell _ (fun _ => HGB.out)).setCell _ (fun _ => HGB.out)⟩

set_option maxRecDepth 100000 in
set_option maxHeartbeats 1000000 in
theorem dran_none {w : World} {b : Nat} {l : List Rec} {B : List Nat} (h : (docS b l).at_ w B) (hl : l.length ≤ 8) {id : Int} (steps : Int) (hk : findI l id = none) :
    Calls Tryd.prog 24 #[.pointer (some ⟨b, 0, none⟩), .int .i64 id, .int .i64 steps] w fun e w' => e = .returned (.int .i64 107) ∧ w = w' := by
  have HF := Lib.hid (find_none h hl hk)
  clear h hk hl
  go_enter Tryd.func24, Tryd.ntmps24
  go_wp2_with (first
    | ((go_at_call 38; refine HF.out.mono ?_; rintro e w1 ⟨rfl, rfl⟩))
    | ((with_reducible refine Reg.wp_region_text ?_ ?_ ?_); (kernel_rfl); (kernel_rfl))
    | ((with_reducible refine Reg.text_nil ?_))
    | ((with_reducible refine Reg.text_plain ?_ ?_); (rfl); (intro K hK))
    | ((with_reducible apply Reg.text_nilCheck); (rfl); (intro K hK))
    | ((with_reducible apply Reg.text_bin); (rfl); (rfl); (intro K hK))
    | ((with_reducible refine Reg.text_loud ?_ ?_); (rfl); (intro K hK))
    | ((with_reducible refine Reg.text_skipG ?_ ?_); (rfl); (intro K hK)))
  go_ret
  exact ⟨rfl, rfl⟩
set_option maxRecDepth 100000 in
set_option maxHeartbeats 1000000 in
theorem dran_bad {w : World} {b : Nat} {l : List Rec} {B : List Nat} (h : (docS b l).at_ w B) (hl : l.length ≤ 8) {id steps : Int} {k : Nat} (hk : findI l id = some k) (hs : steps < 0 ∨ 1073741824 < steps) :
    Calls Tryd.prog 24 #[.pointer (some ⟨b, 0, none⟩), .int .i64 id, .int .i64 steps] w fun e w' => e = .returned (.int .i64 103) ∧ w = w' := by
  have HF := Lib.hid (find_some h hl hk)
  have hkl : k < l.length := by
    obtain ⟨r, hr, _⟩ := findI_some hk
    exact (List.getElem?_eq_some_iff.1 hr).1
  clear h hk
  rcases hs with hs | hs
  all_goals (
    go_enter Tryd.func24, Tryd.ntmps24
    go_wp2_with (first
    | ((go_at_call 38; refine HF.out.mono ?_; rintro e w1 ⟨rfl, rfl⟩))
    | ((with_reducible refine Reg.wp_region_text ?_ ?_ ?_); (kernel_rfl); (kernel_rfl))
    | ((with_reducible refine Reg.text_nil ?_))
    | ((with_reducible refine Reg.text_plain ?_ ?_); (rfl); (intro K hK))
    | ((with_reducible apply Reg.text_nilCheck); (rfl); (intro K hK))
    | ((with_reducible apply Reg.text_bin); (rfl); (rfl); (intro K hK))
    | ((with_reducible refine Reg.text_loud ?_ ?_); (rfl); (intro K hK))
    | ((with_reducible refine Reg.text_skipG ?_ ?_); (rfl); (intro K hK)))
    all_goals (try (exfalso; omega))
    all_goals go_ret
    all_goals exact ⟨rfl, rfl⟩)
set_option maxRecDepth 100000 in
set_option maxHeartbeats 1000000 in
theorem dran_some {w : World} {b : Nat} {l : List Rec} {B : List Nat} (h : (docS b l).at_ w B) (hl : l.length ≤ 8) (hn : (l.map (·.id)).Nodup) {id steps : Int} {k : Nat} (hk : findI l id = some k) (hok : ∀ r ∈ l, 1 ≤ r.weight ∧ r.weight ≤ 100 ∧ 0 ≤ r.used ∧ r.used ≤ 1152921504606846976)
    (hs1 : 0 ≤ steps) (hs2 : steps ≤ 1073741824) :
    Calls Tryd.prog 24 #[.pointer (some ⟨b, 0, none⟩), .int .i64 id, .int .i64 steps] w fun e w' => e = .returned (.int .i64 0) ∧ Lvs B (docS b (updR l id fun x => { x with used := usedBy x steps })) w w' := by
  have HF := Lib.hid (find_some h hl hk)
  obtain ⟨ao, cap, c0, f0, hel⟩ := docS_read h
  obtain ⟨r, hr, hri⟩ := findI_some hk
  obtain ⟨hw1, hw2, hu1, hu2⟩ := hok r (List.mem_of_getElem? hr)
  obtain ⟨g, rfl, hgb, hgB, _, c1, c2, _, _, hfz⟩ := hel k r hr
  have hkl : k < l.length := (List.getElem?_eq_some_iff.1 hr).1
  have hbg : b ≠ g := fun e => hgb e.symm
  have f2 := hfz (k * 5 + 2)
  have hst : ∀ x : Int, x = usedBy r steps → (docS b (updR l id fun x => { x with used := usedBy x steps })).at_ (w.setCell ⟨g, k * 5 + 2, none⟩ (.int .i64 x)) B := fun x hx => by
    obtain ⟨s1, _⟩ := docS_store h hr c0 rfl 2 (.int .i64 x) { r with used := usedBy r steps } (by decide) (by rw [hx]; rfl)
    have e := set_updR (fun x => { x with used := usedBy x steps }) hn hr hri
    rw [e] at s1
    exact s1
  have HS := Lib.hid hst
  have HGB := Lib.hid hgB
  unfold usedBy at HS
  obtain ⟨n, hln⟩ : ∃ n, l.length = n := ⟨_, rfl⟩
  rw [hln] at c0 hkl hl
  obtain ⟨we, hwe⟩ : ∃ we, Hid (r.weight = we) := ⟨_, rfl⟩
  obtain ⟨us, hus⟩ : ∃ us, Hid (r.used = us) := ⟨_, rfl⟩
  rw [hwe.out] at c1 hw1 hw2 HS
  rw [hus.out] at c2 hu1 hu2 HS
  have hdv1 : 0 ≤ 100 * steps / we := Int.ediv_nonneg (by omega) (by omega)
  have hdv2 : 100 * steps / we ≤ 107374182400 := Int.le_trans (Int.ediv_le_self _ (by omega)) (by omega)
  clear h hk hel hr hfz hln hgB hst hok hn
  go_enter Tryd.func24, Tryd.ntmps24
  go_wp2_with (first
    | ((go_at_call 38; refine HF.out.mono ?_; rintro e w1 ⟨rfl, rfl⟩))
    | ((with_reducible refine Reg.wp_region_text ?_ ?_ ?_); (kernel_rfl); (kernel_rfl))
    | ((with_reducible refine Reg.text_nil ?_))
    | ((with_reducible refine Reg.text_plain ?_ ?_); (rfl); (intro K hK))
    | ((with_reducible apply Reg.text_nilCheck); (rfl); (intro K hK))
    | ((with_reducible apply Reg.text_bin); (rfl); (rfl); (intro K hK))
    | ((with_reducible refine Reg.text_loud ?_ ?_); (rfl); (intro K hK))
    | ((with_reducible refine Reg.text_skipG ?_ ?_); (rfl); (intro K hK)))
  all_goals (try (exfalso; omega))
  all_goals go_ret
  all_goals exact ⟨rfl, Lvs.drewN (w1 := w.setCell _ _) ⟨⟨B, HS.out _ (by omega), fun _ h => .inl h⟩, ((Only.refl (fun b => b ∈ B) w).setCell _ (fun _ => HGB.out))⟩ 1⟩
end Go.Proofs.YtjchfkpcglpgdaaDoor
