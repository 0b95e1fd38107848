/-
  The two schedulers say the same.
-/
import Derived.Test.YtjchfkpcglpgdaaDoorSdPc
import Derived.Test.YtjchfkpcglpgdaaDoorSdSp
set_option linter.unusedSimpArgs false
set_option linter.unusedVariables false
namespace Go.Proofs.YtjchfkpcglpgdaaDoor
open Go.RowKit Go.Hp

/-- What the scheduler holds where the document's holds 'r'. -/
def norm (r : Rec) : Rec := if r.sleeps then r else { r with till := 0 }
theorem norm_id (r : Rec) : (norm r).id = r.id := by unfold norm; split <;> rfl
theorem norm_used (r : Rec) : (norm r).used = r.used := by unfold norm; split <;> rfl
theorem norm_weight (r : Rec) : (norm r).weight = r.weight := by unfold norm; split <;> rfl
theorem norm_sleeps (r : Rec) : (norm r).sleeps = r.sleeps := by unfold norm; split <;> rfl
theorem norm_asleep {r : Rec} (h : r.sleeps = true) : norm r = r := by unfold norm; rw [if_pos h]
theorem norm_awake {r : Rec} (h : r.sleeps = false) : norm r = { r with till := 0 } := by unfold norm; rw [if_neg (by rw [h]; simp)]

section
variable {l x l' x' : List Rec} {id : Int} {c c' : Int}
theorem has_norm : (∃ r ∈ x.map norm, r.id = id) ↔ ∃ r ∈ x, r.id = id := by
  constructor
  · rintro ⟨_, h, e⟩
    obtain ⟨r, hr, rfl⟩ := List.mem_map.1 h
    exact ⟨r, hr, by rw [← norm_id r]; exact e⟩
  · rintro ⟨r, h, e⟩
    exact ⟨norm r, List.mem_map.2 ⟨r, h, rfl⟩, by rw [norm_id]; exact e⟩
theorem hasnt_norm : (∀ r ∈ x.map norm, r.id ≠ id) ↔ ∀ r ∈ x, r.id ≠ id := by
  constructor
  · intro h r hr e
    exact h (norm r) (List.mem_map.2 ⟨r, hr, rfl⟩) (by rw [norm_id]; exact e)
  · intro h r hr e
    obtain ⟨q, hq, rfl⟩ := List.mem_map.1 hr
    exact h q hq (by rw [← norm_id q]; exact e)
theorem clash (h1 : ∃ r ∈ x, r.id = id) (h2 : ∀ r ∈ x, r.id ≠ id) : False := by
  obtain ⟨r, hr, e⟩ := h1
  exact h2 r hr e
theorem least_norm {u : Int} : Least u (x.map norm) ↔ Least u x := by
  unfold Least
  constructor
  · rintro (⟨h1, h2⟩ | ⟨⟨r, hr, e⟩, h2⟩)
    · exact .inl ⟨List.map_eq_nil_iff.1 h1, h2⟩
    · obtain ⟨q, hq, rfl⟩ := List.mem_map.1 hr
      refine .inr ⟨⟨q, hq, by rw [← norm_used q]; exact e⟩, fun y hy => ?_⟩
      have := h2 (norm y) (List.mem_map.2 ⟨y, hy, rfl⟩)
      rwa [norm_used] at this
  · rintro (⟨h1, h2⟩ | ⟨⟨r, hr, e⟩, h2⟩)
    · exact .inl ⟨by rw [h1]; rfl, h2⟩
    · refine .inr ⟨⟨norm r, List.mem_map.2 ⟨r, hr, rfl⟩, by rw [norm_used]; exact e⟩, fun y hy => ?_⟩
      obtain ⟨q, hq, rfl⟩ := List.mem_map.1 hy
      rw [norm_used]
      exact h2 q hq
theorem least_one {u v : Int} (h1 : Least u x) (h2 : Least v x) : u = v := by
  rcases h1 with ⟨e1, e2⟩ | ⟨⟨r, hr, e1⟩, h3⟩
  · rcases h2 with ⟨_, e3⟩ | ⟨⟨r, hr, _⟩, _⟩
    · rw [e2, e3]
    · rw [e1] at hr; cases hr
  · rcases h2 with ⟨e3, _⟩ | ⟨⟨q, hq, e3⟩, h4⟩
    · rw [e3] at hr; cases hr
    · have a1 := h3 q hq
      have a2 := h4 r hr
      omega
theorem updR_norm (f : Rec → Rec) (hf : ∀ r, f (norm r) = norm (f r)) : updR (x.map norm) id f = (updR x id f).map norm := by
  unfold updR
  rw [List.map_map, List.map_map]
  refine List.map_congr_left fun r _ => ?_
  simp only [Function.comp, norm_id]
  split
  · exact hf r
  · rfl

theorem rel_add {we : Int} (h : l = x.map norm) (h1 : AddR l id we c l') (h2 : AddR x id we c' x') : c = c' ∧ l' = x'.map norm := by
  subst h
  cases h1 with
  | bad a =>
    cases h2 with
    | bad => exact ⟨rfl, rfl⟩
    | twice b => exact absurd b a
    | new b => exact absurd b a
  | twice a b =>
    cases h2 with
    | bad d => exact absurd a d
    | twice => exact ⟨rfl, rfl⟩
    | new d e => exact (clash (has_norm.1 b) e).elim
  | new a b d =>
    cases h2 with
    | bad e => exact absurd a e
    | twice e f => exact (clash f (hasnt_norm.1 b)).elim
    | new e f g =>
      refine ⟨rfl, ?_⟩
      obtain rfl := least_one (least_norm.1 d) g
      simp [norm]
theorem rel_ran {steps : Int} (h : l = x.map norm) (h1 : RanR l id steps c l') (h2 : RanR x id steps c' x') : c = c' ∧ l' = x'.map norm := by
  subst h
  cases h1 with
  | none a =>
    cases h2 with
    | none => exact ⟨rfl, rfl⟩
    | bad b => exact (clash b (hasnt_norm.1 a)).elim
    | ran b => exact (clash b (hasnt_norm.1 a)).elim
  | bad a b =>
    cases h2 with
    | none d => exact (clash (has_norm.1 a) d).elim
    | bad => exact ⟨rfl, rfl⟩
    | ran _ d => exact absurd b d
  | ran a b =>
    cases h2 with
    | none d => exact (clash (has_norm.1 a) d).elim
    | bad _ d => exact absurd d b
    | ran =>
      refine ⟨rfl, updR_norm _ fun r => ?_⟩
      obtain ⟨i, w, u, s, t⟩ := r
      cases s <;> rfl
theorem rel_sleep {till : Int} (h : l = x.map norm) (h1 : SleepR l id till c l') (h2 : SleepR x id till c' x') : c = c' ∧ l' = x'.map norm := by
  subst h
  cases h1 with
  | none a =>
    cases h2 with
    | none => exact ⟨rfl, rfl⟩
    | slept b => exact (clash b (hasnt_norm.1 a)).elim
  | slept a =>
    cases h2 with
    | none d => exact (clash (has_norm.1 a) d).elim
    | slept =>
      refine ⟨rfl, updR_norm _ fun r => ?_⟩
      rw [norm_asleep (r := { r with sleeps := true, till := till }) rfl]
      cases hs : r.sleeps with
      | true => rw [norm_asleep hs]
      | false => rw [norm_awake hs]
theorem rel_del (h : l = x.map norm) (h1 : DelR l id c l') (h2 : DelR x id c' x') : c = c' ∧ l' = x'.map norm := by
  subst h
  cases h1 with
  | none a =>
    cases h2 with
    | none => exact ⟨rfl, rfl⟩
    | gone b => exact (clash b (hasnt_norm.1 a)).elim
  | gone a =>
    cases h2 with
    | none d => exact (clash (has_norm.1 a) d).elim
    | gone =>
      refine ⟨rfl, ?_⟩
      rw [List.filter_map]
      congr 1
      refine List.filter_congr fun r _ => ?_
      simp only [Function.comp, norm_id]

theorem due_norm (now : Int) (r : Rec) : due now (norm r) = due now r := by
  unfold due
  cases hs : r.sleeps with
  | true => rw [norm_asleep hs, hs]
  | false => rw [norm_sleeps, hs]; rfl
theorem due_same {now : Int} {r : Rec} (h : due now r = true) : norm r = r := norm_asleep (by unfold due at h; simp only [Bool.and_eq_true] at h; exact h.1)
theorem rel_wake {now : Int} {ws ws' : List Rec} (h : l = x.map norm) (h1 : Woke now l ws) (h2 : Woke now x ws') : ws = ws' ∧ wokeBy now l = (wokenBy now x).map norm := by
  subst h
  refine ⟨sorted_unique h1.srt h2.srt fun r => ?_, ?_⟩
  · rw [h1.mem, h2.mem]
    constructor
    · rintro ⟨a, b⟩
      obtain ⟨q, hq, rfl⟩ := List.mem_map.1 a
      have := b
      rw [due_norm] at this
      rw [due_same this]
      exact ⟨hq, this⟩
    · rintro ⟨a, b⟩
      exact ⟨List.mem_map.2 ⟨r, a, due_same b⟩, b⟩
  · unfold wokeBy wokenBy
    rw [List.map_map, List.map_map]
    refine List.map_congr_left fun r _ => ?_
    simp only [Function.comp, due_norm]
    by_cases hd : due now r = true
    · rw [if_pos hd, if_pos hd, due_same hd, norm_awake (r := rouse r) rfl]
      rfl
    · rw [if_neg hd, if_neg hd]

theorem rel_ready (h : l = x.map norm) : readyIds l = readyIds x := by
  subst h
  unfold readyIds
  rw [List.filter_map, List.map_map]
  congr 1
  have : (x.filter ((fun r => !r.sleeps) ∘ norm)) = x.filter fun r => !r.sleeps := List.filter_congr fun r _ => by simp only [Function.comp, norm_sleeps]
  rw [this]
  exact List.map_congr_left fun r _ => norm_id r
theorem best_norm : ∀ x : List Rec, best (x.map norm) = (best x).map norm
  | [] => rfl
  | r :: x => by
    simp only [List.map_cons, best, norm_sleeps, best_norm x]
    split
    · rfl
    · cases best x with
      | none => rfl
      | some s =>
        simp only [Option.map_some, before, norm_used, norm_id]
        split <;> rename_i hc <;> simp [hc]
/-- What Pick answers here and there. -/
theorem rel_pick (h : l = x.map norm) (hok : ∀ r ∈ l, 0 ≤ r.id) : ∃ a, pickV l = .tuple #[.int .i64 a, .bool (decide (0 ≤ bestId x))] ∧ (0 ≤ bestId x → a = bestId x) := by
  subst h
  unfold pickV bestId
  rw [best_norm]
  cases hb : best x with
  | none => exact ⟨0, rfl, fun h => by simp at h⟩
  | some r =>
    have := hok (norm r) (List.mem_map.2 ⟨r, (best_some hb).1, rfl⟩)
    rw [norm_id] at this
    refine ⟨r.id, ?_, fun _ => rfl⟩
    simp only [Option.map_some, norm_id]
    rw [decide_eq_true this]
theorem rel_doc (h : l = x.map norm) (hid : (l.map (·.id)).Nodup) (hok : ∀ r ∈ l, Okr r) : Doc x := by
  subst h
  have e : (x.map norm).map (·.id) = x.map (·.id) := by
    rw [List.map_map]
    exact List.map_congr_left fun r _ => norm_id r
  rw [e] at hid
  have hr : ∀ r ∈ x, Okr (norm r) := fun r hr => hok _ (List.mem_map.2 ⟨r, hr, rfl⟩)
  refine ⟨?_, hid, fun r hx => ?_⟩
  · have := ints8 8 (x.map (·.id)) hid (fun i hi => by
      obtain ⟨r, hx, rfl⟩ := List.mem_map.1 hi
      have := hr r hx
      have a := this.id0
      have b := this.id8
      rw [norm_id] at a b
      exact ⟨a, b⟩)
    simpa using this
  · have := hr r hx
    have a := this.w1
    have b := this.w2
    have c := this.u1
    have d := this.u2
    rw [norm_weight] at a b
    rw [norm_used] at c d
    exact ⟨a, b, c, d⟩
theorem rel_used {u : Int} {b : Bool} (h : l = x.map norm) (h1 : UsedR l id u b) : (∃ r ∈ x, r.id = id ∧ r.used = u ∧ b = true) ∨ ((∀ r ∈ x, r.id ≠ id) ∧ b = false) := by
  subst h
  cases h1 with
  | none a => exact .inr ⟨hasnt_norm.1 a, rfl⟩
  | some a e =>
    obtain ⟨q, hq, rfl⟩ := List.mem_map.1 a
    rw [norm_id] at e
    exact .inl ⟨q, hq, e, (norm_used q).symm, rfl⟩
end
end Go.Proofs.YtjchfkpcglpgdaaDoor
