/-
  SchedFair's plain law: nothing of the program's text.
-/
import Derived.Test.YtjchfkpcglpgdaaDoorSdT
set_option linter.unusedSimpArgs false
set_option linter.unusedVariables false
namespace Go.Proofs.YtjchfkpcglpgdaaDoor
open Go.RowKit Go.Hp

/-- Those with numbers below n, each with nothing used. -/
structure FairA (n : Nat) (l : List Rec) : Prop where
  ids : l.map (·.id) = (List.range n).map Int.ofNat
  zero : ∀ r ∈ l, r.used = 0 ∧ r.sleeps = false

structure FairL (n : Nat) (out turns : Int) (l : List Rec) : Prop where
  ids : l.map (·.id) = (List.range n).map Int.ofNat
  slp : ∀ r ∈ l, r.sleeps = true ↔ 1 < n ∧ r.id = out
  tl : ∀ r ∈ l, r.sleeps = true → r.till = turns
  near : ∀ r ∈ l, ∀ s ∈ l, r.sleeps = false → s.sleeps = false → r.used ≤ s.used + 10000

theorem ids_get {n : Nat} {l : List Rec} (h : l.map (·.id) = (List.range n).map Int.ofNat) {k : Nat} (hk : k < n) : ∃ r ∈ l, r.id = (k : Int) := by
  have : (k : Int) ∈ l.map (·.id) := by rw [h]; exact List.mem_map.2 ⟨k, List.mem_range.2 hk, rfl⟩
  obtain ⟨r, hr, hri⟩ := List.mem_map.1 this
  exact ⟨r, hr, hri⟩
theorem ids_lt {n : Nat} {l : List Rec} (h : l.map (·.id) = (List.range n).map Int.ofNat) {r : Rec} (hr : r ∈ l) : ∃ k : Nat, k < n ∧ r.id = (k : Int) := by
  have : r.id ∈ l.map (·.id) := List.mem_map.2 ⟨r, hr, rfl⟩
  rw [h] at this
  obtain ⟨k, hk, hk2⟩ := List.mem_map.1 this
  exact ⟨k, List.mem_range.1 hk, hk2.symm⟩

theorem FairA.nil : FairA 0 [] := ⟨rfl, by simp⟩
theorem FairA.snoc {n : Nat} {l : List Rec} {u we : Int} (h : FairA n l) (hu : Least u l) : FairA (n + 1) (l ++ [⟨n, we, u, false, 0⟩]) := by
  have h0 : u = 0 := by
    rcases hu with ⟨_, h1⟩ | ⟨⟨r, hr, h1⟩, _⟩
    · exact h1
    · rw [← h1]; exact (h.zero r hr).1
  refine ⟨?_, fun r hr => ?_⟩
  · rw [List.map_append, h.ids, List.range_succ, List.map_append]
    rfl
  · rcases List.mem_append.1 hr with hr | hr
    · exact h.zero r hr
    · simp only [List.mem_cons, List.not_mem_nil, or_false] at hr
      subst hr
      exact ⟨h0, rfl⟩
theorem FairA.new {n : Nat} {l : List Rec} (h : FairA n l) : ∀ r ∈ l, r.id ≠ (n : Int) := fun r hr => by
  obtain ⟨k, hk, e⟩ := ids_lt h.ids hr
  omega

theorem updR_id (l : List Rec) (id : Int) (f : Rec → Rec) (hf : ∀ r, (f r).id = r.id) : (updR l id f).map (·.id) = l.map (·.id) := by
  unfold updR
  rw [List.map_map]
  refine List.map_congr_left fun r _ => ?_
  simp only [Function.comp]
  split
  · exact hf r
  · rfl

theorem FairA.one {out turns : Int} {l : List Rec} (h : FairA 1 l) : FairL 1 out turns l := by
  refine ⟨h.ids, fun r hr => ?_, fun r hr hs => ?_, fun r hr s hs _ _ => ?_⟩
  · simp [(h.zero r hr).2]
  · rw [(h.zero r hr).2] at hs; cases hs
  · rw [(h.zero r hr).1, (h.zero s hs).1]; omega
theorem FairA.many {n : Nat} {out turns : Int} {l : List Rec} (h : FairA n l) (hn : 1 < n) : FairL n out turns (updR l out fun x => { x with sleeps := true, till := turns }) := by
  refine ⟨(updR_id l _ _ (by intro r; rfl)).trans h.ids, fun r hr => ?_, fun r hr hs => ?_, fun r hr s hs _ _ => ?_⟩
  all_goals (unfold updR at hr; obtain ⟨x, hx, rfl⟩ := List.mem_map.1 hr; have hz := h.zero x hx)
  · by_cases e : x.id = out
    · simp [e, hn]
    · simp [e, hz.2]
  · by_cases e : x.id = out
    · simp [e]
    · rw [if_neg e] at hs; rw [hz.2] at hs; cases hs
  · unfold updR at hs
    obtain ⟨y, hy, rfl⟩ := List.mem_map.1 hs
    have hz2 := h.zero y hy
    have e1 : (if x.id = out then ({ x with sleeps := true, till := turns } : Rec) else x).used = 0 := by split <;> exact hz.1
    have e2 : (if y.id = out then ({ y with sleeps := true, till := turns } : Rec) else y).used = 0 := by split <;> exact hz2.1
    rw [e1, e2]; omega

theorem FairL.best {n : Nat} {out turns : Int} {l : List Rec} (h : FairL n out turns l) (hn : 0 < n) (ho : 0 ≤ out) (ho2 : out < n) :
    ∃ r, best l = some r ∧ r ∈ l ∧ r.sleeps = false ∧ (1 < n → r.id ≠ out) ∧ ∀ x ∈ l, x.sleeps = false → r.used ≤ x.used := by
  cases hb : Go.Proofs.YtjchfkpcglpgdaaDoor.best l with
  | none =>
    exfalso
    have hall := best_none hb
    obtain ⟨r0, hr0, e0⟩ := ids_get h.ids hn
    obtain ⟨h1, h2⟩ := (h.slp r0 hr0).1 (hall r0 hr0)
    obtain ⟨r1, hr1, e1⟩ := ids_get h.ids h1
    obtain ⟨_, h3⟩ := (h.slp r1 hr1).1 (hall r1 hr1)
    omega
  | some r =>
    obtain ⟨h1, h2, h3⟩ := best_some hb
    refine ⟨r, rfl, h1, h2, fun hn1 e => ?_, fun x hx hxs => ?_⟩
    · have := (h.slp r h1).2 ⟨hn1, e⟩
      rw [h2] at this; cases this
    · have := h3 x hx hxs
      simp only [before, Bool.or_eq_false_iff, decide_eq_false_iff_not] at this
      omega

theorem usedBy_le {r : Rec} (h : Okr r) : r.used ≤ usedBy r 100 ∧ usedBy r 100 ≤ r.used + 10000 := by
  have h1 : (0 : Int) ≤ 100 * 100 / r.weight := Int.ediv_nonneg (by decide) (by have := h.w1; omega)
  have h2 : (100 * 100 : Int) / r.weight ≤ 100 * 100 := Int.ediv_le_self _ (by decide)
  have h3 := h.u2
  unfold usedBy
  generalize (100 * 100 : Int) / r.weight = q at *
  omega

theorem FairL.ran {n : Nat} {out turns : Int} {l : List Rec} {r : Rec} (h : FairL n out turns l) (hid : (l.map (·.id)).Nodup) (hok : ∀ r ∈ l, Okr r) (hr : r ∈ l) (hrs : r.sleeps = false) (hmin : ∀ x ∈ l, x.sleeps = false → r.used ≤ x.used) :
    FairL n out turns (updR l r.id fun x => { x with used := usedBy x 100 }) := by
  have key : ∀ y ∈ updR l r.id (fun x => { x with used := usedBy x 100 }), ∃ x ∈ l, y.id = x.id ∧ y.sleeps = x.sleeps ∧ y.till = x.till ∧ ((x = r ∧ y.used = usedBy r 100) ∨ (x ≠ r ∧ y.used = x.used)) := by
    intro y hy
    unfold updR at hy
    obtain ⟨x, hx, rfl⟩ := List.mem_map.1 hy
    refine ⟨x, hx, ?_⟩
    by_cases e : x.id = r.id
    · have := ids_eq hid hx hr e
      subst this
      simp
    · have : x ≠ r := fun q => e (by rw [q])
      simp [e, this]
  have hub := usedBy_le (hok r hr)
  refine ⟨(updR_id l _ _ (by intro r; rfl)).trans h.ids, fun y hy => ?_, fun y hy hs => ?_, fun y hy z hz hys hzs => ?_⟩
  · obtain ⟨x, hx, e1, e2, e3, _⟩ := key y hy
    rw [e1, e2]; exact h.slp x hx
  · obtain ⟨x, hx, e1, e2, e3, _⟩ := key y hy
    rw [e2] at hs; rw [e3]; exact h.tl x hx hs
  · obtain ⟨x, hx, e1, e2, e3, e4⟩ := key y hy
    obtain ⟨x', hx', f1, f2, f3, f4⟩ := key z hz
    rw [e2] at hys
    rw [f2] at hzs
    have q1 := h.near x hx x' hx' hys hzs
    have q2 := hmin x' hx' hzs
    have q3 := hmin x hx hys
    have q4 := h.near x hx r hr hys hrs
    rcases e4 with ⟨rfl, e4⟩ | ⟨_, e4⟩ <;> rcases f4 with ⟨rfl, f4⟩ | ⟨_, f4⟩ <;> omega

theorem FairL.early {n : Nat} {out turns now : Int} {l ws : List Rec} (h : FairL n out turns l) (hw : Woke now l ws) (hlt : now < turns) : ws = [] ∧ wokeBy now l = l := by
  have hno : ∀ r ∈ l, due now r = false := fun r hr => by
    by_cases hs : r.sleeps = true
    · have := h.tl r hr hs
      simp [due, hs]
      omega
    · simp [due, hs]
  refine ⟨?_, ?_⟩
  · cases hws : ws with
    | nil => rfl
    | cons r ws' =>
      obtain ⟨h1, h2⟩ := (hw.mem r).1 (by rw [hws]; simp)
      rw [hno r h1] at h2; cases h2
  · unfold wokeBy
    rw [List.map_congr_left (g := id) (fun r hr => by simp [hno r hr])]
    simp

theorem FairL.now {n : Nat} {out turns : Int} {l ws : List Rec} (h : FairL n out turns l) (hid : (l.map (·.id)).Nodup) (hw : Woke turns l ws) (ho : 0 ≤ out) (ho2 : out < n) : ws.map (·.id) = if 1 < n then [out] else [] := by
  by_cases hn : 1 < n
  · rw [if_pos hn]
    obtain ⟨r, hr, hri⟩ := ids_get h.ids (k := out.toNat) (by omega)
    have hri : r.id = out := by omega
    have hs := (h.slp r hr).2 ⟨hn, hri⟩
    have hrw : r ∈ ws := (hw.mem r).2 ⟨hr, by simp [due, hs, h.tl r hr hs]⟩
    have hall : ∀ x ∈ ws, x = r := fun x hx => by
      obtain ⟨h1, h2⟩ := (hw.mem x).1 hx
      have hxs : x.sleeps = true := by simp only [due, Bool.and_eq_true] at h2; exact h2.1
      exact ids_eq hid h1 hr (((h.slp x h1).1 hxs).2.trans hri.symm)
    cases hws : ws with
    | nil => rw [hws] at hrw; cases hrw
    | cons a ws' =>
      have ha := hall a (by rw [hws]; simp)
      cases ws' with
      | nil => simp [ha, hri]
      | cons b ws'' =>
        have hb := hall b (by rw [hws]; simp)
        have := hw.srt
        rw [hws, List.pairwise_cons] at this
        have := this.1 b (by simp)
        rw [ha, hb] at this
        unfold ltk at this
        omega
  · rw [if_neg hn]
    cases hws : ws with
    | nil => rfl
    | cons r ws' =>
      obtain ⟨h1, h2⟩ := (hw.mem r).1 (by rw [hws]; simp)
      have hxs : r.sleeps = true := by simp only [due, Bool.and_eq_true] at h2; exact h2.1
      exact absurd ((h.slp r h1).1 hxs).1 hn
/-- The spread, so far. -/
def Spread (l : List Rec) (least most : Int) : Prop := (least = -1 ∧ most = 0) ∨ ∃ r ∈ l, ∃ s ∈ l, r.sleeps = false ∧ s.sleeps = false ∧ least = r.used ∧ most = s.used
theorem FairL.spread {n : Nat} {out turns least most : Int} {l : List Rec} (h : FairL n out turns l) (hok : ∀ r ∈ l, Okr r) (hs : Spread l least most) : most - least ≤ 10000 ∧ -1 ≤ least ∧ least ≤ 1152921504606846976 ∧ 0 ≤ most ∧ most ≤ 1152921504606846976 := by
  rcases hs with ⟨rfl, rfl⟩ | ⟨r, hr, s, hs, h1, h2, rfl, rfl⟩
  · omega
  · have := h.near s hs r hr h2 h1
    have := hok r hr
    have h3 := this.u1
    have h4 := this.u2
    have := hok s hs
    have h5 := this.u1
    have h6 := this.u2
    omega
theorem Spread.step {l : List Rec} {least most : Int} {r : Rec} (h : Spread l least most) (hr : r ∈ l) (hs : r.sleeps = false) (hok : ∀ r ∈ l, Okr r) : Spread l (if least < 0 ∨ r.used < least then r.used else least) (max most r.used) := by
  have h0 := (hok r hr).u1
  rcases h with ⟨rfl, rfl⟩ | ⟨a, ha, b, hb, h1, h2, rfl, rfl⟩
  · rw [if_pos (.inl (by decide))]
    exact .inr ⟨r, hr, r, hr, hs, hs, rfl, by omega⟩
  · have := (hok a ha).u1
    by_cases hlt : a.used < 0 ∨ r.used < a.used
    · rw [if_pos hlt]
      rcases Int.le_total b.used r.used with h3 | h3
      · exact .inr ⟨r, hr, r, hr, hs, hs, rfl, by omega⟩
      · exact .inr ⟨r, hr, b, hb, hs, h2, rfl, by omega⟩
    · rw [if_neg hlt]
      rcases Int.le_total b.used r.used with h3 | h3
      · exact .inr ⟨a, ha, r, hr, h1, hs, rfl, by omega⟩
      · exact .inr ⟨a, ha, b, hb, h1, h2, rfl, by omega⟩
end Go.Proofs.YtjchfkpcglpgdaaDoor
