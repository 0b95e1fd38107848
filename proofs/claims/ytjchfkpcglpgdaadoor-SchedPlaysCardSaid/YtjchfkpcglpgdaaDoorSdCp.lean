/-
  SchedCopies' plain law; Sleep and Del whether or not there is such a one.
-/
import Derived.Test.YtjchfkpcglpgdaaDoorSdFp
set_option linter.unusedSimpArgs false
set_option linter.unusedVariables false
namespace Go.Proofs.YtjchfkpcglpgdaaDoor
open Go.RowKit Go.Hp

/-- Those with numbers below n, all ready. -/
structure AwakeL (n : Nat) (l : List Rec) : Prop where
  ids : l.map (·.id) = (List.range n).map Int.ofNat
  up : ∀ r ∈ l, r.sleeps = false
theorem FairA.awake {n : Nat} {l : List Rec} (h : FairA n l) : AwakeL n l := ⟨h.ids, fun r hr => (h.zero r hr).2⟩

def ranL (l : List Rec) (id : Int) : List Rec := updR l id fun x => { x with used := usedBy x 50 }
theorem AwakeL.ran {n : Nat} {l : List Rec} (h : AwakeL n l) (id : Int) : AwakeL n (ranL l id) := by
  refine ⟨(updR_id l _ _ (by intro r; rfl)).trans h.ids, fun r hr => ?_⟩
  unfold ranL updR at hr
  obtain ⟨x, hx, rfl⟩ := List.mem_map.1 hr
  split
  · exact h.up x hx
  · exact h.up x hx

/-- So many turns: who had them; the list then. -/
def turnsL (l : List Rec) : Nat → List Int × List Rec
  | 0 => ([], l)
  | i + 1 => match best (turnsL l i).2 with
    | none => turnsL l i
    | some r => ((turnsL l i).1 ++ [r.id], ranL (turnsL l i).2 r.id)
theorem turnsL_none {l : List Rec} {i : Nat} (h : best (turnsL l i).2 = none) : turnsL l (i + 1) = turnsL l i := by rw [turnsL, h]
theorem turnsL_some {l : List Rec} {i : Nat} {r : Rec} (h : best (turnsL l i).2 = some r) : turnsL l (i + 1) = ((turnsL l i).1 ++ [r.id], ranL (turnsL l i).2 r.id) := by rw [turnsL, h]
theorem turnsL_len (l : List Rec) : ∀ i, (turnsL l i).1.length ≤ i
  | 0 => by simp [turnsL]
  | i + 1 => by
    have := turnsL_len l i
    rw [turnsL]
    split
    · omega
    · simp; omega
theorem turnsL_awake {n : Nat} {l : List Rec} (h : AwakeL n l) : ∀ i, AwakeL n (turnsL l i).2
  | 0 => h
  | i + 1 => by
    have := turnsL_awake h i
    rw [turnsL]
    split
    · exact this
    · exact this.ran _

theorem AwakeL.ready {n : Nat} {l : List Rec} (h : AwakeL n l) : (readyIds l).length = n := by
  unfold readyIds
  rw [sorted_len, List.length_map, List.filter_eq_self.2 (fun r hr => by simp [h.up r hr])]
  have := congrArg List.length h.ids
  simpa using this

theorem count_two : ∀ n : Nat, ((((List.range n).map Int.ofNat).filter fun i => decide (i ≠ 0) && decide (i ≠ 1))).length = n - 2
  | 0 => rfl
  | n + 1 => by
    rw [List.range_succ, List.map_append, List.filter_append, List.length_append, count_two n]
    by_cases h0 : n = 0
    · subst h0; rfl
    · by_cases h1 : n = 1
      · subst h1; rfl
      · have : (List.filter (fun i => decide (i ≠ 0) && decide (i ≠ 1)) ([n].map Int.ofNat)) = [Int.ofNat n] := by
          simp
          omega
        rw [this]
        simp
        omega

/-- One asleep, one gone. -/
def lessTwo (l : List Rec) : List Rec := (updR l 0 fun x => { x with sleeps := true, till := 5 }).filter fun x => x.id ≠ 1
theorem AwakeL.two {n : Nat} {l : List Rec} (h : AwakeL n l) : (readyIds (lessTwo l)).length = n - 2 := by
  unfold readyIds
  rw [sorted_len, List.length_map]
  have e : ((lessTwo l).filter fun r => !r.sleeps).length = ((l.map (·.id)).filter fun i => decide (i ≠ 0) && decide (i ≠ 1)).length := by
    unfold lessTwo updR
    rw [List.filter_filter, List.filter_map, List.filter_map, List.length_map, List.length_map]
    congr 1
    refine List.filter_congr fun x hx => ?_
    have hu := h.up x hx
    simp only [Function.comp]
    by_cases h0 : x.id = 0
    · simp [h0]
    · simp [h0, hu]
  rw [e, h.ids, count_two]

section
variable {w0 w : World} {bs : Nat} {l : List Rec} {R : Thing}
theorem updR_none {l : List Rec} {id : Int} (f : Rec → Rec) (hn : ∀ r ∈ l, r.id ≠ id) : updR l id f = l := by
  unfold updR
  rw [List.map_congr_left (g := _root_.id) (fun x hx => by rw [if_neg (hn x hx)]; rfl)]
  simp
theorem ow_sleep_any (h : Hid (Owns w0 w ((sch bs l).sep R))) {ev : Value} (hg : w0.cell? ⟨2, 0, none⟩ = some ev) (id till : Int) (ht1 : -9223372036854775808 ≤ till) (ht2 : till < 9223372036854775808) :
    Calls Tryd.prog 16 #[.pointer (some ⟨bs, 0, none⟩), .int .i64 id, .int .i64 till] w fun e w' => (∃ x, e = .returned x) ∧ Hid (Owns w0 w' ((sch bs (updR l id fun x => { x with sleeps := true, till := till })).sep R)) := by
  by_cases hx : ∃ r ∈ l, r.id = id
  · obtain ⟨r, hr, hri⟩ := hx
    exact (ow_sleep h hr till ht1 ht2 hri).mono fun e w' q => ⟨⟨_, q.1⟩, q.2⟩
  · have hn : ∀ r ∈ l, r.id ≠ id := fun r hr e => hx ⟨r, hr, e⟩
    rw [updR_none _ hn]
    obtain ⟨B, h5, h6, h7⟩ := h.out.open_
    exact (sleep_no h5 hn (h.out.cell hg) till).mono fun e w' q => ⟨⟨_, q.1⟩, (ow_same h q).2⟩
theorem ow_del_any (h : Hid (Owns w0 w ((sch bs l).sep R))) {ev : Value} (hg : w0.cell? ⟨2, 0, none⟩ = some ev) (id : Int) :
    Calls Tryd.prog 14 #[.pointer (some ⟨bs, 0, none⟩), .int .i64 id] w fun e w' => (∃ x, e = .returned x) ∧ Hid (Owns w0 w' ((sch bs (l.filter fun x => x.id ≠ id)).sep R)) := by
  by_cases hx : ∃ r ∈ l, r.id = id
  · obtain ⟨r, hr, hri⟩ := hx
    exact (ow_del h hr hri).mono fun e w' q => ⟨⟨_, q.1⟩, q.2⟩
  · have hn : ∀ r ∈ l, r.id ≠ id := fun r hr e => hx ⟨r, hr, e⟩
    rw [List.filter_eq_self.2 (fun r hr => by simpa using hn r hr)]
    obtain ⟨B, h5, h6, h7⟩ := h.out.open_
    exact (del_no h5 hn (h.out.cell hg)).mono fun e w' q => ⟨⟨_, q.1⟩, (ow_same h q).2⟩
end
end Go.Proofs.YtjchfkpcglpgdaaDoor
