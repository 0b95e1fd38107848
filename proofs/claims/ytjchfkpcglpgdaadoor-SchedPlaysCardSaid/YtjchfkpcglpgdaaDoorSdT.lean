/-
  A scheduler beside other things: the contracts, for laws.
-/
import Derived.Test.YtjchfkpcglpgdaaDoorSdU
set_option linter.unusedSimpArgs false
set_option linter.unusedVariables false
namespace Go.Proofs.YtjchfkpcglpgdaaDoor
open Go.RowKit Go.Hp

/-- Whose turn it is. -/
def before (r s : Rec) : Bool := decide (r.used < s.used) || (decide (r.used = s.used) && decide (r.id < s.id))
def best : List Rec → Option Rec
  | [] => none
  | r :: l => if r.sleeps then best l else match best l with
    | none => some r
    | some s => if before s r then some s else some r
theorem best_none : ∀ {l : List Rec}, best l = none → ∀ r ∈ l, r.sleeps = true
  | [], _, r, hr => by cases hr
  | x :: l, h, r, hr => by
    unfold best at h
    split at h
    · rename_i hx
      rcases List.mem_cons.1 hr with rfl | hr
      · exact hx
      · exact best_none h r hr
    · split at h
      · cases h
      · split at h <;> cases h
theorem best_some : ∀ {l : List Rec} {r : Rec}, best l = some r → r ∈ l ∧ r.sleeps = false ∧ ∀ x ∈ l, x.sleeps = false → before x r = false
  | [], r, h => by cases h
  | y :: l, r, h => by
    unfold best at h
    split at h
    · rename_i hy
      obtain ⟨h1, h2, h3⟩ := best_some h
      refine ⟨by simp [h1], h2, fun x hx hxs => ?_⟩
      rcases List.mem_cons.1 hx with rfl | hx
      · rw [hy] at hxs; cases hxs
      · exact h3 x hx hxs
    · rename_i hy
      have hy : y.sleeps = false := by simpa using hy
      split at h
      · rename_i hb
        obtain rfl := Option.some.inj h
        refine ⟨by simp, hy, fun x hx hxs => ?_⟩
        rcases List.mem_cons.1 hx with rfl | hx
        · simp [before]
        · have := best_none hb x hx
          rw [hxs] at this; cases this
      · rename_i s hb
        obtain ⟨h1, h2, h3⟩ := best_some hb
        split at h
        · rename_i hlt
          obtain rfl := Option.some.inj h
          refine ⟨by simp [h1], h2, fun x hx hxs => ?_⟩
          rcases List.mem_cons.1 hx with rfl | hx
          · simp only [before, Bool.or_eq_true, Bool.and_eq_true, decide_eq_true_eq, Bool.or_eq_false_iff, Bool.and_eq_false_iff, decide_eq_false_iff_not] at *
            omega
          · exact h3 x hx hxs
        · rename_i hlt
          obtain rfl := Option.some.inj h
          refine ⟨by simp, hy, fun x hx hxs => ?_⟩
          rcases List.mem_cons.1 hx with rfl | hx
          · simp [before]
          · have := h3 x hx hxs
            simp only [before, Bool.or_eq_true, Bool.and_eq_true, decide_eq_true_eq, Bool.or_eq_false_iff, Bool.and_eq_false_iff, decide_eq_false_iff_not, not_or, not_and] at *
            omega
/-- What Pick answers. -/
def pickV (l : List Rec) : Value := match best l with
  | some r => .tuple #[.int .i64 r.id, .bool true]
  | none => .tuple #[.int .i64 0, .bool false]

theorem pick_any {w : World} {bs : Nat} {B : List Nat} {l : List Rec} (h : SchAt w bs B l) :
    Calls Tryd.prog 17 #[.pointer (some ⟨bs, 0, none⟩)] w (Same w (pickV l)) := by
  unfold pickV
  cases hb : best l with
  | none => exact pick_no h (best_none hb)
  | some r =>
    obtain ⟨h1, h2, h3⟩ := best_some hb
    refine pick_calls h h1 h2 fun x hx hxs => ?_
    have := h3 x hx hxs
    simp only [before, Bool.or_eq_false_iff, Bool.and_eq_false_iff, decide_eq_false_iff_not] at this
    by_cases e : x = r
    · exact .inl e
    · have : x.id ≠ r.id := fun q => e (ids_eq h.ids hx h1 q)
      exact .inr (by omega)

section
variable {w0 w : World} {bs : Nat} {l : List Rec} {R : Thing}
theorem ow_new (h : Hid (Owns w0 w R)) : Calls Tryd.prog 10 #[] w fun e w' => ∃ bs, e = .returned (.pointer (some ⟨bs, 0, none⟩)) ∧ Hid (Owns w0 w' ((sch bs []).sep R)) := by
  refine (new_calls w).mono ?_
  rintro e w' ⟨bs, B, rfl, h1, h2, h3⟩
  exact ⟨bs, rfl, h.out.add h3 h1 h2⟩
theorem ow_same {x : Value} {e : Ending} {w' : World} (h : Hid (Owns w0 w R)) (hs : Same w x e w') : e = .returned x ∧ Hid (Owns w0 w' R) := ⟨hs.1, h.out.ext hs.only⟩
theorem ow_add (h : Hid (Owns w0 w ((sch bs l).sep R))) (id we : Int) (h1 : 0 ≤ id) (h2 : id < 8) (h3 : 1 ≤ we) (h4 : we ≤ 100) (hn : ∀ r ∈ l, r.id ≠ id) :
    Calls Tryd.prog 11 #[.pointer (some ⟨bs, 0, none⟩), .int .i64 id, .int .i64 we] w fun e w' => e = .returned .nilIface ∧ ∃ u, Hid (Least u l) ∧ Hid (Owns w0 w' ((sch bs (l ++ [⟨id, we, u, false, 0⟩])).sep R)) := by
  obtain ⟨B, h5, h6, h7⟩ := h.out.open_
  refine (add_calls h5 id we h1 h2 h3 h4 hn).mono ?_
  rintro e w' ⟨rfl, u, hu, hg⟩
  exact ⟨rfl, u, hu, h7 _ _ (goes_leaves hg)⟩
theorem ow_ran {r : Rec} (h : Hid (Owns w0 w ((sch bs l).sep R))) (hr : r ∈ l) (steps : Int) (hs1 : 0 ≤ steps) (hs2 : steps ≤ 1073741824) {id : Int} (hid : r.id = id) :
    Calls Tryd.prog 12 #[.pointer (some ⟨bs, 0, none⟩), .int .i64 id, .int .i64 steps] w fun e w' => e = .returned .nilIface ∧ Hid (Owns w0 w' ((sch bs (updR l id fun x => { x with used := usedBy x steps })).sep R)) := by
  subst hid
  obtain ⟨B, h5, h6, h7⟩ := h.out.open_
  refine (ran_calls h5 hr steps hs1 hs2).mono ?_
  rintro e w' ⟨rfl, hg⟩
  exact ⟨rfl, h7 _ _ (goes_leaves hg)⟩
theorem ow_sleep {r : Rec} (h : Hid (Owns w0 w ((sch bs l).sep R))) (hr : r ∈ l) (till : Int) (ht1 : -9223372036854775808 ≤ till) (ht2 : till < 9223372036854775808) {id : Int} (hid : r.id = id) :
    Calls Tryd.prog 16 #[.pointer (some ⟨bs, 0, none⟩), .int .i64 id, .int .i64 till] w fun e w' => e = .returned .nilIface ∧ Hid (Owns w0 w' ((sch bs (updR l id fun x => { x with sleeps := true, till := till })).sep R)) := by
  subst hid
  obtain ⟨B, h5, h6, h7⟩ := h.out.open_
  refine (sleep_calls h5 hr till ht1 ht2).mono ?_
  rintro e w' ⟨rfl, hg⟩
  exact ⟨rfl, h7 _ _ (goes_leaves hg)⟩
theorem ow_del {r : Rec} (h : Hid (Owns w0 w ((sch bs l).sep R))) (hr : r ∈ l) {id : Int} (hid : r.id = id) :
    Calls Tryd.prog 14 #[.pointer (some ⟨bs, 0, none⟩), .int .i64 id] w fun e w' => e = .returned .nilIface ∧ Hid (Owns w0 w' ((sch bs (l.filter fun x => x.id ≠ id)).sep R)) := by
  subst hid
  obtain ⟨B, h5, h6, h7⟩ := h.out.open_
  refine (del_calls h5 hr).mono ?_
  rintro e w' ⟨rfl, hg⟩
  exact ⟨rfl, h7 _ _ (goes_leaves hg)⟩
theorem ow_used {r : Rec} (h : Hid (Owns w0 w ((sch bs l).sep R))) (hr : r ∈ l) {id u : Int} (hid : r.id = id) (hu : r.used = u) :
    Calls Tryd.prog 13 #[.pointer (some ⟨bs, 0, none⟩), .int .i64 id] w fun e w' => e = .returned (.tuple #[.int .i64 u, .bool true]) ∧ Hid (Owns w0 w' ((sch bs l).sep R)) := by
  subst hid hu
  obtain ⟨B, h5, h6, h7⟩ := h.out.open_
  exact (used_calls h5 hr).mono fun _ _ hs => ow_same h hs
theorem ow_used_no (h : Hid (Owns w0 w ((sch bs l).sep R))) {id : Int} (hn : ∀ r ∈ l, r.id ≠ id) :
    Calls Tryd.prog 13 #[.pointer (some ⟨bs, 0, none⟩), .int .i64 id] w fun e w' => e = .returned (.tuple #[.int .i64 0, .bool false]) ∧ Hid (Owns w0 w' ((sch bs l).sep R)) := by
  obtain ⟨B, h5, h6, h7⟩ := h.out.open_
  exact (used_no h5 hn).mono fun _ _ hs => ow_same h hs
theorem ow_pick (h : Hid (Owns w0 w ((sch bs l).sep R))) :
    Calls Tryd.prog 17 #[.pointer (some ⟨bs, 0, none⟩)] w fun e w' => e = .returned (pickV l) ∧ Hid (Owns w0 w' ((sch bs l).sep R)) := by
  obtain ⟨B, h5, h6, h7⟩ := h.out.open_
  exact (pick_any h5).mono fun _ _ hs => ow_same h hs
theorem ow_pick_some {r : Rec} (h : Hid (Owns w0 w ((sch bs l).sep R))) (hb : best l = some r) {id : Int} (hid : r.id = id) :
    Calls Tryd.prog 17 #[.pointer (some ⟨bs, 0, none⟩)] w fun e w' => e = .returned (.tuple #[.int .i64 id, .bool true]) ∧ Hid (Owns w0 w' ((sch bs l).sep R)) := by
  subst hid
  refine (ow_pick h).mono ?_
  rintro e w' ⟨rfl, h'⟩
  exact ⟨by unfold pickV; rw [hb], h'⟩
theorem ow_pick_none (h : Hid (Owns w0 w ((sch bs l).sep R))) (hb : best l = none) :
    Calls Tryd.prog 17 #[.pointer (some ⟨bs, 0, none⟩)] w fun e w' => e = .returned (.tuple #[.int .i64 0, .bool false]) ∧ Hid (Owns w0 w' ((sch bs l).sep R)) := by
  refine (ow_pick h).mono ?_
  rintro e w' ⟨rfl, h'⟩
  exact ⟨by unfold pickV; rw [hb], h'⟩
theorem ow_wake (h : Hid (Owns w0 w ((sch bs l).sep R))) (now : Int) :
    Calls Tryd.prog 18 #[.pointer (some ⟨bs, 0, none⟩), .int .i64 now] w fun e w' => ∃ v ws, e = .returned v ∧ Hid (Woke now l ws) ∧ Hid (Owns w0 w' ((ints v (ws.map (·.id))).sep ((sch bs (wokeBy now l)).sep R))) := by
  obtain ⟨B, h5, h6, h7⟩ := h.out.open_
  refine (wake_calls h5 now).mono ?_
  rintro e w' ⟨v, ws, rfl, hw, hg⟩
  refine ⟨v, ws, rfl, hw, ?_⟩
  obtain ⟨_, ⟨_, B', ⟨B1, B2, q1, q2, q3, rfl⟩, q4, q5, rfl⟩, h9, h10⟩ := h7 _ _ hg
  exact ⟨B1 ++ (B2 ++ B'), ⟨B1, _, q1, ⟨B2, B', q2, q4, fun b hb hc => q5 b (by simp [hb]) hc, rfl⟩, fun b hb hc => by
    rcases List.mem_append.1 hc with hc | hc
    · exact q3 b hb hc
    · exact q5 b (by simp [hb]) hc, rfl⟩, fun b hb => h9 b (by simpa using hb), h10⟩
theorem ow_ready (h : Hid (Owns w0 w ((sch bs l).sep R))) :
    Calls Tryd.prog 20 #[.pointer (some ⟨bs, 0, none⟩)] w fun e w' => ∃ v, e = .returned v ∧ Hid (Owns w0 w' ((ints v (readyIds l)).sep ((sch bs l).sep R))) := by
  obtain ⟨B, h5, h6, h7⟩ := h.out.open_
  refine (ready_calls h5).mono ?_
  rintro e w' ⟨v, B', rfl, q1, q2, q3⟩
  exact ⟨v, rfl, h.out.add q3 q1 q2⟩
theorem ow_clone (h : Hid (Owns w0 w ((sch bs l).sep R))) :
    Calls Tryd.prog 21 #[.pointer (some ⟨bs, 0, none⟩)] w fun e w' => ∃ bs', e = .returned (.pointer (some ⟨bs', 0, none⟩)) ∧ Hid (Owns w0 w' ((sch bs' l).sep ((sch bs l).sep R))) := by
  obtain ⟨B, h5, h6, h7⟩ := h.out.open_
  refine (clone_calls h5).mono ?_
  rintro e w' ⟨bs', B', rfl, q1, q2, q3⟩
  exact ⟨bs', rfl, h.out.add q3 q1 q2⟩
theorem ow_sameInts {v1 v2 : Value} {l1 l2 : List Int} (h : Hid (Owns w0 w R)) (h1 : IntsAt w v1 l1) (h2 : IntsAt w v2 l2) (hl1 : l1.length < 9223372036854775807) (hl2 : l2.length < 9223372036854775807) :
    Calls Tryd.prog 19 #[v1, v2] w fun e w' => e = .returned (.bool (decide (l1 = l2))) ∧ Hid (Owns w0 w' R) :=
  (sameInts_calls h1 h2 hl1 hl2).mono fun _ _ hs => ow_same h hs
theorem ow_ints {v : Value} {l : List Int} (h : Owns w0 w ((ints v l).sep R)) : IntsAt w v l := by
  obtain ⟨B, h5, _⟩ := h.open_
  exact intsT_at h5
/-- A slice of integers of the law's own, behind an append of one. -/
theorem ow_row {v : Value} {l : List Int} (h : Owns w0 w ((ints v l).sep R)) : ∃ arr tail, Row w 3 1 v l.length (l.map (Value.int .i64)) arr tail ∧
    ∀ (o : Obj) (w4 : World) (g' cap' : Nat) (x : Int) (tail' : List Value), Row w4 3 1 (.slice (some ⟨g', 0, none⟩) (l.length + 1) cap') (l.length + 1) (l.map (Value.int .i64) ++ [.int .i64 x]) (some g') tail' →
      (arr = some g' ∨ g' = (w.alloc o).heap.size) → Only (fun b => arr = some b) (w.alloc o) w4 → Owns w0 w4 ((ints (.slice (some ⟨g', 0, none⟩) (l.length + 1) cap') (l ++ [x])).sep R) := by
  obtain ⟨B, ⟨arr, tail, h1, rfl⟩, h2, h3⟩ := h.open_
  refine ⟨arr, tail, h1, fun o w4 g' cap' x tail' hr hg ho => h3 _ _ ⟨⟨[g'], ⟨some g', tail', by simpa using hr, rfl⟩, fun b hb => ?_⟩, ?_⟩⟩
  · simp only [List.mem_cons, List.not_mem_nil, or_false] at hb
    subst hb
    rcases hg with h | h
    · exact .inl (by simp [h])
    · exact .inr (by rw [h]; simp)
  · exact ((Only.refl _ w).alloc o).trans ho (fun b _ hb => by simp [show arr = some b from hb])
theorem ow_del_no {ads : List Addr} (h : Hid (Owns w0 w ((sch bs l).sep R))) {id : Int} (hn : ∀ r ∈ l, r.id ≠ id) (hs : Sents w0 ads) :
    Calls Tryd.prog 14 #[.pointer (some ⟨bs, 0, none⟩), .int .i64 id] w fun e w' => ∃ x, e = .returned x ∧ Hid (Coded ads x 107) ∧ Hid (Owns w0 w' ((sch bs l).sep R)) := by
  obtain ⟨B, h5, h6, h7⟩ := h.out.open_
  obtain ⟨a, ha⟩ : ∃ a, ads[6]? = some a := ⟨_, List.getElem?_eq_getElem (by have := hs.len; simp [sentG] at this; omega)⟩
  exact (del_no h5 hn (h.out.cell (hs.cell 6 2 a rfl ha))).mono fun e w' q => ⟨_, q.1, .err ha, (ow_same h q).2⟩
theorem ow_is {ads : List Addr} {x : Value} {c n : Int} (h : Hid (Owns w0 w R)) (hs : Sents w0 ads) (hx : Hid (Coded ads x c)) :
    Calls Tryd.prog 15 #[x, .int .i64 n] w fun e w' => e = .returned (.bool (c == n)) ∧ Hid (Owns w0 w' R) :=
  (is_calls (hs.ext h.out.start) hx.out).mono fun e w' q => ⟨q.1, h.out.ext q.2⟩
theorem ow_ids (h : Owns w0 w ((sch bs l).sep R)) : (l.map (·.id)).Nodup := by
  obtain ⟨B, h5, _⟩ := h.open_
  have h5 : SchAt w bs B l := h5
  exact h5.ids
theorem ow_ok (h : Owns w0 w ((sch bs l).sep R)) : ∀ r ∈ l, Okr r := by
  obtain ⟨B, h5, _⟩ := h.open_
  have h5 : SchAt w bs B l := h5
  exact h5.ok
theorem ow_perm {l' : List Rec} (h : Owns w0 w ((sch bs l).sep R)) (hp : l.Perm l') : Owns w0 w ((sch bs l').sep R) := by
  obtain ⟨B, ⟨B1, B2, q1, q2⟩, h9⟩ := h
  exact ⟨B, ⟨B1, B2, SchAt.perm q1 hp, q2⟩, h9⟩
end

theorem ow_ints_len {w0 w : World} {R : Thing} {v : Value} {l : List Int} {n : Nat} (h : Owns w0 w ((ints v l).sep R)) (hn : l.length = n) : ∃ ao cap, v = .slice ao n cap := by
  subst hn
  exact (ow_ints h).len
theorem sameInts_true {w : World} {v1 v2 : Value} {l : List Int} (h1 : IntsAt w v1 l) (h2 : IntsAt w v2 l) (hl1 : l.length < 9223372036854775807) :
    Calls Tryd.prog 19 #[v1, v2] w (Same w (.bool true)) := by
  have := sameInts_calls h1 h2 hl1 hl1
  simpa using this

theorem ints_one (w : World) (x : Int) (t : TypeId) : IntsAt (w.alloc (.cells #[.int .i64 x] t)) (.slice (some ⟨w.heap.size, 0, none⟩) 1 1) [x] :=
  ⟨_, 1, rfl, .inr ⟨_, 0, rfl, fun i y hi => by
    cases i with
    | zero => simp at hi; subst hi; exact (Blk.new w #[.int .i64 x] t).cell_some rfl
    | succ i => simp at hi⟩⟩

end Go.Proofs.YtjchfkpcglpgdaaDoor
