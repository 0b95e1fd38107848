/-
  Both schedulers, call by call: what is answered and what is left, in the same words.
-/
import Derived.Test.YtjchfkpcglpgdaaDoorSdCp
import Derived.Test.YtjchfkpcglpgdaaDoorSdDw
set_option linter.unusedSimpArgs false
set_option linter.unusedVariables false
namespace Go.Proofs.YtjchfkpcglpgdaaDoor
open Go.RowKit Go.Hp

def okAdd (id we : Int) : Prop := 0 ≤ id ∧ id < 8 ∧ 1 ≤ we ∧ we ≤ 100
inductive AddR (l : List Rec) (id we : Int) : Int → List Rec → Prop
  | bad : ¬ okAdd id we → AddR l id we 103 l
  | twice : okAdd id we → (∃ r ∈ l, r.id = id) → AddR l id we 106 l
  | new {u : Int} : okAdd id we → (∀ r ∈ l, r.id ≠ id) → Least u l → AddR l id we 0 (l ++ [⟨id, we, u, false, 0⟩])
inductive RanR (l : List Rec) (id steps : Int) : Int → List Rec → Prop
  | none : (∀ r ∈ l, r.id ≠ id) → RanR l id steps 107 l
  | bad : (∃ r ∈ l, r.id = id) → (steps < 0 ∨ 1073741824 < steps) → RanR l id steps 103 l
  | ran : (∃ r ∈ l, r.id = id) → ¬ (steps < 0 ∨ 1073741824 < steps) → RanR l id steps 0 (updR l id fun x => { x with used := usedBy x steps })
inductive SleepR (l : List Rec) (id till : Int) : Int → List Rec → Prop
  | none : (∀ r ∈ l, r.id ≠ id) → SleepR l id till 107 l
  | slept : (∃ r ∈ l, r.id = id) → SleepR l id till 0 (updR l id fun x => { x with sleeps := true, till := till })
inductive DelR (l : List Rec) (id : Int) : Int → List Rec → Prop
  | none : (∀ r ∈ l, r.id ≠ id) → DelR l id 107 l
  | gone : (∃ r ∈ l, r.id = id) → DelR l id 0 (l.filter fun x => x.id ≠ id)

section
variable {w0 w : World} {bs : Nat} {l : List Rec} {R : Thing} {ads : List Addr}

theorem in_or (l : List Rec) (id : Int) : (∃ r ∈ l, r.id = id) ∨ ∀ r ∈ l, r.id ≠ id := by
  by_cases h : ∃ r ∈ l, r.id = id
  · exact .inl h
  · exact .inr fun r hr e => h ⟨r, hr, e⟩

theorem err_at (h : Hid (Owns w0 w ((sch bs l).sep R))) (hs : Sents w0 ads) {k g : Nat} (hk : sentG[k]? = some g) : ∃ a, ads[k]? = some a ∧ w.cell? ⟨g, 0, none⟩ = some (.iface 119 (.pointer (some a))) := by
  have hlt : k < ads.length := by
    have := hs.len
    have := (List.getElem?_eq_some_iff.1 hk).1
    omega
  exact ⟨_, List.getElem?_eq_getElem hlt, h.out.cell (hs.cell k g _ hk (List.getElem?_eq_getElem hlt))⟩

theorem oi_add (h : Hid (Owns w0 w ((sch bs l).sep R))) (hs : Sents w0 ads) (id we : Int) :
    Calls Tryd.prog 11 #[.pointer (some ⟨bs, 0, none⟩), .int .i64 id, .int .i64 we] w fun e w' => ∃ x c l', e = .returned x ∧ Hid (Coded ads x c) ∧ Hid (AddR l id we c l') ∧ Hid (Owns w0 w' ((sch bs l').sep R)) := by
  by_cases hok : okAdd id we
  · rcases in_or l id with hx | hx
    · obtain ⟨r, hr, hri⟩ := hx
      obtain ⟨a, ha, hc⟩ := err_at h hs (k := 5) (g := 1) rfl
      obtain ⟨B, h5, h6, h7⟩ := h.out.open_
      subst hri
      exact (add_twice h5 hr we hok.2.2.1 hok.2.2.2 hc).mono fun e w' q => ⟨_, _, _, q.1, .err ha, .twice hok ⟨r, hr, rfl⟩, (ow_same h q).2⟩
    · refine (ow_add h id we hok.1 hok.2.1 hok.2.2.1 hok.2.2.2 hx).mono ?_
      rintro e w' ⟨rfl, u, hu, hO⟩
      exact ⟨_, _, _, rfl, .fine, .new hok hx hu.out, hO⟩
  · obtain ⟨a, ha, hc⟩ := err_at h hs (k := 2) (g := 0) rfl
    exact (add_bad bs id we hok hc).mono fun e w' q => ⟨_, _, _, q.1, .err ha, .bad hok, (ow_same h q).2⟩
theorem oi_ran (h : Hid (Owns w0 w ((sch bs l).sep R))) (hs : Sents w0 ads) (id steps : Int) :
    Calls Tryd.prog 12 #[.pointer (some ⟨bs, 0, none⟩), .int .i64 id, .int .i64 steps] w fun e w' => ∃ x c l', e = .returned x ∧ Hid (Coded ads x c) ∧ Hid (RanR l id steps c l') ∧ Hid (Owns w0 w' ((sch bs l').sep R)) := by
  rcases in_or l id with hx | hx
  · obtain ⟨r, hr, hri⟩ := _root_.id hx
    by_cases hb : steps < 0 ∨ 1073741824 < steps
    · obtain ⟨a, ha, hc⟩ := err_at h hs (k := 2) (g := 0) rfl
      obtain ⟨B, h5, h6, h7⟩ := h.out.open_
      subst hri
      exact (ran_bad h5 hr hc hb).mono fun e w' q => ⟨_, _, _, q.1, .err ha, .bad hx hb, (ow_same h q).2⟩
    · exact (ow_ran h hr steps (by omega) (by omega) hri).mono fun e w' q => ⟨_, _, _, q.1, .fine, .ran hx hb, q.2⟩
  · obtain ⟨a, ha, hc⟩ := err_at h hs (k := 6) (g := 2) rfl
    obtain ⟨B, h5, h6, h7⟩ := h.out.open_
    exact (ran_no h5 hx hc steps).mono fun e w' q => ⟨_, _, _, q.1, .err ha, .none hx, (ow_same h q).2⟩
theorem oi_sleep (h : Hid (Owns w0 w ((sch bs l).sep R))) (hs : Sents w0 ads) (id till : Int) (ht1 : -9223372036854775808 ≤ till) (ht2 : till < 9223372036854775808) :
    Calls Tryd.prog 16 #[.pointer (some ⟨bs, 0, none⟩), .int .i64 id, .int .i64 till] w fun e w' => ∃ x c l', e = .returned x ∧ Hid (Coded ads x c) ∧ Hid (SleepR l id till c l') ∧ Hid (Owns w0 w' ((sch bs l').sep R)) := by
  rcases in_or l id with hx | hx
  · obtain ⟨r, hr, hri⟩ := _root_.id hx
    exact (ow_sleep h hr till ht1 ht2 hri).mono fun e w' q => ⟨_, _, _, q.1, .fine, .slept hx, q.2⟩
  · obtain ⟨a, ha, hc⟩ := err_at h hs (k := 6) (g := 2) rfl
    obtain ⟨B, h5, h6, h7⟩ := h.out.open_
    exact (sleep_no h5 hx hc till).mono fun e w' q => ⟨_, _, _, q.1, .err ha, .none hx, (ow_same h q).2⟩
theorem oi_del (h : Hid (Owns w0 w ((sch bs l).sep R))) (hs : Sents w0 ads) (id : Int) :
    Calls Tryd.prog 14 #[.pointer (some ⟨bs, 0, none⟩), .int .i64 id] w fun e w' => ∃ x c l', e = .returned x ∧ Hid (Coded ads x c) ∧ Hid (DelR l id c l') ∧ Hid (Owns w0 w' ((sch bs l').sep R)) := by
  rcases in_or l id with hx | hx
  · obtain ⟨r, hr, hri⟩ := _root_.id hx
    exact (ow_del h hr hri).mono fun e w' q => ⟨_, _, _, q.1, .fine, .gone hx, q.2⟩
  · obtain ⟨a, ha, hc⟩ := err_at h hs (k := 6) (g := 2) rfl
    obtain ⟨B, h5, h6, h7⟩ := h.out.open_
    exact (del_no h5 hx hc).mono fun e w' q => ⟨_, _, _, q.1, .err ha, .none hx, (ow_same h q).2⟩
/-- What Used answers. -/
inductive UsedR (l : List Rec) (id : Int) : Int → Bool → Prop
  | none : (∀ r ∈ l, r.id ≠ id) → UsedR l id 0 false
  | some {r : Rec} : r ∈ l → r.id = id → UsedR l id r.used true
theorem oi_used (h : Hid (Owns w0 w ((sch bs l).sep R))) (id : Int) :
    Calls Tryd.prog 13 #[.pointer (some ⟨bs, 0, none⟩), .int .i64 id] w fun e w' => ∃ u b, e = .returned (.tuple #[.int .i64 u, .bool b]) ∧ Hid (UsedR l id u b) ∧ Hid (Owns w0 w' ((sch bs l).sep R)) := by
  rcases in_or l id with hx | hx
  · obtain ⟨r, hr, hri⟩ := hx
    exact (ow_used h hr hri rfl).mono fun e w' q => ⟨_, _, q.1, .some hr hri, q.2⟩
  · exact (ow_used_no h hx).mono fun e w' q => ⟨_, _, q.1, .none hx, q.2⟩
end

/-- What the document's scheduler holds. -/
structure Doc (x : List Rec) : Prop where
  len : x.length ≤ 8
  ids : (x.map (·.id)).Nodup
  ok : ∀ r ∈ x, 1 ≤ r.weight ∧ r.weight ≤ 100 ∧ 0 ≤ r.used ∧ r.used ≤ 1152921504606846976
theorem findI_in {x : List Rec} {id : Int} {k : Nat} (h : findI x id = some k) : ∃ r ∈ x, r.id = id := by
  obtain ⟨r, h1, h2⟩ := findI_some h
  exact ⟨r, List.mem_of_getElem? h1, h2⟩

section
variable {w0 w : World} {b : Nat} {x : List Rec} {R : Thing}
theorem od_same {e' : Ending} {e : Ending} {w' : World} (h : Hid (Owns w0 w ((docS b x).sep R))) (hs : e = e' ∧ w = w') : e = e' ∧ Hid (Owns w0 w' ((docS b x).sep R)) := by
  obtain ⟨rfl, rfl⟩ := hs
  exact ⟨rfl, h⟩
theorem od_add (h : Hid (Owns w0 w ((docS b x).sep R))) (hd : Hid (Doc x)) (id we : Int) :
    Calls Tryd.prog 22 #[.pointer (some ⟨b, 0, none⟩), .int .i64 id, .int .i64 we] w fun e w' => ∃ c x', e = .returned (.int .i64 c) ∧ Hid (AddR x id we c x') ∧ Hid (Owns w0 w' ((docS b x').sep R)) := by
  obtain ⟨B, h5, h6, h7⟩ := h.out.open_
  by_cases hok : okAdd id we
  · have hok' := hok
    obtain ⟨h1, h2, h3, h4⟩ := hok'
    cases hf : findI x id with
    | some k => exact (dadd_twice h5 hd.out.len hf h1 h2 h3 h4).mono fun e w' q => ⟨_, _, q.1, .twice hok (findI_in hf), (od_same h q).2⟩
    | none =>
      refine (dadd_new h5 hd.out.len hf h1 h2 h3 h4).mono ?_
      rintro e w' ⟨rfl, u, hu, hg⟩
      exact ⟨_, _, rfl, .new hok (findI_none hf) hu, h7 _ _ hg⟩
  · refine (dadd_bad b id we w ?_).mono fun e w' q => ⟨_, _, q.1, .bad hok, (od_same h q).2⟩
    unfold okAdd at hok
    omega
theorem od_ran (h : Hid (Owns w0 w ((docS b x).sep R))) (hd : Hid (Doc x)) (id steps : Int) :
    Calls Tryd.prog 24 #[.pointer (some ⟨b, 0, none⟩), .int .i64 id, .int .i64 steps] w fun e w' => ∃ c x', e = .returned (.int .i64 c) ∧ Hid (RanR x id steps c x') ∧ Hid (Owns w0 w' ((docS b x').sep R)) := by
  obtain ⟨B, h5, h6, h7⟩ := h.out.open_
  cases hf : findI x id with
  | none => exact (dran_none h5 hd.out.len steps hf).mono fun e w' q => ⟨_, _, q.1, .none (findI_none hf), (od_same h q).2⟩
  | some k =>
    by_cases hb : steps < 0 ∨ 1073741824 < steps
    · exact (dran_bad h5 hd.out.len hf hb).mono fun e w' q => ⟨_, _, q.1, .bad (findI_in hf) hb, (od_same h q).2⟩
    · refine (dran_some h5 hd.out.len hd.out.ids hf hd.out.ok (by omega) (by omega)).mono ?_
      rintro e w' ⟨rfl, hg⟩
      exact ⟨_, _, rfl, .ran (findI_in hf) hb, h7 _ _ hg⟩
theorem od_sleep (h : Hid (Owns w0 w ((docS b x).sep R))) (hd : Hid (Doc x)) (id till : Int) :
    Calls Tryd.prog 25 #[.pointer (some ⟨b, 0, none⟩), .int .i64 id, .int .i64 till] w fun e w' => ∃ c x', e = .returned (.int .i64 c) ∧ Hid (SleepR x id till c x') ∧ Hid (Owns w0 w' ((docS b x').sep R)) := by
  obtain ⟨B, h5, h6, h7⟩ := h.out.open_
  cases hf : findI x id with
  | none => exact (dsleep_none h5 hd.out.len till hf).mono fun e w' q => ⟨_, _, q.1, .none (findI_none hf), (od_same h q).2⟩
  | some k =>
    refine (dsleep_some h5 hd.out.len hd.out.ids till hf).mono ?_
    rintro e w' ⟨rfl, hg⟩
    exact ⟨_, _, rfl, .slept (findI_in hf), h7 _ _ hg⟩
theorem od_del (h : Hid (Owns w0 w ((docS b x).sep R))) (hd : Hid (Doc x)) (id : Int) :
    Calls Tryd.prog 23 #[.pointer (some ⟨b, 0, none⟩), .int .i64 id] w fun e w' => ∃ c x', e = .returned (.int .i64 c) ∧ Hid (DelR x id c x') ∧ Hid (Owns w0 w' ((docS b x').sep R)) := by
  obtain ⟨B, h5, h6, h7⟩ := h.out.open_
  cases hf : findI x id with
  | none => exact (ddel_none h5 hd.out.len hf).mono fun e w' q => ⟨_, _, q.1, .none (findI_none hf), (od_same h q).2⟩
  | some k =>
    refine (ddel_some h5 hd.out.len hd.out.ids hf).mono ?_
    rintro e w' ⟨rfl, hg⟩
    exact ⟨_, _, rfl, .gone (findI_in hf), h7 _ _ hg⟩
theorem od_wake (h : Hid (Owns w0 w ((docS b x).sep R))) (hd : Hid (Doc x)) (now : Int) :
    Calls Tryd.prog 26 #[.pointer (some ⟨b, 0, none⟩), .int .i64 now] w fun e w' => ∃ v ws, e = .returned v ∧ Hid (Woke now x ws) ∧ Hid (Owns w0 w' ((ints v (ws.map (·.id))).sep ((docS b (wokenBy now x)).sep R))) := by
  obtain ⟨B, h5, h6, h7⟩ := h.out.open_
  refine (dwake_calls h5 hd.out.len hd.out.ids now).mono ?_
  rintro e w' ⟨v, ws, rfl, hw, hg⟩
  refine ⟨v, ws, rfl, hw, ?_⟩
  obtain ⟨_, ⟨_, B', ⟨B1, B2, q1, q2, q3, rfl⟩, q4, q5, rfl⟩, h9, h10⟩ := h7 _ _ hg
  exact ⟨B1 ++ (B2 ++ B'), ⟨B1, _, q1, ⟨B2, B', q2, q4, fun b hb hc => q5 b (by simp [hb]) hc, rfl⟩, fun b hb hc => by
    rcases List.mem_append.1 hc with hc | hc
    · exact q3 b hb hc
    · exact q5 b (by simp [hb]) hc, rfl⟩, fun b hb => h9 b (by simpa using hb), h10⟩
theorem od_ready (h : Hid (Owns w0 w ((docS b x).sep R))) (hd : Hid (Doc x)) :
    Calls Tryd.prog 28 #[.pointer (some ⟨b, 0, none⟩)] w fun e w' => ∃ v, e = .returned v ∧ Hid (Owns w0 w' ((ints v (readyIds x)).sep ((docS b x).sep R))) := by
  obtain ⟨B, h5, h6, h7⟩ := h.out.open_
  refine (dready_calls h5 hd.out.len hd.out.ids).mono ?_
  rintro e w' ⟨v, B', rfl, q1, q2, q3⟩
  exact ⟨v, rfl, h.out.add q3 q1 q2⟩
theorem od_pick (h : Hid (Owns w0 w ((docS b x).sep R))) (hd : Hid (Doc x)) :
    Calls Tryd.prog 27 #[.pointer (some ⟨b, 0, none⟩)] w fun e w' => e = .returned (.int .i64 (bestId x)) ∧ Hid (Owns w0 w' ((docS b x).sep R)) := by
  obtain ⟨B, h5, h6, h7⟩ := h.out.open_
  refine (dpick_calls h5 hd.out.len hd.out.ids).mono ?_
  rintro e w' ⟨rfl, hx⟩
  exact ⟨rfl, h.out.ext hx⟩
end
end Go.Proofs.YtjchfkpcglpgdaaDoor
