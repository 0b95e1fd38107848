/-
  Helpers over any program: maps keyed by ints, whatever their elements of one cell; ranging over one.
-/
import Derived.Test.YtjchfkpcglpgdaaDoorHp
set_option linter.unusedSimpArgs false
set_option linter.unusedVariables false
namespace Go.Hp

/-- An entry. -/
structure Ent where
  id : Int
  v : Value
  born : Nat

def Ent.entry (e : Ent) : MapEntry := { key := .int .i64 e.id, val := e.v, born := e.born }

def MapAt (w : World) (b : Nat) (es : List Ent) (clock : Nat) : Prop := w.heap[b]? = some (.map (es.map Ent.entry).toArray clock)

theorem MapAt.lt {w : World} {b clock : Nat} {es : List Ent} (h : MapAt w b es clock) : b < w.heap.size := by
  unfold MapAt at h; exact (Array.getElem?_eq_some_iff.1 h).1
theorem Only.map {F : Nat → Prop} {w w1 : World} (h : Only F w w1) {b clock : Nat} {es : List Ent} (hb : MapAt w b es clock) (hn : ¬ F b) : MapAt w1 b es clock := by
  unfold MapAt at *
  rw [h.block b (Array.getElem?_eq_some_iff.1 hb).1 hn, hb]

/-- The world with another object in a block that is no row of cells. -/
def setObjW (w : World) (b : Nat) (o : Obj) : World := { w with heap := w.heap.setIfInBounds b o }

theorem setObjW_same {w : World} {b : Nat} (h : b < w.heap.size) (o : Obj) : (setObjW w b o).heap[b]? = some o := by
  simp [setObjW, h]
theorem Only.setObj {F : Nat → Prop} {w w1 : World} (h : Only F w w1) {b : Nat} (o : Obj) (hb : b < w.heap.size → F b) : Only F w (setObjW w1 b o) :=
  ⟨h.os, h.tape, h.output, by have := h.size; simp [setObjW]; omega, fun k hk hn => by
    have hne : b ≠ k := fun e => hn (e ▸ hb (e ▸ hk))
    have : (setObjW w1 b o).heap[k]? = w1.heap[k]? := by simp [setObjW, Array.getElem?_setIfInBounds_ne hne]
    rw [this]
    exact h.block k hk hn⟩

def look (es : List Ent) (id : Int) : Option Ent := es.find? fun e => e.id == id

theorem look_none {es : List Ent} {id : Int} : look es id = none ↔ ∀ e ∈ es, e.id ≠ id := by simp [look]
theorem look_mem {es : List Ent} {id : Int} {e : Ent} (h : look es id = some e) : e ∈ es ∧ e.id = id := by
  refine ⟨List.mem_of_find?_eq_some h, ?_⟩
  have := List.find?_some h
  simpa using this

theorem findNow_ints (kk : IntKind) (id : Int) : ∀ (es : List Ent) (i : Nat),
    ∃ r, Instr.findNow (.int kk) (.int .i64 id) (es.map Ent.entry) i = some r ∧
      ((look es id = none ∧ r = none) ∨ ∃ pre e post, es = pre ++ e :: post ∧ look es id = some e ∧ r = some (i + pre.length, e.v) ∧ ∀ y ∈ pre, y.id ≠ id) := by
  intro es
  induction es with
  | nil => intro i; exact ⟨none, rfl, .inl ⟨rfl, rfl⟩⟩
  | cons e es ih =>
    intro i
    by_cases h : e.id = id
    · refine ⟨some (i, e.v), ?_, .inr ⟨[], e, es, rfl, ?_, by simp, by simp⟩⟩
      · simp [Instr.findNow, Ent.entry, Instr.sameNow, h]
      · simp [look, h]
    · obtain ⟨r, hr, hc⟩ := ih (i + 1)
      refine ⟨r, ?_, ?_⟩
      · have hne : (id == e.id) = false := beq_eq_false_iff_ne.2 (Ne.symm h)
        simp [Instr.findNow, Ent.entry, Instr.sameNow, hne]
        simpa [Ent.entry] using hr
      · have hl : look (e :: es) id = look es id := by simp [look, h]
        rcases hc with ⟨h1, h2⟩ | ⟨pre, e', post, h1, h2, h3, h4⟩
        · exact .inl ⟨by rw [hl]; exact h1, h2⟩
        · exact .inr ⟨e :: pre, e', post, by rw [h1]; rfl, by rw [hl]; exact h2, by rw [h3]; simp; omega, fun y hy => by
            rcases List.mem_cons.1 hy with rfl | hy
            · exact h
            · exact h4 y hy⟩

section
variable {P : Program}
/-- What the tables say of a map's type. -/
structure MapTy (P : Program) (t k e : TypeId) (z : Value) : Prop where
  und : P.underlying t = some (.map k e)
  key : P.underlying k = some (.int .i64)
  zero : ∀ w, (zeroValue e).run P w = .ok z w

theorem run_check_succ {k : TypeId} (hk : P.underlying k = some (.int .i64)) (b : Bool) (n : Nat) (v : Value) (w : World) : (Instr.checkKey b (n + 1) k v).run P w = .ok () w := by
  simp only [Instr.checkKey, Sem.run_bind, run_underlying hk, Result.andThen_ok, Sem.run_pure]
theorem run_check_int {k : TypeId} (hk : P.underlying k = some (.int .i64)) (b : Bool) (v : Value) (w : World) : (Instr.checkKey b 10000 k v).run P w = .ok () w :=
  run_check_succ hk b 9999 v w

theorem run_lookup_ints {t k e : TypeId} {z : Value} (T : MapTy P t k e z) {w : World} {b clock : Nat} {es : List Ent} (h : MapAt w b es clock) (id : Int) :
    (Instr.lookup t (.map (some b)) (.int .i64 id) false).run P w = .ok (match look es id with | some e => e.v | none => z) w := by
  obtain ⟨r, hr, hc⟩ := findNow_ints .i64 id es 0
  unfold MapAt at h
  have hg : (getObj b).run P w = .ok (.map (es.map Ent.entry).toArray clock) w := by simp [getObj, Sem.run, h]
  simp only [Instr.lookup, run_underlying T.und, Sem.run_bind, Result.andThen_ok, hg, run_check_int T.key, Sem.run_pure, Instr.findKey, run_underlying T.key, hr]
  rcases hc with ⟨h1, rfl⟩ | ⟨pre, x, post, h1, h2, rfl, _⟩
  · simp [T.zero, h1]
  · simp [h2]

theorem run_update_new {t k e : TypeId} {z : Value} (T : MapTy P t k e z) {w : World} {b clock : Nat} {es : List Ent} (h : MapAt w b es clock) (id : Int) (v : Value) (hn : look es id = none) :
    (Instr.mapUpdate t (.map (some b)) (.int .i64 id) v).run P w = .ok () (setObjW w b (.map ((es ++ [({ id := id, v := v, born := clock } : Ent)]).map Ent.entry).toArray (clock + 1))) := by
  obtain ⟨r, hr, hc⟩ := findNow_ints .i64 id es 0
  unfold MapAt at h
  have hg : (getObj b).run P w = .ok (.map (es.map Ent.entry).toArray clock) w := by simp [getObj, Sem.run, h]
  rcases hc with ⟨h1, rfl⟩ | ⟨pre, x, post, h1, h2, rfl, _⟩
  · simp only [Instr.mapUpdate, run_underlying T.und, Sem.run_bind, Result.andThen_ok, hg, run_check_int T.key, Sem.run_pure, Instr.findKey, run_underlying T.key, hr]
    simp [setObj, Sem.run, h, setObjW, Ent.entry]
  · rw [hn] at h2; cases h2

theorem run_delete_ints {t k e ty t2 : TypeId} {z : Value} (T : MapTy P t k e z) {w : World} {b clock : Nat} {pre post : List Ent} {x : Ent} (h : MapAt w b (pre ++ x :: post) clock) (hp : ∀ y ∈ pre, y.id ≠ x.id) :
    (Builtin.delete_ #[t, t2] ty #[.map (some b), .int .i64 x.id]).run P w = .ok (.tuple #[]) (setObjW w b (.map ((pre ++ post).map Ent.entry).toArray clock)) := by
  obtain ⟨r, hr, hc⟩ := findNow_ints .i64 x.id (pre ++ x :: post) 0
  unfold MapAt at h
  have hg : (getObj b).run P w = .ok (.map ((pre ++ x :: post).map Ent.entry).toArray clock) w := by simp only [getObj, Sem.run, h]
  have hl : look (pre ++ x :: post) x.id = some x := by
    unfold look
    rw [List.find?_append, List.find?_eq_none.2 (fun y hy => by simpa using hp y hy)]
    simp
  rcases hc with ⟨h1, rfl⟩ | ⟨pre', x', post', h1, h2, rfl, h4⟩
  · rw [hl] at h1; cases h1
  · rw [hl] at h2
    obtain rfl := Option.some.inj h2
    have hlen : pre'.length = pre.length := by
      rcases List.append_eq_append_iff.1 h1 with ⟨l, e1, e2⟩ | ⟨l, e1, e2⟩
      · cases l with
        | nil => simp [e1]
        | cons y l =>
          simp at e2
          obtain ⟨rfl, _⟩ := e2
          exact absurd rfl (h4 x (by rw [e1]; simp))
      · cases l with
        | nil => simp [e1]
        | cons y l =>
          simp at e2
          obtain ⟨rfl, _⟩ := e2
          exact absurd rfl (hp x (by rw [e1]; simp))
    have he : ((pre ++ x :: post).map Ent.entry).toArray.eraseIdxIfInBounds pre'.length = ((pre ++ post).map Ent.entry).toArray := by
      rw [hlen]
      have : pre.length < ((pre ++ x :: post).map Ent.entry).toArray.size := by simp
      rw [Array.eraseIdxIfInBounds, dif_pos this]
      apply Array.ext'
      simp [List.eraseIdx_append_of_length_le]
    have hso : (setObj b (.map ((pre ++ post).map Ent.entry).toArray clock)).run P w = .ok () (setObjW w b (.map ((pre ++ post).map Ent.entry).toArray clock)) := by simp only [setObj, Sem.run, h, setObjW]
    have h0 : (#[t, t2] : Array TypeId)[0]? = some t := rfl
    have h1' : (#[Value.map (some b), Value.int .i64 x.id] : Array Value)[0]? = some (.map (some b)) := rfl
    have h2' : (#[Value.map (some b), Value.int .i64 x.id] : Array Value)[1]? = some (.int .i64 x.id) := rfl
    simp only [Builtin.delete_, h0, h1', h2', run_underlying T.und, Sem.run_bind, Result.andThen_ok, hg, run_check_int T.key, Instr.findKey, run_underlying T.key, hr, Sem.run_pure, Nat.zero_add, he, hso]

def IterAt (w : World) (r b clock : Nat) (seen : List Nat) : Prop := w.heap[r]? = some (.mapIter (some b) clock seen.toArray clock)

theorem IterAt.lt {w : World} {r b clock : Nat} {seen : List Nat} (h : IterAt w r b clock seen) : r < w.heap.size := by
  unfold IterAt at h; exact (Array.getElem?_eq_some_iff.1 h).1
theorem Only.iter {F : Nat → Prop} {w w1 : World} (h : Only F w w1) {r b clock : Nat} {seen : List Nat} (hb : IterAt w r b clock seen) (hn : ¬ F r) : IterAt w1 r b clock seen := by
  unfold IterAt at *
  rw [h.block r (Array.getElem?_eq_some_iff.1 hb).1 hn, hb]

theorem run_range_ints {t k e : TypeId} {z : Value} (T : MapTy P t k e z) {w : World} {b clock : Nat} {es : List Ent} (h : MapAt w b es clock) :
    (Instr.range t (.map (some b))).run P w = .ok (.pointer (some ⟨w.heap.size, 0, none⟩)) (w.alloc (.mapIter (some b) clock #[] clock)) := by
  unfold MapAt at h
  have hg : (getObj b).run P w = .ok (.map (es.map Ent.entry).toArray clock) w := by simp only [getObj, Sem.run, h]
  simp only [Instr.range, run_underlying T.und, Sem.run_bind, Result.andThen_ok, hg, Sem.run_pure, run_newObj]
  rfl

theorem iter_new {w : World} {b clock : Nat} : IterAt (w.alloc (.mapIter (some b) clock #[] clock)) w.heap.size b clock [] := by
  show (w.heap.push _)[w.heap.size]? = _
  simp

def leftOf (es : List Ent) (seen : List Nat) : List Ent := es.filter fun e => !seen.contains e.born

theorem run_next_ints {w : World} {r b clock : Nat} {es : List Ent} {seen : List Nat} (hi : IterAt w r b clock seen) (h : MapAt w b es clock) (hb : ∀ e ∈ es, e.born < clock) (ty : TypeId) :
    (leftOf es seen = [] ∧ (Instr.next (.pointer (some ⟨r, 0, none⟩)) false ty).run P w = .ok (.tuple #[.bool false]) w) ∨
    ∃ e ∈ leftOf es seen, ∃ w', (Instr.next (.pointer (some ⟨r, 0, none⟩)) false ty).run P w = .ok (.tuple #[.bool true, .int .i64 e.id, e.v]) w' ∧ IterAt w' r b clock (seen ++ [e.born]) ∧ Only (fun k => k = r) w w' := by
  have hlt := hi.lt
  unfold IterAt at hi
  unfold MapAt at h
  have hg : ∀ n, (getObj b).run P { w with drawn := n } = .ok (.map (es.map Ent.entry).toArray clock) { w with drawn := n } := fun n => by simp only [getObj, Sem.run, h]
  have hg0 : (getObj b).run P w = .ok (.map (es.map Ent.entry).toArray clock) w := hg w.drawn
  have hr0 : (getObj r).run P w = .ok (.mapIter (some b) clock seen.toArray clock) w := by simp only [getObj, Sem.run, hi]
  have hnot : (!seen.toArray.isEmpty && !(es.map Ent.entry).toArray.isEmpty && (es.map Ent.entry).toArray.all (fun x => decide (x.born ≥ clock))) = false := by
    cases es with
    | nil => simp
    | cons e es =>
      have := hb e (by simp)
      have hd : decide (e.born ≥ clock) = false := decide_eq_false (by omega)
      simp [Ent.entry]
      intro _ h2
      omega
  have hleft : (es.map Ent.entry).toArray.filter (fun x => !seen.toArray.contains x.born) = ((leftOf es seen).map Ent.entry).toArray := by
    simp only [leftOf, List.filter_toArray, List.contains_toArray]
    congr 1
    rw [List.filter_map]
    rfl
  have hold : ((leftOf es seen).map Ent.entry).toArray.filter (fun x => decide (x.born < clock)) = ((leftOf es seen).map Ent.entry).toArray := by
    rw [List.filter_toArray]
    congr 1
    refine List.filter_eq_self.2 fun x hx => ?_
    obtain ⟨e, he, rfl⟩ := List.mem_map.1 hx
    have := hb e (List.mem_filter.1 he).1
    exact decide_eq_true (p := e.entry.born < clock) this
  have hnew : ((leftOf es seen).map Ent.entry).toArray.filter (fun x => decide (x.born ≥ clock)) = #[] := by
    rw [List.filter_toArray]
    congr 1
    refine List.filter_eq_nil_iff.2 fun x hx => ?_
    obtain ⟨e, he, rfl⟩ := List.mem_map.1 hx
    have := hb e (List.mem_filter.1 he).1
    simp [Ent.entry]
    omega
  simp only [Instr.next, Sem.run_bind, hr0, Result.andThen_ok, hg0]
  rw [hnot]
  simp only [Bool.false_eq_true, if_false, hleft, hold, hnew, Array.append_empty]
  cases hl : leftOf es seen with
  | nil =>
    refine .inl ⟨rfl, ?_⟩
    simp [choose, Sem.run, Question.forced]
  | cons e0 l0 =>
    refine .inr ?_
    have hcand : ((if (List.map Ent.entry (e0 :: l0)).toArray.isEmpty = true then #[none] else #[]) ++ ((List.map Ent.entry (e0 :: l0)).toArray).map some : Array (Option MapEntry)) = ((e0 :: l0).map fun e => some e.entry).toArray := by
      simp
    simp only [hcand, Sem.run_bind, run_choose]
    have pick : ∀ i, i < (e0 :: l0).length → ∃ e ∈ (e0 :: l0), (((e0 :: l0).map fun e => some e.entry).toArray)[i]? = some (some e.entry) := fun i hi => by
      refine ⟨(e0 :: l0)[i], List.getElem_mem hi, ?_⟩
      rw [List.getElem?_toArray, List.getElem?_map, List.getElem?_eq_getElem hi]
      rfl
    have fin : ∀ (i n : Nat), i < (e0 :: l0).length → ∃ e ∈ (e0 :: l0), ∃ w', (Sem.run P (match (((e0 :: l0).map fun e => some e.entry).toArray)[i]? with
        | some (some e) => do
          setObj r (.mapIter (some b) clock (seen.toArray.push e.born) clock)
          pure (Value.tuple #[.bool true, e.key, e.val])
        | some none => pure (Value.tuple #[.bool false])
        | none => stuck "Next: no such candidate") { w with drawn := n }) = .ok (.tuple #[.bool true, .int .i64 e.id, e.v]) w' ∧ IterAt w' r b clock (seen ++ [e.born]) ∧ Only (fun k => k = r) w w' := fun i n hi' => by
      obtain ⟨e, he, hp⟩ := pick i hi'
      refine ⟨e, he, setObjW { w with drawn := n } r (.mapIter (some b) clock (seen ++ [e.born]).toArray clock), ?_, setObjW_same (by exact hlt) _, ?_⟩
      · rw [hp]
        simp [setObj, Sem.run, hi, setObjW, Ent.entry]
      · exact Only.setObj (w := w) (w1 := { w with drawn := n }) ⟨rfl, rfl, rfl, Nat.le_refl _, fun _ _ _ => rfl⟩ _ (fun _ => rfl)
    by_cases hf : (Question.mapNext ((e0 :: l0).map fun e => some e.entry).toArray.size).forced = true
    · rw [if_pos hf]
      exact fin 0 w.drawn (by simp)
    · rw [if_neg hf]
      refine fin _ (w.drawn + 1) ?_
      simp only [Question.cut]
      refine Nat.lt_of_lt_of_le (Nat.mod_lt _ (by simp)) (by simp)

theorem run_entry_ints {w : World} {r b clock : Nat} {es : List Ent} {seen : List Nat} {e : Ent} (hi : IterAt w r b clock (seen ++ [e.born])) (h : MapAt w b es clock) (hn : (es.map (·.born)).Nodup) (he : e ∈ es) :
    (Instr.entry (.pointer (some ⟨r, 0, none⟩))).run P w = .ok (.tuple #[.int .i64 e.id, e.v]) w := by
  unfold IterAt at hi
  unfold MapAt at h
  have hg0 : (getObj b).run P w = .ok (.map (es.map Ent.entry).toArray clock) w := by simp only [getObj, Sem.run, h]
  have hr0 : (getObj r).run P w = .ok (.mapIter (some b) clock (seen ++ [e.born]).toArray clock) w := by simp only [getObj, Sem.run, hi]
  have hfind : (es.map Ent.entry).toArray.find? (fun x => x.born == e.born) = some e.entry := by
    rw [List.find?_toArray, List.find?_map]
    have : es.find? ((fun x : MapEntry => x.born == e.born) ∘ Ent.entry) = some e := by
      clear hi hg0 hr0 h
      induction es with
      | nil => cases he
      | cons y l ih =>
        rw [List.find?_cons]
        by_cases hy : y.born = e.born
        · have : y = e := by
            rcases List.mem_cons.1 he with h1 | h1
            · exact h1.symm
            · simp only [List.map_cons, List.nodup_cons, List.mem_map, not_exists, not_and] at hn
              exact absurd hy.symm (hn.1 e h1)
          subst this
          simp [Ent.entry]
        · have hb : ((fun x : MapEntry => x.born == e.born) ∘ Ent.entry) y = false := by simpa [Ent.entry] using hy
          rw [hb]
          rcases List.mem_cons.1 he with h1 | h1
          · exact absurd (by rw [h1]) hy
          · exact ih (List.nodup_cons.1 hn).2 h1
    rw [this]
    rfl
  simp only [Instr.entry, Sem.run_bind, hr0, Result.andThen_ok]
  have hback : (seen ++ [e.born]).toArray.back? = some e.born := by simp
  simp only [hback, Sem.run_bind, hg0, Result.andThen_ok, bne_self_eq_false, Bool.false_eq_true, if_false, hfind, Sem.run_pure]
  simp [Ent.entry]
end
end Go.Hp
