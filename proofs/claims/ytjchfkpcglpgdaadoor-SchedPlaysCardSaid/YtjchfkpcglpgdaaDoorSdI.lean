/-
  The scheduler in memory: contracts of Used, Pick, Del, Sleep, Ran.
-/
import Derived.Test.YtjchfkpcglpgdaaDoorSdH
set_option linter.unusedSimpArgs false
set_option linter.unusedVariables false
namespace Go.Proofs.YtjchfkpcglpgdaaDoor
open Go.RowKit Go.Hp

theorem SchAt.inn {w : World} {bs : Nat} {B : List Nat} {l : List Rec} (h : SchAt w bs B l) {r : Rec} (hr : r ∈ l) : ∃ (I : Inn) (o : One) (i : Nat), I.bs = bs ∧ I.blocks = B ∧ InnX w I [] ∧ (I.L.map One.r).Perm l ∧ o ∈ I.L ∧ o.r = r ∧ (I.T r.sleeps).L[i]? = some o := by
  obtain ⟨I, h1, h2, h3, h4⟩ := h
  obtain ⟨o, ho, rfl⟩ := List.mem_map.1 (h4.mem_iff.2 hr)
  obtain ⟨i, hi⟩ := InnX.where_ h3 ho
  exact ⟨I, o, i, h1, h2, h3, h4, ho, rfl, hi⟩

theorem InnX.lk {w : World} {I : Inn} {X : List One} (h : InnX w I X) {o : One} (ho : o ∈ X ++ I.L) :
    ∀ w' : World, w'.heap[I.bm]? = w.heap[I.bm]? → (Instr.lookup 56 (.map (some I.bm)) (.int .i64 o.id) false).run Tryd.prog w' = .ok (.pointer (some ⟨o.b, 0, none⟩)) w' := by
  obtain ⟨pre, e, post, h1, h2, h3, h4, h5⟩ := h.look_some ho
  exact lookup_at h o.id _ (by rw [h2]; exact h4)
theorem InnX.lkn {w : World} {I : Inn} {X : List One} (h : InnX w I X) {id : Int} (hn : ∀ o ∈ X ++ I.L, o.id ≠ id) :
    ∀ w' : World, w'.heap[I.bm]? = w.heap[I.bm]? → (Instr.lookup 56 (.map (some I.bm)) (.int .i64 id) false).run Tryd.prog w' = .ok (.pointer none) w' :=
  lookup_at h id _ (by rw [h.look_none hn])

theorem SchAt.no {w : World} {bs : Nat} {B : List Nat} {l : List Rec} (h : SchAt w bs B l) {id : Int} (hn : ∀ r ∈ l, r.id ≠ id) : ∃ I : Inn, I.bs = bs ∧ I.blocks = B ∧ InnX w I [] ∧ (I.L.map One.r).Perm l ∧ ∀ o ∈ [] ++ I.L, o.id ≠ id := by
  obtain ⟨I, h1, h2, h3, h4⟩ := h
  exact ⟨I, h1, h2, h3, h4, fun o ho => hn o.r (h4.mem_iff.1 (List.mem_map.2 ⟨o, by simpa using ho, rfl⟩))⟩

def Same (w : World) (x : Value) (e : Ending) (w' : World) : Prop := e = .returned x ∧ ∃ n, w' = w.drewN n
theorem Same.only {w w' : World} {x : Value} {e : Ending} {F : Nat → Prop} (h : Same w x e w') : Only F w w' := by
  obtain ⟨_, n, rfl⟩ := h
  exact (Only.refl _ w).drewN n

theorem used_calls {w : World} {bs : Nat} {B : List Nat} {l : List Rec} (h : SchAt w bs B l) {r : Rec} (hr : r ∈ l) :
    Calls Tryd.prog 13 #[ptr bs, .int .i64 r.id] w (Same w (.tuple #[.int .i64 r.used, .bool true])) := by
  obtain ⟨I, o, i, rfl, rfl, hI, hp, ho, rfl, hi⟩ := h.inn hr
  exact used_some_core I.bs I.bm o.b o.id o.used w (hI.hd.cell_some rfl) (hI.lk ho) (((hI.t _).on i o hi).cell_some rfl)
theorem used_no {w : World} {bs : Nat} {B : List Nat} {l : List Rec} (h : SchAt w bs B l) {id : Int} (hn : ∀ r ∈ l, r.id ≠ id) :
    Calls Tryd.prog 13 #[ptr bs, .int .i64 id] w (Same w (.tuple #[.int .i64 0, .bool false])) := by
  obtain ⟨I, rfl, rfl, hI, hp, hn'⟩ := h.no hn
  exact used_none_core I.bs I.bm id w (hI.hd.cell_some rfl) (hI.lkn hn')

theorem del_no {w : World} {bs : Nat} {B : List Nat} {l : List Rec} (h : SchAt w bs B l) {id : Int} (hn : ∀ r ∈ l, r.id ≠ id) {e : Value} (hg : w.cell? ⟨2, 0, none⟩ = some e) :
    Calls Tryd.prog 14 #[ptr bs, .int .i64 id] w (Same w e) := by
  obtain ⟨I, rfl, rfl, hI, hp, hn'⟩ := h.no hn
  exact del_none I.bs I.bm id e w hg (hI.hd.cell_some rfl) (hI.lkn hn')
theorem sleep_no {w : World} {bs : Nat} {B : List Nat} {l : List Rec} (h : SchAt w bs B l) {id : Int} (hn : ∀ r ∈ l, r.id ≠ id) {e : Value} (hg : w.cell? ⟨2, 0, none⟩ = some e) (till : Int) :
    Calls Tryd.prog 16 #[ptr bs, .int .i64 id, .int .i64 till] w (Same w e) := by
  obtain ⟨I, rfl, rfl, hI, hp, hn'⟩ := h.no hn
  exact sleep_none I.bs I.bm id till e w hg (hI.hd.cell_some rfl) (hI.lkn hn')
theorem ran_no {w : World} {bs : Nat} {B : List Nat} {l : List Rec} (h : SchAt w bs B l) {id : Int} (hn : ∀ r ∈ l, r.id ≠ id) {e : Value} (hg : w.cell? ⟨2, 0, none⟩ = some e) (steps : Int) :
    Calls Tryd.prog 12 #[ptr bs, .int .i64 id, .int .i64 steps] w (Same w e) := by
  obtain ⟨I, rfl, rfl, hI, hp, hn'⟩ := h.no hn
  exact ran_none I.bs I.bm id steps e w hg (hI.hd.cell_some rfl) (hI.lkn hn')
theorem ran_bad {w : World} {bs : Nat} {B : List Nat} {l : List Rec} (h : SchAt w bs B l) {r : Rec} (hr : r ∈ l) {e : Value} (hg : w.cell? ⟨0, 0, none⟩ = some e) {steps : Int} (hs : steps < 0 ∨ 1073741824 < steps) :
    Calls Tryd.prog 12 #[ptr bs, .int .i64 r.id, .int .i64 steps] w (Same w e) := by
  obtain ⟨I, o, i, rfl, rfl, hI, hp, ho, rfl, hi⟩ := h.inn hr
  exact ran_range I.bs I.bm o.b o.id steps e w hs hg (hI.hd.cell_some rfl) (hI.lk ho)

/-- What a call leaves of the scheduler: blocks of its own, or new ones, alone are written; the list. -/
structure Goes (bs : Nat) (B : List Nat) (l' : List Rec) (w w' : World) : Prop where
  at_ : ∃ B', SchAt w' bs B' l' ∧ ∀ b ∈ B', b ∈ B ∨ w.heap.size ≤ b
  only : Only (fun b => b ∈ B) w w'

theorem Inn.in_T (I : Inn) (s : Bool) {b : Nat} (h : b ∈ (I.T s).blocks) : b ∈ I.blocks :=
  (I.blocks_perm s).mem_iff.2 (by simp [h])

theorem InnX.notin {w : World} {I : Inn} {X : List One} (h : InnX w I X) (s : Bool) : ¬ (I.T s).fp I.bs ∧ ¬ (I.T s).fp I.bm ∧ I.bs ≠ I.bm := by
  have nd := h.ndS s
  have nd := (List.nodup_append.1 nd).2.1
  simp only [List.nodup_cons, List.mem_cons, List.mem_append, not_or] at nd
  exact ⟨nd.1.2.1, nd.2.1.1, nd.1.1⟩

theorem Inn.btS (I : Inn) (s : Bool) : (if s then (I.T true).bt else (I.T false).bt) = (I.T s).bt := by cases s <;> rfl

theorem Inn.upd_L (I : Inn) (s : Bool) (T' : Turns) (es : List Ent) (c : Nat) : (I.upd s T' es c).L.Perm (T'.L ++ (I.T (!s)).L) := by
  have := (I.upd s T' es c).L_perm s
  rwa [Inn.upd_same, Inn.upd_other] at this
theorem Inn.upd_blocks (I : Inn) (s : Bool) (T' : Turns) (es : List Ent) (c : Nat) : (I.upd s T' es c).blocks.Perm (I.bs :: I.bm :: (T'.blocks ++ (I.T (!s)).blocks)) := by
  have := (I.upd s T' es c).blocks_perm s
  rwa [Inn.upd_same, Inn.upd_other] at this

theorem perm_out {L M : List One} {o : One} {l : List Rec} (hp : (L.map One.r).Perm l) (hL : L.Perm (o :: M)) (hid : (L.map (·.id)).Nodup) : (M.map One.r).Perm (l.filter (fun r => r.id ≠ o.r.id)) := by
  have h1 : (l.filter (fun r => r.id ≠ o.r.id)).Perm (((o :: M).map One.r).filter (fun r => r.id ≠ o.r.id)) := (hp.symm.trans (hL.map _)).filter _
  refine List.Perm.symm (h1.trans ?_)
  have hn := ((hL.map (·.id)).nodup_iff).1 hid
  simp only [List.map_cons, List.nodup_cons] at hn
  rw [List.map_cons, List.filter_cons]
  simp only [ne_eq, not_true, decide_false, Bool.false_eq_true, if_false]
  rw [List.filter_eq_self.2]
  intro r hr
  obtain ⟨p, hp, rfl⟩ := List.mem_map.1 hr
  simp only [decide_eq_true_eq]
  exact fun e => hn.1 (List.mem_map.2 ⟨p, hp, e⟩)

theorem del_calls {w : World} {bs : Nat} {B : List Nat} {l : List Rec} (h : SchAt w bs B l) {r : Rec} (hr : r ∈ l) :
    Calls Tryd.prog 14 #[ptr bs, .int .i64 r.id] w fun e w' => e = .returned .nilIface ∧ Goes bs B (l.filter (fun x => x.id ≠ r.id)) w w' := by
  obtain ⟨I, o, i, rfl, rfl, hI, hp, ho, rfl, hi⟩ := h.inn hr
  obtain ⟨L', hL', hh, hpm⟩ := heap_rem (hI.hp _) hi
  obtain ⟨n1, n2, n3⟩ := hI.notin o.r.sleeps
  have hb := (hI.t _).on i o hi
  have hlt : i < (I.T o.r.sleeps).L.length := (List.getElem?_eq_some_iff.1 hi).1
  obtain ⟨pre, en, post, he1, he2, he3, he4, he5⟩ := hI.look_some (o := o) ho
  have hdel : ∀ w' : World, w'.heap[I.bm]? = w.heap[I.bm]? → (Builtin.delete_ #[56, 3] 0 #[.map (some I.bm), .int .i64 o.id]).run Tryd.prog w' = .ok (.tuple #[]) (setObjW w' I.bm (.map ((pre ++ post).map Ent.entry).toArray I.clock)) := fun w' hw' => by
    have hm : MapAt w' I.bm (pre ++ en :: post) I.clock := by rw [← he1]; exact hw'.trans hI.mp
    have := run_delete_ints ty_all (ty := 0) (t2 := 3) hm (fun y hy => he3 ▸ he5 y hy)
    rw [he3] at this
    exact this
  refine (del_core o.r.sleeps (I.T o.r.sleeps) I.bs I.bm o.b i (I.T false).bt (I.T true).bt o.id w _ (fun w2 => TurnsAt w2 { I.T o.r.sleeps with L := L', tail := o.val :: (I.T o.r.sleeps).tail })
    n1 n2 hI.hd.lt hI.mp.lt (hI.hd.cell_some rfl) (hI.hd.cell_some rfl) (hI.hd.cell_some rfl) (hI.lk ho) (hb.cell_some rfl) (hb.cell_some rfl) (I.btS _) (Lib.hid fun n => (hremove_calls ((hI.t _).drewN n) hlt rfl hL').mono ?_) hdel).mono ?_
  · rintro e w' ⟨rfl, ht, ho2, _⟩
    exact ⟨rfl, (((Only.refl _ w).drewN n).trans ho2 (fun _ _ h => h)), ht⟩
  · rintro e w' ⟨rfl, w2, n, ho2, ht2, rfl⟩
    refine ⟨rfl, ?_, ?_⟩
    · have hX := InnX.rem hI hpm hh ht2 ho2
      have hY := (InnX.drop hX he1 he3 he4).of_only (F := fun _ => False) ((Only.refl _ _).drewN n) (fun _ _ h => h)
      have hLp : I.L.Perm (o :: (L' ++ (I.T (!o.r.sleeps)).L)) := (I.L_perm o.r.sleeps).trans (hpm.symm.append_right _)
      refine ⟨_, ⟨I.upd o.r.sleeps { I.T o.r.sleeps with L := L', tail := o.val :: (I.T o.r.sleeps).tail } (pre ++ post) I.clock, rfl, rfl, hY, ?_⟩, ?_⟩
      · exact ((Inn.upd_L _ _ _ _ _).map _).trans (perm_out hp hLp (InnX.idsL hI))
      · intro b hb'
        refine .inl ?_
        have hb2 := (Inn.upd_blocks _ _ _ _ _).mem_iff.1 hb'
        have hbp := (Turns.blocks_cons (I.T o.r.sleeps) hpm (o.val :: (I.T o.r.sleeps).tail)).mem_iff (a := b)
        refine (I.blocks_perm o.r.sleeps).mem_iff.2 ?_
        simp only [List.mem_cons, List.mem_append] at hb2 ⊢
        rcases hb2 with hb2 | hb2 | hb2 | hb2
        · exact .inl hb2
        · exact .inr (.inl hb2)
        · exact .inr (.inr (.inl (hbp.2 (by simp [hb2]))))
        · exact .inr (.inr (.inr hb2))
    · refine ((ho2.mono (fun b _ hb => I.in_T _ hb)).setObj _ (fun _ => ?_)).drewN n
      simp [Inn.blocks]
end Go.Proofs.YtjchfkpcglpgdaaDoor
