/-
  The scheduler in memory: what its parts' calls do to the whole.
-/
import Derived.Test.YtjchfkpcglpgdaaDoorSdG
set_option linter.unusedSimpArgs false
set_option linter.unusedVariables false
namespace Go.Proofs.YtjchfkpcglpgdaaDoor
open Go.RowKit Go.Hp

theorem InnX.mkS {w : World} {I : Inn} {X : List One} (s : Bool) {T1 T2 : Turns} (h1 : I.T s = T1) (h2 : I.T (!s) = T2) (hd : Blk w I.bs I.cells 62) (mp : MapAt w I.bm I.es I.clock)
    (t1 : TurnsAt w T1) (t2 : TurnsAt w T2) (nd : (X.map (·.b) ++ (I.bs :: I.bm :: (T1.blocks ++ T2.blocks))).Nodup)
    (ent : (I.es.map fun e => (e.id, e.v)).Perm ((X ++ (T1.L ++ T2.L)).map One.ent)) (born : ∀ e ∈ I.es, e.born < I.clock) (bnd : (I.es.map (·.born)).Nodup)
    (hp1 : Heap s T1.L) (hp2 : Heap (!s) T2.L) (ids : ((X ++ (T1.L ++ T2.L)).map (·.id)).Nodup) (ok : ∀ o ∈ X ++ (T1.L ++ T2.L), Okr o.r) : InnX w I X := by
  subst h1 h2
  have hL : (X ++ I.L).Perm (X ++ ((I.T s).L ++ (I.T (!s)).L)) := (I.L_perm s).append_left _
  exact ⟨hd, mp, fun s' => by cases s <;> cases s' <;> assumption, ((((I.blocks_perm s).append_left _)).nodup_iff).2 nd, ent.trans (hL.map _).symm, born, bnd,
    fun s' => by cases s <;> cases s' <;> assumption, ((hL.map _).nodup_iff).2 ids, fun o ho => ok o (hL.mem_iff.1 ho)⟩

theorem InnX.ndS {w : World} {I : Inn} {X : List One} (h : InnX w I X) (s : Bool) : (X.map (·.b) ++ (I.bs :: I.bm :: ((I.T s).blocks ++ (I.T (!s)).blocks))).Nodup :=
  ((((I.blocks_perm s).append_left _)).nodup_iff).1 h.nd
theorem InnX.entS {w : World} {I : Inn} {X : List One} (h : InnX w I X) (s : Bool) : (I.es.map fun e => (e.id, e.v)).Perm ((X ++ ((I.T s).L ++ (I.T (!s)).L)).map One.ent) :=
  h.ent.trans (((I.L_perm s).append_left _).map _)
theorem InnX.idsS {w : World} {I : Inn} {X : List One} (h : InnX w I X) (s : Bool) : ((X ++ ((I.T s).L ++ (I.T (!s)).L)).map (·.id)).Nodup :=
  ((((I.L_perm s).append_left _).map _).nodup_iff).1 h.ids
theorem InnX.okS {w : World} {I : Inn} {X : List One} (h : InnX w I X) (s : Bool) : ∀ o ∈ X ++ ((I.T s).L ++ (I.T (!s)).L), Okr o.r :=
  fun o ho => h.ok o ((((I.L_perm s).append_left _)).mem_iff.2 ho)

theorem Turns.blocks_b (T : Turns) {L : List One} (hp : L.Perm T.L) (tail : List Value) : ({ T with L := L, tail := tail } : Turns).blocks.Perm T.blocks := ((hp.map _).append_left _).cons _
theorem Turns.blocks_cons (T : Turns) {L : List One} {o : One} (hp : (o :: L).Perm T.L) (tail : List Value) : T.blocks.Perm (o.b :: ({ T with L := L, tail := tail } : Turns).blocks) := by
  have h1 : T.blocks.Perm (T.bt :: (T.arr.toList ++ (o :: L).map (·.b))) := ((hp.symm.map _).append_left _).cons _
  refine h1.trans ?_
  show (T.bt :: (T.arr.toList ++ (o.b :: L.map (·.b)))).Perm (o.b :: T.bt :: (T.arr.toList ++ L.map (·.b)))
  exact (List.perm_middle.cons _).trans (List.Perm.swap _ _ _)

theorem TurnsAt.lt {w : World} {T : Turns} (h : TurnsAt w T) : ∀ b ∈ T.blocks, b < w.heap.size := by
  intro b hb
  simp only [Turns.blocks, List.mem_cons, List.mem_append, Option.mem_toList, List.mem_map] at hb
  rcases hb with rfl | hb | ⟨o, ho, rfl⟩
  · exact h.hd.lt
  · exact (h.ar b hb).lt
  · obtain ⟨i, hi⟩ := List.mem_iff_getElem?.1 ho
    exact (h.on i o hi).lt

/-- One taken out of its heap. -/
theorem InnX.rem {w w2 : World} {I : Inn} {s : Bool} {o : One} {L : List One} {tail : List Value} (h : InnX w I []) (hp : (o :: L).Perm (I.T s).L) (hh : Heap s L)
    (ht : TurnsAt w2 { I.T s with L := L, tail := tail }) (ho : Only (I.T s).fp w w2) : InnX w2 (I.upd s { I.T s with L := L, tail := tail } I.es I.clock) [o] := by
  have nd := h.ndS s
  have hb := Turns.blocks_cons (I.T s) hp tail
  have hnd : ∀ b ∈ (I.bs :: I.bm :: (I.T (!s)).blocks), ¬ (I.T s).fp b := by
    intro b hb hf
    simp only [List.map_nil, List.nil_append, List.nodup_cons, List.mem_cons, List.mem_append, not_or, List.nodup_append] at nd
    simp only [List.mem_cons] at hb
    rcases hb with rfl | rfl | hb
    · exact nd.1.2.1 hf
    · exact nd.2.1.1 hf
    · exact nd.2.2.2.2 b hf b hb rfl
  refine InnX.mkS s (I.upd_same s _ _ _) (I.upd_other s _ _ _) ?_ ?_ ht ?_ ?_ ?_ h.born h.bnd hh (h.hp _) ?_ ?_
  · have : (I.upd s { I.T s with L := L, tail := tail } I.es I.clock).cells = I.cells := by cases s <;> rfl
    rw [this]
    exact ho.blk h.hd (hnd I.bs (by simp))
  · exact ho.map h.mp (hnd I.bm (by simp))
  · exact (h.t _).of_only ho (fun b hb => hnd b (by simp [hb]))
  · have e : ((I.bs :: I.bm :: ((I.T s).blocks ++ (I.T (!s)).blocks))).Perm ([o].map (·.b) ++ (I.bs :: I.bm :: (({ I.T s with L := L, tail := tail } : Turns).blocks ++ (I.T (!s)).blocks))) := by
      refine (((hb.append_right _).cons _).cons _).trans ?_
      exact ((List.Perm.swap _ _ _).cons _).trans (List.Perm.swap _ _ _)
    exact (e.nodup_iff).1 (by simpa using nd)
  · refine (h.entS s).trans (List.Perm.map _ ?_)
    exact (hp.symm.append_right _)
  · have := h.idsS s
    exact (((hp.symm.append_right (I.T (!s)).L).map (·.id)).nodup_iff).1 this
  · intro x hx
    exact h.okS s x ((hp.symm.append_right (I.T (!s)).L).mem_iff.2 hx)

/-- One put into its heap. -/
theorem InnX.push {w w2 : World} {I : Inn} {s : Bool} {o : One} {T' : Turns} (h : InnX w I [o]) (hbt : T'.bt = (I.T s).bt) (hL : T'.L.Perm (o :: (I.T s).L)) (hh : Heap s T'.L)
    (ht : TurnsAt w2 T') (harr : T'.arr = (I.T s).arr ∨ ∃ g, T'.arr = some g ∧ w.heap.size ≤ g) (ho : Only (fun b => b ∈ (I.T s).blocks ∨ b = o.b) w w2) : InnX w2 (I.upd s T' I.es I.clock) [] := by
  have nd := h.ndS s
  simp only [List.map_cons, List.map_nil, List.cons_append, List.nil_append, List.nodup_cons, List.mem_cons, List.mem_append, not_or, List.nodup_append] at nd
  obtain ⟨⟨no1, no2, no3, no4⟩, ⟨ns1, ns2, ns3⟩, ⟨nm1, nm2⟩, nT, nO, nTO⟩ := nd
  have hnd : ∀ b ∈ (I.bs :: I.bm :: (I.T (!s)).blocks), ¬ (b ∈ (I.T s).blocks ∨ b = o.b) := by
    intro b hb hf
    simp only [List.mem_cons] at hb
    rcases hb with rfl | rfl | hb
    · exact hf.elim ns2 (fun e => no1 e.symm)
    · exact hf.elim nm1 (fun e => no2 e.symm)
    · exact hf.elim (fun hf => nTO b hf b hb rfl) (fun e => no4 (e ▸ hb))
  have hlt : ∀ b ∈ (I.bs :: I.bm :: (I.T (!s)).blocks), b < w.heap.size := by
    intro b hb
    simp only [List.mem_cons] at hb
    rcases hb with rfl | rfl | hb
    · exact h.hd.lt
    · exact h.mp.lt
    · exact (h.t (!s)).lt b hb
  have hin : ∀ b ∈ T'.blocks, b = o.b ∨ b ∈ (I.T s).blocks ∨ w.heap.size ≤ b := by
    intro b hb
    simp only [Turns.blocks, List.mem_cons, List.mem_append, Option.mem_toList] at hb
    rcases hb with rfl | hb | hb
    · exact .inr (.inl (by simp [Turns.blocks, hbt]))
    · rcases harr with ha | ⟨g, hg, hge⟩
      · rw [ha] at hb; exact .inr (.inl (by simp [Turns.blocks, hb]))
      · rw [hg] at hb; cases hb; exact .inr (.inr hge)
    · have := ((hL.map (·.b)).mem_iff).1 hb
      rcases List.mem_cons.1 this with hb | hb
      · exact .inl hb
      · exact .inr (.inl (by simp only [Turns.blocks, List.mem_cons, List.mem_append]; exact .inr (.inr hb)))
  have hout : ∀ b ∈ (I.bs :: I.bm :: (I.T (!s)).blocks), b ∉ T'.blocks := fun b hb hc => by
    rcases hin b hc with hc | hc | hc
    · exact hnd b hb (.inr hc)
    · exact hnd b hb (.inl hc)
    · have := hlt b hb; omega
  refine InnX.mkS s (I.upd_same s _ _ _) (I.upd_other s _ _ _) ?_ ?_ ht ?_ ?_ ?_ h.born h.bnd hh (h.hp _) ?_ ?_
  · have : (I.upd s T' I.es I.clock).cells = I.cells := by cases s <;> simp [Inn.upd, Inn.cells, hbt]
    rw [this]
    exact ho.blk h.hd (hnd I.bs (by simp))
  · exact ho.map h.mp (hnd I.bm (by simp))
  · exact (h.t _).of_only ho (fun b hb => hnd b (by simp [hb]))
  · simp only [List.map_nil, List.nil_append, List.nodup_cons, List.mem_cons, List.mem_append, not_or, List.nodup_append]
    exact ⟨⟨ns1, hout I.bs (by simp), ns3⟩, ⟨hout I.bm (by simp), nm2⟩, ht.nd, nO, fun a ha b hb e => hout b (by simp [hb]) (e ▸ ha)⟩
  · refine (h.entS s).trans (List.Perm.map _ ?_)
    exact (hL.symm.append_right _)
  · have := h.idsS s
    exact (((hL.symm.append_right (I.T (!s)).L).map (·.id)).nodup_iff).1 this
  · intro x hx
    exact h.okS s x ((hL.symm.append_right (I.T (!s)).L).mem_iff.2 hx)

/-- One that is in no heap, changed. -/
theorem InnX.chg {w w2 : World} {I : Inn} {o o' : One} (h : InnX w I [o]) (hb : o'.b = o.b) (hi : o'.id = o.id) (hok : Okr o'.r) (ho : Only (fun b => b = o.b) w w2) : InnX w2 I [o'] := by
  have nd := h.nd
  simp only [List.map_cons, List.map_nil, List.cons_append, List.nil_append, List.nodup_cons] at nd
  have he : One.ent o' = One.ent o := by simp [One.ent, hb, hi]
  have h2 := h.of_only ho (fun b hb e => nd.1 (e ▸ hb))
  refine ⟨h2.hd, h2.mp, h2.t, by simpa [hb] using h.nd, by simpa [he] using h.ent, h.born, h.bnd, h.hp, by simpa [hi] using h.ids, fun p hp => ?_⟩
  simp only [List.cons_append, List.nil_append, List.mem_cons] at hp
  rcases hp with rfl | hp
  · exact hok
  · exact h.ok p (by simp [hp])

/-- One that is in a heap, changed, and the heap in another order. -/
theorem InnX.fix {w w2 : World} {I : Inn} {s : Bool} {o o' : One} {T' : Turns} {M : List One} (h : InnX w I []) (hbt : T'.bt = (I.T s).bt) (harr : T'.arr = (I.T s).arr) (hL : (I.T s).L.Perm (o :: M)) (hL' : T'.L.Perm (o' :: M)) (hb : o'.b = o.b) (hi : o'.id = o.id) (hok : Okr o'.r)
    (hh : Heap s T'.L) (ht : TurnsAt w2 T') (ho : Only (I.T s).fp w w2) : InnX w2 (I.upd s T' I.es I.clock) [] := by
  have nd := h.ndS s
  have hbl : ∀ b, b ∈ T'.blocks ↔ b ∈ (I.T s).blocks := by
    have e1 : (T'.L.map (·.b)).Perm ((I.T s).L.map (·.b)) := (hL'.map _).trans (by simpa [hb] using (hL.map (·.b)).symm)
    intro b
    simp only [Turns.blocks, List.mem_cons, List.mem_append, hbt, harr, e1.mem_iff]
  simp only [List.map_nil, List.nil_append, List.nodup_cons, List.mem_cons, List.mem_append, not_or, List.nodup_append] at nd
  obtain ⟨⟨ns1, ns2, ns3⟩, ⟨nm1, nm2⟩, nT, nO, nTO⟩ := nd
  have hnd : ∀ b ∈ (I.bs :: I.bm :: (I.T (!s)).blocks), ¬ (I.T s).fp b := by
    intro b hb hf
    simp only [List.mem_cons] at hb
    rcases hb with rfl | rfl | hb
    · exact ns2 hf
    · exact nm1 hf
    · exact nTO b hf b hb rfl
  have he : One.ent o' = One.ent o := by simp [One.ent, hb, hi]
  refine InnX.mkS s (I.upd_same s _ _ _) (I.upd_other s _ _ _) ?_ ?_ ht ?_ ?_ ?_ h.born h.bnd hh (h.hp _) ?_ ?_
  · have : (I.upd s T' I.es I.clock).cells = I.cells := by cases s <;> simp [Inn.upd, Inn.cells, hbt]
    rw [this]
    exact ho.blk h.hd (hnd I.bs (by simp))
  · exact ho.map h.mp (hnd I.bm (by simp))
  · exact (h.t _).of_only ho (fun b hb => hnd b (by simp [hb]))
  · simp only [List.map_nil, List.nil_append, List.nodup_cons, List.mem_cons, List.mem_append, not_or, List.nodup_append, hbl]
    exact ⟨⟨ns1, ns2, ns3⟩, ⟨nm1, nm2⟩, ht.nd, nO, nTO⟩
  · refine (h.entS s).trans ?_
    simp only [List.nil_append, List.map_append]
    refine List.Perm.append_right _ ((hL.map _).trans ?_)
    simpa [he] using (hL'.map One.ent).symm
  · have := h.idsS s
    simp only [List.nil_append, List.map_append] at this ⊢
    refine ((List.Perm.append_right _ ((hL.map _).trans ?_)).nodup_iff).1 this
    simpa [hi] using (hL'.map (·.id)).symm
  · intro x hx
    simp only [List.nil_append, List.mem_append] at hx
    rcases hx with hx | hx
    · rcases List.mem_cons.1 (hL'.mem_iff.1 hx) with rfl | hx
      · exact hok
      · exact h.okS s x (by simp only [List.nil_append, List.mem_append]; exact .inl (hL.mem_iff.2 (by simp [hx])))
    · exact h.okS s x (by simp [hx])

theorem setObjW_only {w : World} {b : Nat} (o : Obj) : Only (fun k => k = b) w (setObjW w b o) := (Only.refl _ w).setObj o (fun _ => rfl)

/-- One that is in no heap, taken off the map. -/
theorem InnX.drop {w : World} {I : Inn} {o : One} {pre post : List Ent} {e : Ent} (h : InnX w I [o]) (hes : I.es = pre ++ e :: post) (hei : e.id = o.id) (hev : e.v = ptr o.b) :
    InnX (setObjW w I.bm (.map ((pre ++ post).map Ent.entry).toArray I.clock)) { I with es := pre ++ post } [] := by
  have nd := h.nd
  simp only [List.map_cons, List.map_nil, List.cons_append, List.nil_append, List.nodup_cons] at nd
  have ndI := nd.2
  unfold Inn.blocks at ndI
  simp only [List.nodup_cons, List.mem_cons, List.mem_append, not_or] at ndI
  have hon := setObjW_only (w := w) (b := I.bm) (.map ((pre ++ post).map Ent.entry).toArray I.clock)
  refine ⟨hon.blk h.hd ndI.1.1, setObjW_same h.mp.lt _, fun s => (h.t s).of_only hon (fun b hb hbm => ?_), nd.2, ?_, ?_, ?_, h.hp, ?_, ?_⟩
  · subst hbm
    cases s
    · exact ndI.2.1.1 hb
    · exact ndI.2.1.2 hb
  · have := h.ent
    rw [hes] at this
    have h2 : ((e.id, e.v) :: (pre ++ post).map fun e => (e.id, e.v)).Perm (One.ent o :: I.L.map One.ent) := by
      refine List.Perm.trans ?_ this
      simp only [List.map_append, List.map_cons]
      exact List.perm_middle.symm
    have h3 : (e.id, e.v) = One.ent o := by simp [One.ent, hei, hev]
    rw [h3] at h2
    exact h2.cons_inv
  · intro x hx
    exact h.born x (by rw [hes]; simp only [List.mem_append, List.mem_cons] at hx ⊢; rcases hx with hx | hx <;> simp [hx])
  · have := h.bnd
    rw [hes] at this
    refine List.Nodup.sublist ?_ this
    exact List.Sublist.map _ (List.Sublist.append_left (List.sublist_cons_self _ _) _)
  · have := h.ids
    simp only [List.cons_append, List.nil_append, List.map_cons, List.nodup_cons] at this
    exact this.2
  · intro x hx
    exact h.ok x (by simp at hx; simp; exact .inr hx)

/-- A new one, put into the map. -/
theorem InnX.put {w : World} {I : Inn} {o : One} (h : InnX w I []) (hb : o.b ∉ I.blocks) (hn : ∀ p ∈ I.L, p.id ≠ o.id) (hok : Okr o.r) :
    InnX (setObjW w I.bm (.map ((I.es ++ [({ id := o.id, v := ptr o.b, born := I.clock } : Ent)]).map Ent.entry).toArray (I.clock + 1))) { I with es := I.es ++ [{ id := o.id, v := ptr o.b, born := I.clock }], clock := I.clock + 1 } [o] := by
  have ndI := h.nd
  unfold Inn.blocks at ndI
  simp only [List.map_nil, List.nil_append, List.nodup_cons, List.mem_cons, List.mem_append, not_or] at ndI
  have hon := setObjW_only (w := w) (b := I.bm) (.map ((I.es ++ [({ id := o.id, v := ptr o.b, born := I.clock } : Ent)]).map Ent.entry).toArray (I.clock + 1))
  refine ⟨hon.blk h.hd ndI.1.1, setObjW_same h.mp.lt _, fun s => (h.t s).of_only hon (fun b hb hbm => ?_), ?_, ?_, ?_, ?_, h.hp, ?_, ?_⟩
  · subst hbm
    cases s
    · exact ndI.2.1.1 hb
    · exact ndI.2.1.2 hb
  · simp only [List.map_cons, List.map_nil, List.cons_append, List.nil_append, List.nodup_cons]
    exact ⟨hb, h.nd⟩
  · simp only [List.map_append, List.map_cons, List.map_nil]
    refine List.perm_append_comm.trans ?_
    have := h.ent
    simp only [List.nil_append] at this
    exact this.cons (One.ent o)
  · intro x hx
    rcases List.mem_append.1 hx with hx | hx
    · have := h.born x hx
      show x.born < I.clock + 1
      omega
    · simp only [List.mem_cons, List.not_mem_nil, or_false] at hx
      subst hx
      exact Nat.lt_succ_self _
  · simp only [List.map_append, List.map_cons, List.map_nil]
    refine List.nodup_append.2 ⟨h.bnd, by simp, fun a ha b hb => ?_⟩
    obtain ⟨x, hx, rfl⟩ := List.mem_map.1 ha
    have := h.born x hx
    simp only [List.mem_cons, List.not_mem_nil, or_false] at hb
    omega
  · have := h.ids
    simp only [List.nil_append] at this
    simp only [List.cons_append, List.nil_append, List.map_cons, List.nodup_cons]
    refine ⟨fun hm => ?_, this⟩
    obtain ⟨p, hp, hpi⟩ := List.mem_map.1 hm
    exact hn p hp hpi
  · intro x hx
    simp only [List.cons_append, List.nil_append, List.mem_cons] at hx
    rcases hx with rfl | hx
    · exact hok
    · exact h.ok x hx
end Go.Proofs.YtjchfkpcglpgdaaDoor
