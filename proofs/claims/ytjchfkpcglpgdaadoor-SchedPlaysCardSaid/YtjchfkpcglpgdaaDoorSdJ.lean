/-
  The scheduler in memory: contracts of Sleep, Ran, Pick.
-/
import Derived.Test.YtjchfkpcglpgdaaDoorSdI
set_option linter.unusedSimpArgs false
set_option linter.unusedVariables false
namespace Go.Proofs.YtjchfkpcglpgdaaDoor
open Go.RowKit Go.Hp

theorem InnX.removes {w : World} {I : Inn} {s : Bool} {i : Nat} {o : One} (h : InnX w I []) (hi : (I.T s).L[i]? = some o) :
    Calls Tryd.prog 32 #[.iface 57 (.pointer (some ⟨(I.T s).bt, 0, none⟩)), .int .i64 i] w fun e w' => e = .returned (.iface 63 (.pointer (some ⟨o.b, 0, none⟩))) ∧
      Only (I.T s).fp w w' ∧ Blk w' o.b (o.cells ((I.T s).L.length - 1)) 65 ∧
      ∃ I' : Inn, I'.bs = I.bs ∧ I'.bm = I.bm ∧ I'.es = I.es ∧ I'.clock = I.clock ∧ (∀ s', (I'.T s').bt = (I.T s').bt) ∧ InnX w' I' [o] ∧ I.L.Perm (o :: I'.L) ∧ I.blocks.Perm (o.b :: I'.blocks) ∧ Heap s (I'.T s).L ∧ (I.T s).L.Perm (o :: (I'.T s).L) ∧ I'.T (!s) = I.T (!s) := by
  obtain ⟨L', hL', hh, hpm⟩ := heap_rem (h.hp _) hi
  have hlt : i < (I.T s).L.length := (List.getElem?_eq_some_iff.1 hi).1
  refine (hremove_calls (h.t s) hlt rfl hL').mono ?_
  rintro e w2 ⟨rfl, ht2, ho2, hb2⟩
  have hk : L'.length = (I.T s).L.length - 1 := by have := hpm.length_eq; simp at this; omega
  rw [hk] at hb2
  refine ⟨rfl, ho2, hb2, I.upd s { I.T s with L := L', tail := o.val :: (I.T s).tail } I.es I.clock, rfl, rfl, rfl, rfl, ?_, InnX.rem h hpm hh ht2 ho2, ?_, ?_, ?_, ?_, ?_⟩
  · intro s'
    simp only [Inn.upd]
    split
    · rename_i e; subst e; rfl
    · rfl
  · refine (I.L_perm s).trans ((hpm.symm.append_right _).trans ?_)
    exact (Inn.upd_L I s { I.T s with L := L', tail := o.val :: (I.T s).tail } I.es I.clock).symm.cons o
  · refine (I.blocks_perm s).trans ?_
    have hb := Turns.blocks_cons (I.T s) hpm (o.val :: (I.T s).tail)
    refine List.Perm.trans ?_ ((Inn.upd_blocks I s _ _ _).symm.cons o.b)
    refine (((hb.append_right _).cons _).cons _).trans ?_
    exact ((List.Perm.swap _ _ _).cons _).trans (List.Perm.swap _ _ _)
  · rw [Inn.upd_same]; exact hh
  · rw [Inn.upd_same]; exact hpm.symm
  · rw [Inn.upd_other]

theorem InnX.pushes {w : World} {I : Inn} {s : Bool} {o : One} {p : Nat} (h : InnX w I [o]) (hb : Blk w o.b (o.cells p) 65) (hs : o.sleeps = s) :
    Calls Tryd.prog 29 #[.iface 57 (.pointer (some ⟨(I.T s).bt, 0, none⟩)), .iface 63 (.pointer (some ⟨o.b, 0, none⟩))] w fun e w' => e = .returned (.tuple #[]) ∧
      ∃ I' : Inn, I'.bs = I.bs ∧ I'.bm = I.bm ∧ (∀ s', (I'.T s').bt = (I.T s').bt) ∧ InnX w' I' [] ∧ I'.L.Perm (o :: I.L) ∧ (∀ b ∈ I'.blocks, b ∈ I.blocks ∨ b = o.b ∨ w.heap.size ≤ b) ∧ Only (fun b => b ∈ I.blocks ∨ b = o.b) w w' ∧ (I'.T s).L.Perm (o :: (I.T s).L) ∧ I'.T (!s) = I.T (!s) := by
  have nd := h.nd
  simp only [List.map_cons, List.map_nil, List.cons_append, List.nil_append, List.nodup_cons] at nd
  have hl : (I.T s).L.length < 8 := by have := h.len8 s; simp at this; omega
  refine (hpush_calls (h.t s) hb (fun hm => nd.1 (I.in_T s hm)) hl).mono ?_
  rintro e w2 ⟨rfl, T', hbt, hL, ht2, harr, ho2⟩
  have hLp : T'.L.Perm (o :: (I.T s).L) := by
    rw [hL]
    exact (upL_perm _ _ _).trans (List.perm_append_comm)
  refine ⟨rfl, I.upd s T' I.es I.clock, rfl, rfl, ?_, InnX.push h hbt hLp (by rw [hL]; exact heap_push (h.hp s) hs) ht2 harr ho2, ?_, ?_, ?_, ?_, ?_⟩
  · intro s'
    simp only [Inn.upd]
    split
    · rename_i e; subst e; exact hbt
    · rfl
  · refine (Inn.upd_L I s _ _ _).trans ((hLp.append_right _).trans ?_)
    exact ((I.L_perm s).symm.cons o)
  · intro b hb'
    have hb2 := (Inn.upd_blocks _ _ _ _ _).mem_iff.1 hb'
    have key : b ∈ I.blocks ↔ b ∈ (I.bs :: I.bm :: ((I.T s).blocks ++ (I.T (!s)).blocks)) := (I.blocks_perm s).mem_iff
    simp only [key, List.mem_cons, List.mem_append] at hb2 ⊢
    rcases hb2 with hb2 | hb2 | hb2 | hb2
    · exact .inl (.inl hb2)
    · exact .inl (.inr (.inl hb2))
    · simp only [Turns.blocks, List.mem_cons, List.mem_append, Option.mem_toList] at hb2
      rcases hb2 with hb2 | hb2 | hb2
      · exact .inl (.inr (.inr (.inl (by simp [Turns.blocks, hb2, hbt]))))
      · rcases harr with ha | ⟨g, hg, hge⟩
        · rw [ha] at hb2
          exact .inl (.inr (.inr (.inl (by simp [Turns.blocks, hb2]))))
        · rw [hg] at hb2; cases hb2; exact .inr (.inr hge)
      · have := ((hLp.map (·.b)).mem_iff).1 hb2
        rcases List.mem_cons.1 this with hb | hb
        · exact .inr (.inl hb)
        · exact .inl (.inr (.inr (.inl (by simp only [Turns.blocks, List.mem_cons, List.mem_append]; exact .inr (.inr hb)))))
    · exact .inl (.inr (.inr (.inr hb2)))
  · exact ho2.mono (fun b _ hb => hb.imp (I.in_T s) id)
  · rw [Inn.upd_same]; exact hLp
  · rw [Inn.upd_other]

/-- The list with one's record changed. -/
def updR (l : List Rec) (id : Int) (f : Rec → Rec) : List Rec := l.map fun x => if x.id = id then f x else x

theorem perm_upd {L M : List One} {o o' : One} {l : List Rec} {f : Rec → Rec} (hp : (L.map One.r).Perm l) (hL : L.Perm (o :: M)) (hid : (L.map (·.id)).Nodup) (hf : f o.r = o'.r) : ((o' :: M).map One.r).Perm (updR l o.r.id f) := by
  have h1 : (updR l o.r.id f).Perm (((o :: M).map One.r).map fun x => if x.id = o.r.id then f x else x) := (hp.symm.trans (hL.map _)).map _
  refine List.Perm.symm (h1.trans ?_)
  have hn := ((hL.map (·.id)).nodup_iff).1 hid
  simp only [List.map_cons, List.nodup_cons] at hn
  rw [List.map_cons, List.map_cons, List.map_cons, if_pos rfl, hf]
  refine List.Perm.cons _ (List.Perm.of_eq ?_)
  rw [List.map_map]
  refine List.map_congr_left fun p hp => ?_
  simp only [Function.comp]
  rw [if_neg]
  exact fun e => hn.1 (List.mem_map.2 ⟨p, hp, e⟩)

theorem sleep_calls {w : World} {bs : Nat} {B : List Nat} {l : List Rec} (h : SchAt w bs B l) {r : Rec} (hr : r ∈ l) (till : Int) (ht1 : -9223372036854775808 ≤ till) (ht2 : till < 9223372036854775808) :
    Calls Tryd.prog 16 #[ptr bs, .int .i64 r.id, .int .i64 till] w fun e w' => e = .returned .nilIface ∧ Goes bs B (updR l r.id fun x => { x with sleeps := true, till := till }) w w' := by
  obtain ⟨I, o, i, rfl, rfl, hI, hp, ho, rfl, hi⟩ := h.inn hr
  obtain ⟨n1, n2, n3⟩ := hI.notin o.r.sleeps
  have hb := (hI.t _).on i o hi
  refine (sleep_core o.r.sleeps (I.T o.r.sleeps) I.bs I.bm o.b i (I.T false).bt (I.T true).bt ((I.T o.r.sleeps).L.length - 1) o.id o.id o.weight o.used o.till till w
    (fun w2 => ∃ I' : Inn, I'.bs = I.bs ∧ (I'.T true).bt = (I.T true).bt ∧ InnX w2 I' [o] ∧ I.L.Perm (o :: I'.L) ∧ I.blocks.Perm (o.b :: I'.blocks))
    (fun w3 => Goes I.bs I.blocks (updR l o.r.id fun x => { x with sleeps := true, till := till }) w w3)
    n1 hI.hd.lt (hI.hd.cell_some rfl) (hI.hd.cell_some rfl) (hI.hd.cell_some rfl) (hI.lk ho) (hb.cell_some rfl) (hb.cell_some rfl) (I.btS _) (Lib.hid fun n => ((hI.of_only (F := fun _ => False) ((Only.refl _ w).drewN n) (fun _ _ h => h)).removes hi).mono ?_) (Lib.hid ?_)).mono ?_
  · rintro e w' ⟨rfl, ho2, hb2, I', e1, e2, e3, e4, e5, hX, e6, e7, _⟩
    exact ⟨rfl, ((Only.refl _ w).drewN n).trans ho2 (fun _ _ h => h), hb2, I', e1, e5 true, hX, e6, e7⟩
  · rintro w2 ho2 hb2 ⟨I', e1, e2, hX, e3, e4⟩
    have hon : Only (fun b => b = o.b) w2 ((w2.setCell ⟨o.b, 3, none⟩ (.bool true)).setCell ⟨o.b, 4, none⟩ (.int .i64 till)) := ((Only.refl (fun b => b = o.b) w2).setCell (a := ⟨o.b, 3, none⟩) _ (fun _ => rfl)).setCell (a := ⟨o.b, 4, none⟩) _ (fun _ => rfl)
    have hok := hI.ok o (by simpa using ho)
    have hX' := InnX.chg (o' := { o with sleeps := true, till := till }) hX rfl rfl ⟨hok.id0, hok.id8, hok.w1, hok.w2, hok.u1, hok.u2, ht1, ht2⟩ hon
    have hb3 : Blk ((w2.setCell ⟨o.b, 3, none⟩ (.bool true)).setCell ⟨o.b, 4, none⟩ (.int .i64 till)) o.b ({ o with sleeps := true, till := till }.cells ((I.T o.r.sleeps).L.length - 1)) 65 := (hb2.set 3 _).set 4 _
    have hpu := hX'.pushes hb3 (s := true) rfl
    rw [e2] at hpu
    refine hpu.mono ?_
    rintro e w4 ⟨rfl, I'', f1, f2, f3, hY, f4, f5, f6, _⟩
    have hsub : ∀ b, b ∈ I'.blocks ∨ b = o.b → b ∈ I.blocks := fun b hb => by
      refine e4.mem_iff.2 ?_
      simp only [List.mem_cons]
      exact hb.symm
    refine ⟨rfl, ⟨I''.blocks, ⟨I'', f1.trans e1, rfl, hY, ?_⟩, ?_⟩, ?_⟩
    · refine (f4.map _).trans (perm_upd (o' := { o with sleeps := true, till := till }) hp e3 (InnX.idsL hI) rfl)
    · intro b hb
      rcases f5 b hb with hb | hb | hb
      · exact .inl (hsub b (.inl hb))
      · exact .inl (hsub b (.inr hb))
      · have := ho2.size
        have := hon.size
        exact .inr (by omega)
    · refine (ho2.mono (fun b _ hb => I.in_T _ hb)).trans ((hon.mono (fun b _ hb => .inr hb)).trans f6 (fun b _ hb => hb)) (fun b _ hb => hsub b hb)
  · rintro e w' ⟨rfl, w3, n, hg, rfl⟩
    exact ⟨rfl, ⟨hg.at_.imp fun B' hB => ⟨hB.1.of_only (F := fun _ => False) ((Only.refl _ _).drewN n) (fun _ _ h => h), hB.2⟩, hg.only.drewN n⟩⟩

theorem TurnsAt.set_used {w : World} {T : Turns} {i : Nat} {o : One} (h : TurnsAt w T) (hi : T.L[i]? = some o) (u : Int) :
    TurnsAt (w.setCell ⟨o.b, 2, none⟩ (.int .i64 u)) { T with L := T.L.set i { o with used := u } } := by
  obtain ⟨a, ha⟩ := h.arr_some hi
  obtain ⟨n1, n2, n3⟩ := h.ne ha hi
  have hlt : i < T.L.length := (List.getElem?_eq_some_iff.1 hi).1
  have hg : T.L[i] = o := (List.getElem?_eq_some_iff.1 hi).2
  have hmap : ∀ {β : Type} (f : One → β), f { o with used := u } = f o → (T.L.set i { o with used := u }).map f = T.L.map f := fun f hf => by
    rw [List.map_set, hf]
    refine List.ext_getElem (by simp) fun k h1 h2 => ?_
    rw [List.getElem_set]
    split
    · rename_i e; subst e; simp [hg]
    · rfl
  refine ⟨?_, ?_, ?_, ?_, ?_, by simpa using h.len, by simpa using h.cp⟩
  · have e : ({ T with L := T.L.set i { o with used := u } } : Turns).val = T.val := by simp [Turns.val]
    rw [e]
    exact h.hd.set_other (a := ⟨o.b, 2, none⟩) n2 _
  · intro b hb
    obtain rfl : a = b := Option.some.inj (ha.symm.trans hb)
    have := (h.ar a ha).set_other (a := ⟨o.b, 2, none⟩) n3 (.int .i64 u)
    rw [← hmap One.val rfl] at this
    exact this
  · intro hn
    have hn : T.arr = none := hn
    rw [ha] at hn; cases hn
  · intro j p hj
    have hj' : (T.L.set i { o with used := u })[j]? = some p := hj
    clear hj
    rw [List.getElem?_set] at hj'
    by_cases e : i = j
    · rw [if_pos e, if_pos hlt] at hj'
      subst e
      obtain rfl := Option.some.inj hj'
      exact (h.on i o hi).set 2 _
    · rw [if_neg e] at hj'
      exact (h.on j p hj').set_other (a := ⟨o.b, 2, none⟩) (h.ne2 hj' hi (fun e' => e e'.symm)) _
  · have e : ({ T with L := T.L.set i { o with used := u } } : Turns).blocks = T.blocks := by simp only [Turns.blocks, hmap (·.b) rfl]
    rw [e]
    exact h.nd

theorem perm_set {L : List One} {i : Nat} {o o' : One} (hi : L[i]? = some o) : L.Perm (o :: L.eraseIdx i) ∧ (L.set i o').Perm (o' :: L.eraseIdx i) := by
  induction L generalizing i with
  | nil => simp at hi
  | cons x L ih =>
    cases i with
    | zero => simp at hi; subst hi; exact ⟨.refl _, .refl _⟩
    | succ i =>
      simp at hi
      obtain ⟨h1, h2⟩ := ih hi
      exact ⟨(h1.cons x).trans (List.Perm.swap _ _ _), (h2.cons x).trans (List.Perm.swap _ _ _)⟩

def usedBy (r : Rec) (steps : Int) : Int := min (r.used + 100 * steps / r.weight) 1152921504606846976

theorem ran_calls {w : World} {bs : Nat} {B : List Nat} {l : List Rec} (h : SchAt w bs B l) {r : Rec} (hr : r ∈ l) (steps : Int) (hs1 : 0 ≤ steps) (hs2 : steps ≤ 1073741824) :
    Calls Tryd.prog 12 #[ptr bs, .int .i64 r.id, .int .i64 steps] w fun e w' => e = .returned .nilIface ∧ Goes bs B (updR l r.id fun x => { x with used := usedBy x steps }) w w' := by
  obtain ⟨I, o, i, rfl, rfl, hI, hp, ho, rfl, hi⟩ := h.inn hr
  obtain ⟨n1, n2, n3⟩ := hI.notin o.r.sleeps
  have hb := (hI.t _).on i o hi
  have hok := hI.ok o (by simpa using ho)
  have hlt : i < (I.T o.r.sleeps).L.length := (List.getElem?_eq_some_iff.1 hi).1
  have hof : (I.T o.r.sleeps).fp o.b := by
    simp only [Turns.fp, Turns.blocks, List.mem_cons, List.mem_append, List.mem_map]
    exact .inr (.inr ⟨o, List.mem_of_getElem? hi, rfl⟩)
  have hso : I.bs ≠ o.b := fun e => n1 (e ▸ hof)
  refine (ran_core o.r.sleeps (I.T o.r.sleeps) I.bs I.bm o.b i (I.T false).bt (I.T true).bt o.id o.weight o.used steps w
    (fun w3 => Goes I.bs I.blocks (updR l o.r.id fun x => { x with used := usedBy x steps }) w w3) hso
    (hI.hd.cell_some rfl) (hI.hd.cell_some rfl) (hI.hd.cell_some rfl) (hI.lk ho) (hb.cell_some rfl) (hb.cell_some rfl) (hb.cell_some rfl) (hb.cell_some rfl) (hb.free 2) (I.btS _) hok.w1 hok.w2 hok.u1 hok.u2 hs1 hs2
    (Lib.hid fun n => (hfix_calls (((hI.t _).set_used hi _).drewN n) (by simpa using hlt) rfl).mono ?_)).mono ?_
  · rintro e w' ⟨rfl, ht2, ho2⟩
    have hu : usedBy o.r steps = min (o.used + 100 * steps / o.weight) 1152921504606846976 := rfl
    rw [← hu] at ht2 ho2
    obtain ⟨p1, p2⟩ := perm_set (o' := { o with used := usedBy o.r steps }) hi
    have hfp : ∀ b, (({ I.T o.r.sleeps with L := (I.T o.r.sleeps).L.set i { o with used := usedBy o.r steps } } : Turns).fp b) → (I.T o.r.sleeps).fp b := fun b hb => by
      simp only [Turns.fp, Turns.blocks, List.mem_cons, List.mem_append] at hb ⊢
      rcases hb with hb | hb | hb
      · exact .inl hb
      · exact .inr (.inl hb)
      · refine .inr (.inr ?_)
        have := ((p2.map (·.b)).mem_iff).1 hb
        exact ((p1.map (·.b)).mem_iff).2 this
    have hall : Only (I.T o.r.sleeps).fp w w' := (((Only.refl (I.T o.r.sleeps).fp w).setCell (a := ⟨o.b, 2, none⟩) _ (fun _ => hof)).drewN n).trans ho2 (fun b _ hb => hfp b hb)
    have hdv1 : 0 ≤ 100 * steps / o.weight := Int.ediv_nonneg (by omega) (by have := hok.w1; simp only [One.r] at this; omega)
    have hok' : Okr ({ o with used := usedBy o.r steps } : One).r := ⟨hok.id0, hok.id8, hok.w1, hok.w2, by have := hok.u1; simp only [One.r] at this; show 0 ≤ min (o.used + 100 * steps / o.weight) 1152921504606846976; omega, by show min (o.used + 100 * steps / o.weight) 1152921504606846976 ≤ _; omega, hok.t1, hok.t2⟩
    have hh : Heap o.r.sleeps (fixL ((I.T o.r.sleeps).L.set i { o with used := usedBy o.r steps }) i) := heap_fix (o := { o with used := usedBy o.r steps }) (hI.hp _) hlt rfl rfl
    have hX := InnX.fix (T' := { I.T o.r.sleeps with L := fixL ((I.T o.r.sleeps).L.set i { o with used := usedBy o.r steps }) i }) hI rfl rfl p1 ((fixL_perm _ _).trans p2) rfl rfl hok' hh ht2 hall
    refine ⟨rfl, ⟨_, ⟨I.upd o.r.sleeps { I.T o.r.sleeps with L := fixL ((I.T o.r.sleeps).L.set i { o with used := usedBy o.r steps }) i } I.es I.clock, rfl, rfl, hX, ?_⟩, ?_⟩, ?_⟩
    · have h1 : (I.upd o.r.sleeps { I.T o.r.sleeps with L := fixL ((I.T o.r.sleeps).L.set i { o with used := usedBy o.r steps }) i } I.es I.clock).L.Perm ({ o with used := usedBy o.r steps } :: ((I.T o.r.sleeps).L.eraseIdx i ++ (I.T (!o.r.sleeps)).L)) :=
        (Inn.upd_L _ _ _ _ _).trans (((fixL_perm _ _).trans p2).append_right _)
      exact (h1.map _).trans (perm_upd (f := fun x => { x with used := usedBy x steps }) hp ((I.L_perm o.r.sleeps).trans (p1.append_right _)) (InnX.idsL hI) rfl)
    · intro b hb
      refine .inl ?_
      have hb2 := (Inn.upd_blocks _ _ _ _ _).mem_iff.1 hb
      refine (I.blocks_perm o.r.sleeps).mem_iff.2 ?_
      simp only [List.mem_cons, List.mem_append] at hb2 ⊢
      refine hb2.imp id (Or.imp id (Or.imp (fun hb => ?_) id))
      refine hfp b ?_
      exact (fp_perm (T := { I.T o.r.sleeps with L := (I.T o.r.sleeps).L.set i { o with used := usedBy o.r steps } }) (fixL_perm _ _) b).1 hb
    · exact hall.mono (fun b _ hb => I.in_T _ hb)
  · rintro e w' ⟨rfl, w3, n, hg, rfl⟩
    exact ⟨rfl, ⟨hg.at_.imp fun B' hB => ⟨hB.1.of_only (F := fun _ => False) ((Only.refl _ _).drewN n) (fun _ _ h => h), hB.2⟩, hg.only.drewN n⟩⟩

/-- Whose turn it is. -/
theorem pick_calls {w : World} {bs : Nat} {B : List Nat} {l : List Rec} (h : SchAt w bs B l) {r : Rec} (hr : r ∈ l) (hs : r.sleeps = false) (hmin : ∀ x ∈ l, x.sleeps = false → x = r ∨ r.used < x.used ∨ r.used = x.used ∧ r.id < x.id) :
    Calls Tryd.prog 17 #[ptr bs] w (Same w (.tuple #[.int .i64 r.id, .bool true])) := by
  obtain ⟨I, o, i, rfl, rfl, hI, hp, ho, rfl, hi⟩ := h.inn hr
  rw [hs] at hi
  have hlt : i < (I.T false).L.length := (List.getElem?_eq_some_iff.1 hi).1
  have h0 : (I.T false).L[0]? = some (I.T false).L[0] := List.getElem?_eq_getElem (by omega)
  have hle := heap_least (hI.hp false) i hlt
  rw [K_some h0, K_some hi] at hle
  obtain ⟨a, ha⟩ := (hI.t false).arr_some hi
  have hm0 : (I.T false).L[0] ∈ I.L := List.mem_append_left _ (List.getElem_mem _)
  have hq := hmin _ (hp.mem_iff.1 (List.mem_map.2 ⟨_, hm0, rfl⟩)) ((hI.hp false).1 _ (List.getElem_mem _))
  have heq : (I.T false).L[0] = o := by
    rcases hq with hq | hq
    · exact nodup_same (InnX.idsL hI) hm0 ho (congrArg Rec.id hq)
    · exact absurd hq hle
  rw [heq] at h0
  have hc := (hI.t false).c0
  unfold Turns.val at hc
  rw [ha] at hc
  exact pick_some I.bs (I.T false).bt a o.b (I.T false).L.length _ o.id w (by omega) (hI.t false).len (hI.hd.cell_some rfl) hc ((hI.t false).ca ha h0) (((hI.t false).on 0 o h0).cell_some rfl)
theorem pick_no {w : World} {bs : Nat} {B : List Nat} {l : List Rec} (h : SchAt w bs B l) (hn : ∀ r ∈ l, r.sleeps = true) :
    Calls Tryd.prog 17 #[ptr bs] w (Same w (.tuple #[.int .i64 0, .bool false])) := by
  obtain ⟨I, rfl, rfl, hI, hp⟩ := h
  have hI : InnX w I [] := hI
  have hL : (I.T false).L = [] := by
    cases hl : (I.T false).L with
    | nil => rfl
    | cons o L =>
      have hm : o ∈ (I.T false).L := by rw [hl]; simp
      have h1 := (hI.hp false).1 o hm
      have h2 := hn o.r (hp.mem_iff.1 (List.mem_map.2 ⟨o, List.mem_append_left _ hm, rfl⟩))
      have h2 : o.sleeps = true := h2
      rw [h1] at h2; cases h2
  obtain ⟨ao, cap, hv⟩ := Turns.val_slice (hI.t false)
  have hc := (hI.t false).c0
  rw [hv, hL] at hc
  exact pick_none I.bs (I.T false).bt cap ao w (hI.hd.cell_some rfl) hc
end Go.Proofs.YtjchfkpcglpgdaaDoor
