/-
  The scheduler in memory.
-/
import Derived.Test.YtjchfkpcglpgdaaDoorSdP
import Derived.Test.YtjchfkpcglpgdaaDoorMp
import Derived.Test.YtjchfkpcglpgdaaDoorRo
set_option linter.unusedSimpArgs false
set_option linter.unusedVariables false
namespace Go.Proofs.YtjchfkpcglpgdaaDoor
open Go.RowKit Go.Hp

/-- Somebody whose turn may come. -/
structure Rec where
  id : Int
  weight : Int
  used : Int
  sleeps : Bool
  till : Int
deriving DecidableEq

def One.r (o : One) : Rec := ⟨o.id, o.weight, o.used, o.sleeps, o.till⟩
def One.ent (o : One) : Int × Value := (o.id, ptr o.b)

structure Okr (r : Rec) : Prop where
  id0 : 0 ≤ r.id
  id8 : r.id < 8
  w1 : 1 ≤ r.weight
  w2 : r.weight ≤ 100
  u1 : 0 ≤ r.used
  u2 : r.used ≤ 1152921504606846976
  t1 : -9223372036854775808 ≤ r.till
  t2 : r.till < 9223372036854775808

structure Inn where
  bs : Nat
  bm : Nat
  clock : Nat
  es : List Ent
  T : Bool → Turns

def Inn.L (I : Inn) : List One := (I.T false).L ++ (I.T true).L
def Inn.blocks (I : Inn) : List Nat := I.bs :: I.bm :: ((I.T false).blocks ++ (I.T true).blocks)
def Inn.cells (I : Inn) : Array Value := #[.map (some I.bm), ptr (I.T false).bt, ptr (I.T true).bt]

/-- 'X': those that the map has and no heap. -/
structure InnX (w : World) (I : Inn) (X : List One) : Prop where
  hd : Blk w I.bs I.cells 62
  mp : MapAt w I.bm I.es I.clock
  t : ∀ s, TurnsAt w (I.T s)
  nd : (X.map (·.b) ++ I.blocks).Nodup
  ent : (I.es.map fun e => (e.id, e.v)).Perm ((X ++ I.L).map One.ent)
  born : ∀ e ∈ I.es, e.born < I.clock
  bnd : (I.es.map (·.born)).Nodup
  hp : ∀ s, Heap s (I.T s).L
  ids : ((X ++ I.L).map (·.id)).Nodup
  ok : ∀ o ∈ X ++ I.L, Okr o.r

def InnAt (w : World) (I : Inn) : Prop := InnX w I []

def SchAt (w : World) (bs : Nat) (B : List Nat) (l : List Rec) : Prop :=
  ∃ I : Inn, I.bs = bs ∧ I.blocks = B ∧ InnAt w I ∧ (I.L.map One.r).Perm l

theorem InnX.of_only {w w' : World} {I : Inn} {X : List One} {F : Nat → Prop} (h : InnX w I X) (ho : Only F w w') (hf : ∀ b ∈ I.blocks, ¬ F b) : InnX w' I X :=
  ⟨ho.blk h.hd (hf _ (by simp [Inn.blocks])), ho.map h.mp (hf _ (by simp [Inn.blocks])),
    fun s => (h.t s).of_only ho (fun b hb => hf b (by cases s <;> simp [Inn.blocks, hb])), h.nd, h.ent, h.born, h.bnd, h.hp, h.ids, h.ok⟩

theorem SchAt.of_only {w w' : World} {bs : Nat} {B : List Nat} {l : List Rec} {F : Nat → Prop} (h : SchAt w bs B l) (ho : Only F w w') (hf : ∀ b ∈ B, ¬ F b) : SchAt w' bs B l := by
  obtain ⟨I, h1, h2, h3, h4⟩ := h
  exact ⟨I, h1, h2, InnX.of_only h3 ho (h2 ▸ hf), h4⟩
theorem SchAt.perm {w : World} {bs : Nat} {B : List Nat} {l l' : List Rec} (h : SchAt w bs B l) (hp : l.Perm l') : SchAt w bs B l' := by
  obtain ⟨I, h1, h2, h3, h4⟩ := h
  exact ⟨I, h1, h2, h3, h4.trans hp⟩
theorem SchAt.lt {w : World} {bs : Nat} {B : List Nat} {l : List Rec} (h : SchAt w bs B l) : bs < w.heap.size := by
  obtain ⟨I, rfl, h2, h3, h4⟩ := h
  exact h3.hd.lt
theorem InnX.idsL {w : World} {I : Inn} {X : List One} (h : InnX w I X) : (I.L.map (·.id)).Nodup := by
  have := h.ids
  rw [List.map_append] at this
  exact (List.nodup_append.1 this).2.1
theorem SchAt.ids {w : World} {bs : Nat} {B : List Nat} {l : List Rec} (h : SchAt w bs B l) : (l.map (·.id)).Nodup := by
  obtain ⟨I, rfl, h2, h3, h4⟩ := h
  have := (h4.map (·.id)).nodup_iff.1
  rw [List.map_map] at this
  exact this (InnX.idsL h3)
theorem SchAt.ok {w : World} {bs : Nat} {B : List Nat} {l : List Rec} (h : SchAt w bs B l) : ∀ r ∈ l, Okr r := by
  obtain ⟨I, rfl, h2, h3, h4⟩ := h
  intro r hr
  obtain ⟨o, ho, rfl⟩ := List.mem_map.1 (h4.mem_iff.2 hr)
  exact InnX.ok h3 o (by simpa using ho)

theorem ints8 : ∀ (n : Nat) (l : List Int), l.Nodup → (∀ x ∈ l, 0 ≤ x ∧ x < n) → l.length ≤ n
  | 0, l, _, h => by
    cases l with
    | nil => simp
    | cons x l => have := h x (by simp); omega
  | n + 1, l, hn, h => by
    have h1 := ints8 n (l.filter (· != (n : Int))) (hn.filter _) (fun x hx => by
      obtain ⟨hx, hne⟩ := List.mem_filter.1 hx
      have := h x hx
      simp at hne
      omega)
    have h2 : l.length ≤ (l.filter (· != (n : Int))).length + 1 := by
      have h3 : (l.filter (· == (n : Int))).length ≤ 1 := by
        rw [← List.countP_eq_length_filter]
        exact List.nodup_iff_count.1 hn n
      have h4 : l.length = (l.filter (· == (n : Int))).length + (l.filter (fun x => !(x == (n : Int)))).length := by
        clear h1 h3 hn h
        induction l with
        | nil => rfl
        | cons x l ih => by_cases hx : (x == (n : Int)) = true <;> simp [hx] at ih ⊢ <;> omega
      have h5 : (l.filter (fun x => !(x == (n : Int)))).length = (l.filter (· != (n : Int))).length := rfl
      omega
    omega

theorem InnX.le8 {w : World} {I : Inn} {X : List One} (h : InnX w I X) : X.length + ((I.T false).L.length + (I.T true).L.length) ≤ 8 := by
  have := ints8 8 ((X ++ I.L).map (·.id)) h.ids (fun x hx => by
    obtain ⟨o, ho, rfl⟩ := List.mem_map.1 hx
    have := h.ok o ho
    exact ⟨this.id0, this.id8⟩)
  simpa [Inn.L] using this
theorem InnX.len8 {w : World} {I : Inn} {X : List One} (h : InnX w I X) (s : Bool) : X.length + (I.T s).L.length ≤ 8 := by
  have := h.le8
  cases s <;> omega

/-- The map's answer. -/
theorem InnX.look_none {w : World} {I : Inn} {X : List One} (h : InnX w I X) {id : Int} (hn : ∀ o ∈ X ++ I.L, o.id ≠ id) : Hp.look I.es id = none := by
  refine Hp.look_none.2 fun e he hid => ?_
  obtain ⟨o, ho, hoe⟩ := List.mem_map.1 (h.ent.mem_iff.1 (List.mem_map.2 ⟨e, he, rfl⟩))
  exact hn o ho ((congrArg Prod.fst hoe).trans hid)
theorem nodup_same {L : List One} (hn : (L.map (·.id)).Nodup) {p o : One} (hp : p ∈ L) (ho : o ∈ L) (hid : p.id = o.id) : p = o := by
  obtain ⟨i, hi, hi2⟩ := List.mem_iff_getElem.1 hp
  obtain ⟨j, hj, hj2⟩ := List.mem_iff_getElem.1 ho
  have : i = j := by
    refine (List.getElem?_inj (by simpa using hi) hn).1 ?_
    simp [List.getElem?_eq_getElem hi, List.getElem?_eq_getElem hj, hi2, hj2, hid]
  subst this
  exact hi2.symm.trans hj2
theorem InnX.look_some {w : World} {I : Inn} {X : List One} (h : InnX w I X) {o : One} (ho : o ∈ X ++ I.L) : ∃ pre e post, I.es = pre ++ e :: post ∧ Hp.look I.es o.id = some e ∧ e.id = o.id ∧ e.v = ptr o.b ∧ ∀ y ∈ pre, y.id ≠ o.id := by
  cases hl : Hp.look I.es o.id with
  | none =>
    exfalso
    obtain ⟨e, he, hoe⟩ := List.mem_map.1 (h.ent.mem_iff.2 (List.mem_map.2 ⟨o, ho, rfl⟩))
    exact Hp.look_none.1 hl e he (congrArg Prod.fst hoe)
  | some e =>
    obtain ⟨he, hid⟩ := look_mem hl
    obtain ⟨p, hp, hpe⟩ := List.mem_map.1 (h.ent.mem_iff.1 (List.mem_map.2 ⟨e, he, rfl⟩))
    have hpid : p.id = o.id := (congrArg Prod.fst hpe).trans hid
    have hpo : p = o := nodup_same h.ids hp ho hpid
    obtain ⟨pre, post, hsp, hpre⟩ := List.append_of_mem he |>.elim fun pre ⟨post, hsp⟩ => by
      exact (⟨pre, post, hsp, fun y hy hyid => by
        have hn : (I.es.map (·.id)).Nodup := by
          have h1 := (h.ent.map Prod.fst).nodup_iff.2
          simp only [List.map_map] at h1
          exact h1 h.ids
        rw [hsp] at hn
        simp only [List.map_append, List.map_cons] at hn
        have := (List.nodup_append.1 hn).2.2 y.id (List.mem_map.2 ⟨y, hy, rfl⟩) e.id (by simp)
        exact this (hyid.trans hid.symm)⟩ : ∃ pre post, I.es = pre ++ e :: post ∧ ∀ y ∈ pre, y.id ≠ o.id)
    refine ⟨pre, e, post, hsp, rfl, hid, ?_, hpre⟩
    rw [← hpo]
    exact (congrArg Prod.snd hpe).symm

theorem Inn.L_perm (I : Inn) (s : Bool) : I.L.Perm ((I.T s).L ++ (I.T (!s)).L) := by
  cases s
  · exact .refl _
  · exact List.perm_append_comm
theorem Inn.blocks_perm (I : Inn) (s : Bool) : I.blocks.Perm (I.bs :: I.bm :: ((I.T s).blocks ++ (I.T (!s)).blocks)) := by
  cases s
  · exact .refl _
  · exact (List.perm_append_comm.cons _).cons _

/-- Where somebody is. -/
theorem InnX.where_ {w : World} {I : Inn} {X : List One} (h : InnX w I X) {o : One} (ho : o ∈ I.L) : ∃ i : Nat, (I.T o.sleeps).L[i]? = some o := by
  have key : ∀ s, o ∈ (I.T s).L → ∃ i : Nat, (I.T o.sleeps).L[i]? = some o := fun s hs => by
    have := (h.hp s).1 o hs
    rw [this]
    exact List.mem_iff_getElem?.1 hs
  rcases List.mem_append.1 ho with h1 | h1
  · exact key _ h1
  · exact key _ h1

/-- Another heap in the place of one. -/
def Inn.upd (I : Inn) (s : Bool) (T' : Turns) (es : List Ent) (clock : Nat) : Inn := { I with T := fun s' => if s' = s then T' else I.T s', es, clock }
theorem Inn.upd_same (I : Inn) (s : Bool) (T' : Turns) (es : List Ent) (clock : Nat) : (I.upd s T' es clock).T s = T' := by simp [Inn.upd]
theorem Inn.upd_other (I : Inn) (s : Bool) (T' : Turns) (es : List Ent) (clock : Nat) : (I.upd s T' es clock).T (!s) = I.T (!s) := by cases s <;> simp [Inn.upd]

theorem ty_all : MapTy Tryd.prog 56 3 63 (.pointer none) := ⟨by kernel_rfl, by kernel_rfl, fun _ => by kernel_rfl⟩

/-- A look-up, in any world that has the map. -/
theorem lookup_at {w : World} {I : Inn} {X : List One} (h : InnX w I X) (id : Int) (v : Value) (hv : (match Hp.look I.es id with | some e => e.v | none => .pointer none) = v) :
    ∀ w' : World, w'.heap[I.bm]? = w.heap[I.bm]? → (Instr.lookup 56 (.map (some I.bm)) (.int .i64 id) false).run Tryd.prog w' = .ok v w' := by
  intro w' hw
  subst hv
  exact run_lookup_ints ty_all (show MapAt w' I.bm I.es I.clock from hw.trans h.mp) id

set_option maxRecDepth 100000 in
set_option maxHeartbeats 1000000 in
theorem used_none_core (bs bm : Nat) (id : Int) (w : World) (h0 : w.cell? ⟨bs, 0, none⟩ = some (.map (some bm)))
    (hlk : ∀ w' : World, w'.heap[bm]? = w.heap[bm]? → (Instr.lookup 56 (.map (some bm)) (.int .i64 id) false).run Tryd.prog w' = .ok (.pointer none) w') :
    Calls Tryd.prog 13 #[.pointer (some ⟨bs, 0, none⟩), .int .i64 id] w fun e w' => e = .returned (.tuple #[.int .i64 0, .bool false]) ∧ ∃ n, w' = w.drewN n := by
  go_enter Tryd.func13, Tryd.ntmps13
  go_wp2_with (first
    | ((with_reducible refine Reg.wp_region_text ?_ ?_ ?_); (kernel_rfl); (kernel_rfl))
    | ((with_reducible refine Reg.text_nil ?_))
    | ((with_reducible refine Reg.text_plain ?_ ?_); (rfl); (intro K hK))
    | ((with_reducible apply Reg.text_nilCheck); (rfl); (intro K hK))
    | ((with_reducible apply Reg.text_bin); (rfl); (rfl); (intro K hK))
    | ((with_reducible refine Reg.text_loud ?_ ?_); (rfl); (intro K hK))
    | ((with_reducible refine Reg.text_skipG ?_ ?_); (rfl); (intro K hK)))
  go_ret2
  exact ⟨rfl, by (repeat (first | exact drawn0 _ | apply drawn1 | apply drawnN))⟩
end Go.Proofs.YtjchfkpcglpgdaaDoor
