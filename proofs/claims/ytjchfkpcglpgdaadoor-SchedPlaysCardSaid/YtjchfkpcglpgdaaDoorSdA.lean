/-
  The scheduler's heaps in memory; Len, Less, Swap of them.
-/
import Derived.Test.YtjchfkpcglpgdaaDoorRows
import Derived.Test.YtjchfkpcglpgdaaDoorReg
import Derived.Test.YtjchfkpcglpgdaaDoorHp
import Derived.WalkKit
import Derived.WalkLawsBesides
import Derived.WalkSpells
import Derived.Handy
import Derived.BigGuardPart
set_option linter.unusedSimpArgs false
set_option linter.unusedVariables false
namespace Go.Proofs.YtjchfkpcglpgdaaDoor
open Go.RowKit Go.Hp

/-- Somebody whose turn may come, and the block that holds it. -/
structure One where
  b : Nat
  id : Int
  weight : Int
  used : Int
  sleeps : Bool
  till : Int

def ptr (b : Nat) : Value := .pointer (some ⟨b, 0, none⟩)
def One.cells (o : One) (place : Nat) : Array Value := #[.int .i64 o.id, .int .i64 o.weight, .int .i64 o.used, .bool o.sleeps, .int .i64 o.till, .int .i64 place]
def One.val (o : One) : Value := ptr o.b

/-- A heap in memory: its block, its array's, what lies behind the heap in the array, the heap. -/
structure Turns where
  bt : Nat
  arr : Option Nat
  tail : List Value
  L : List One

def Turns.val (T : Turns) : Value :=
  match T.arr with
  | none => .slice none 0 0
  | some a => .slice (some ⟨a, 0, none⟩) T.L.length (T.L.length + T.tail.length)

def Turns.blocks (T : Turns) : List Nat := T.bt :: (T.arr.toList ++ T.L.map (·.b))

structure TurnsAt (w : World) (T : Turns) : Prop where
  hd : Blk w T.bt #[T.val] 60
  ar : ∀ a, T.arr = some a → Blk w a (T.L.map One.val ++ T.tail).toArray 63
  no : T.arr = none → T.L = [] ∧ T.tail = []
  on : ∀ (i : Nat) (o : One), T.L[i]? = some o → Blk w o.b (o.cells i) 65
  nd : T.blocks.Nodup
  len : T.L.length ≤ 8
  cp : T.L.length + T.tail.length ≤ maxLen

def Turns.fp (T : Turns) : Nat → Prop := fun b => b ∈ T.blocks

theorem TurnsAt.of_only {w w' : World} {T : Turns} {F : Nat → Prop} (h : TurnsAt w T) (ho : Only F w w') (hf : ∀ b ∈ T.blocks, ¬ F b) : TurnsAt w' T :=
  ⟨ho.blk h.hd (hf _ (by simp [Turns.blocks])), fun a ha => ho.blk (h.ar a ha) (hf _ (by simp [Turns.blocks, ha])), h.no,
    fun i o hi => ho.blk (h.on i o hi) (hf _ (by
      have := List.mem_of_getElem? hi
      simp only [Turns.blocks, List.mem_cons, List.mem_append, List.mem_map]
      exact .inr (.inr ⟨o, this, rfl⟩))), h.nd, h.len, h.cp⟩

theorem TurnsAt.drewN {w : World} {T : Turns} (h : TurnsAt w T) (n : Nat) : TurnsAt (w.drewN n) T :=
  ⟨h.hd, h.ar, h.no, h.on, h.nd, h.len, h.cp⟩

theorem TurnsAt.arr_some {w : World} {T : Turns} (h : TurnsAt w T) {i : Nat} {o : One} (hi : T.L[i]? = some o) : ∃ a, T.arr = some a := by
  cases ha : T.arr with
  | some a => exact ⟨a, rfl⟩
  | none => rw [(h.no ha).1] at hi; simp at hi

theorem TurnsAt.c0 {w : World} {T : Turns} (h : TurnsAt w T) : w.cell? ⟨T.bt, 0, none⟩ = some T.val := h.hd.cell_some rfl
theorem TurnsAt.ca {w : World} {T : Turns} (h : TurnsAt w T) {a i : Nat} {o : One} (ha : T.arr = some a) (hi : T.L[i]? = some o) : w.cell? ⟨a, i, none⟩ = some (ptr o.b) := by
  refine (h.ar a ha).cell_some ?_
  have hlt : i < T.L.length := (List.getElem?_eq_some_iff.1 hi).1
  rw [List.getElem?_toArray, List.getElem?_append_left (by simpa using hlt), List.getElem?_map, hi]
  rfl
theorem TurnsAt.ne {w : World} {T : Turns} (h : TurnsAt w T) {a i : Nat} {o : One} (ha : T.arr = some a) (hi : T.L[i]? = some o) : T.bt ≠ a ∧ T.bt ≠ o.b ∧ a ≠ o.b := by
  have hm := List.mem_of_getElem? hi
  have := h.nd
  simp only [Turns.blocks, ha, Option.toList, List.cons_append, List.nil_append, List.nodup_cons, List.mem_cons, List.mem_map, not_or, not_exists, not_and] at this
  exact ⟨this.1.1, fun e => this.1.2 o hm e.symm, fun e => this.2.1 o hm e.symm⟩
theorem TurnsAt.nd_ones {w : World} {T : Turns} (h : TurnsAt w T) : (T.L.map (·.b)).Nodup := by
  have := h.nd
  unfold Turns.blocks at this
  exact (List.nodup_append.1 (List.nodup_cons.1 this).2).2.1
theorem TurnsAt.ne2 {w : World} {T : Turns} (h : TurnsAt w T) {i k : Nat} {o p : One} (hi : T.L[i]? = some o) (hk : T.L[k]? = some p) (hne : i ≠ k) : o.b ≠ p.b := by
  intro e
  have hn := h.nd_ones
  have h1 : i < T.L.length := (List.getElem?_eq_some_iff.1 hi).1
  have h2 : k < T.L.length := (List.getElem?_eq_some_iff.1 hk).1
  have e1 : (T.L.map (·.b))[i]? = some o.b := by simp [hi]
  have e2 : (T.L.map (·.b))[k]? = some o.b := by simp [hk, e]
  exact hne ((List.getElem?_inj (by simpa using h1) hn).1 (e1.trans e2.symm))

theorem len_calls {w : World} {T : Turns} (h : TurnsAt w T) :
    Calls Tryd.prog 35 #[ptr T.bt] w fun e w' => e = .returned (.int .i64 T.L.length) ∧ w = w' := by
  have h0 := h.c0
  unfold Turns.val at h0
  cases ha : T.arr with
  | none =>
    rw [ha] at h0
    simp only at h0
    have hL := (h.no ha).1
    go_enter Tryd.func35, Tryd.ntmps35
    unfold ptr
    go_wp2
    go_ret
    exact ⟨by simp [hL], rfl⟩
  | some a =>
    rw [ha] at h0
    simp only at h0
    go_enter Tryd.func35, Tryd.ntmps35
    unfold ptr
    go_wp2
    go_ret
    exact ⟨rfl, rfl⟩

/-- A Bool that tells whether R, behind draws. -/
def Tells (R : Prop) (w : World) (e : Ending) (w' : World) : Prop := (∃ r, e = .returned (.bool r) ∧ (r = true ↔ R)) ∧ ∃ n, w' = w.drewN n

def lessB (a c : One) : Bool :=
  if a.sleeps then decide (a.till < c.till) || (a.till == c.till && decide (a.id < c.id)) else decide (a.used < c.used) || (a.used == c.used && decide (a.id < c.id))

set_option maxRecDepth 100000 in
set_option maxHeartbeats 1000000 in
theorem less_core (R : Prop) (bt ba bi bk cap n : Nat) (i k : Nat) (ii ik ui uk ti tk : Int) (s : Bool) (w : World) (hi : i < n) (hk : k < n) (_hn : n ≤ 8)
   (h0 : w.cell? ⟨bt, 0, none⟩ = some (.slice (some ⟨ba, 0, none⟩) n cap))
   (hci : w.cell? ⟨ba, i, none⟩ = some (.pointer (some ⟨bi, 0, none⟩)))
   (hck : w.cell? ⟨ba, k, none⟩ = some (.pointer (some ⟨bk, 0, none⟩)))
   (c0 : w.cell? ⟨bi, 0, none⟩ = some (.int .i64 ii)) (c2 : w.cell? ⟨bi, 2, none⟩ = some (.int .i64 ui)) (c3 : w.cell? ⟨bi, 3, none⟩ = some (.bool s)) (c4 : w.cell? ⟨bi, 4, none⟩ = some (.int .i64 ti))
   (d0 : w.cell? ⟨bk, 0, none⟩ = some (.int .i64 ik)) (d2 : w.cell? ⟨bk, 2, none⟩ = some (.int .i64 uk)) (d4 : w.cell? ⟨bk, 4, none⟩ = some (.int .i64 tk))
   (hR : Hid (R ↔ (s = true ∧ (ti < tk ∨ ti = tk ∧ ii < ik) ∨ s = false ∧ (ui < uk ∨ ui = uk ∧ ii < ik)))) :
    Calls Tryd.prog 86 #[.pointer (some ⟨bt, 0, none⟩), .int .i64 i, .int .i64 k] w (Tells R w) := by
  go_enter Tryd.func86, Tryd.ntmps86
  go_wp2_with (first
    | ((with_reducible refine Reg.wp_region_text ?_ ?_ ?_); (kernel_rfl); (kernel_rfl))
    | ((with_reducible refine Reg.text_nil ?_))
    | ((with_reducible refine Reg.text_plain ?_ ?_); (rfl); (intro K hK))
    | ((with_reducible apply Reg.text_nilCheck); (rfl); (intro K hK))
    | ((with_reducible apply Reg.text_bin); (rfl); (rfl); (intro K hK))
    | ((with_reducible refine Reg.text_loud ?_ ?_); (rfl); (intro K hK))
    | ((with_reducible refine Reg.text_skipG ?_ ?_); (rfl); (intro K hK)))
  all_goals go_ret
  all_goals (have hR' := hR.out; clear hR; refine ⟨⟨_, rfl, ?_⟩, by (repeat (first | exact drawn0 _ | apply drawn1 | apply drawnN))⟩; rw [hR'])
  all_goals (clear h0 hci hck c0 c2 c3 c4 d0 d2 d4; cases s <;> first | contradiction | (simp; omega))

theorem less_calls {w : World} {T : Turns} {i k : Nat} {a c : One} (h : TurnsAt w T) (hi : T.L[i]? = some a) (hk : T.L[k]? = some c) :
    Calls Tryd.prog 86 #[ptr T.bt, .int .i64 i, .int .i64 k] w fun e w' => e = .returned (.bool (lessB a c)) ∧ ∃ n, w' = w.drewN n := by
  obtain ⟨ba, ha⟩ := h.arr_some hi
  have h0 := h.c0
  unfold Turns.val at h0
  rw [ha] at h0
  have oi := h.on i a hi
  have ok := h.on k c hk
  refine (less_core _ T.bt ba a.b c.b _ T.L.length i k a.id c.id a.used c.used a.till c.till a.sleeps w (List.getElem?_eq_some_iff.1 hi).1 (List.getElem?_eq_some_iff.1 hk).1 h.len h0 (h.ca ha hi) (h.ca ha hk)
    (oi.cell_some rfl) (oi.cell_some rfl) (oi.cell_some rfl) (oi.cell_some rfl) (ok.cell_some rfl) (ok.cell_some rfl) (ok.cell_some rfl) (show Hid _ from Iff.rfl)).mono ?_
  rintro e w' ⟨⟨r, rfl, hr⟩, hw⟩
  refine ⟨?_, hw⟩
  congr 2
  rw [Bool.eq_iff_iff, hr]
  unfold lessB
  cases a.sleeps <;> simp

set_option maxRecDepth 100000 in
set_option maxHeartbeats 1000000 in
theorem swap_core (bt ba bi bk cap n : Nat) (i k : Nat) (ui uk : Int) (w : World) (hi : i < n) (hk : k < n) (_hn : n ≤ 8) (hik : i ≠ k) (hbi : ba ≠ bi) (hbk : ba ≠ bk) (hb : bi ≠ bk) (hta : bt ≠ ba) (hti : bt ≠ bi) (htk : bt ≠ bk)
   (h0 : w.cell? ⟨bt, 0, none⟩ = some (.slice (some ⟨ba, 0, none⟩) n cap))
   (hci : w.cell? ⟨ba, i, none⟩ = some (.pointer (some ⟨bi, 0, none⟩)))
   (hck : w.cell? ⟨ba, k, none⟩ = some (.pointer (some ⟨bk, 0, none⟩))) (fi : w.frozen? ⟨ba, i, none⟩ = false) (fk : w.frozen? ⟨ba, k, none⟩ = false)
   (c5 : w.cell? ⟨bi, 5, none⟩ = some (.int .i64 ui)) (d5 : w.cell? ⟨bk, 5, none⟩ = some (.int .i64 uk)) (f5 : w.frozen? ⟨bi, 5, none⟩ = false) (g5 : w.frozen? ⟨bk, 5, none⟩ = false) :
    Calls Tryd.prog 89 #[.pointer (some ⟨bt, 0, none⟩), .int .i64 i, .int .i64 k] w fun e w' => e = .returned (.tuple #[]) ∧
     ∃ n, w' = ((((w.setCell ⟨ba, i, none⟩ (.pointer (some ⟨bk, 0, none⟩))).setCell ⟨ba, k, none⟩ (.pointer (some ⟨bi, 0, none⟩))).setCell ⟨bk, 5, none⟩ (.int .i64 i)).setCell ⟨bi, 5, none⟩ (.int .i64 k)).drewN n := by
  go_enter Tryd.func89, Tryd.ntmps89
  go_wp2_with (first
    | ((with_reducible refine Reg.wp_region_text ?_ ?_ ?_); (kernel_rfl); (kernel_rfl))
    | ((with_reducible refine Reg.text_nil ?_))
    | ((with_reducible refine Reg.text_plain ?_ ?_); (rfl); (intro K hK))
    | ((with_reducible apply Reg.text_nilCheck); (rfl); (intro K hK))
    | ((with_reducible apply Reg.text_bin); (rfl); (rfl); (intro K hK))
    | ((with_reducible refine Reg.text_loud ?_ ?_); (rfl); (intro K hK))
    | ((with_reducible refine Reg.text_skipG ?_ ?_); (rfl); (intro K hK)))
  go_end0
  exact ⟨rfl, by (repeat (first | exact drawn0 _ | apply drawn1 | apply drawnN))⟩

/-- Two of a list, exchanged. -/
def swp (L : List One) (i k : Nat) : List One :=
  match L[i]?, L[k]? with
  | some a, some c => (L.set i c).set k a
  | _, _ => L

theorem swp_eq {L : List One} {i k : Nat} {a c : One} (hi : L[i]? = some a) (hk : L[k]? = some c) : swp L i k = (L.set i c).set k a := by
  simp [swp, hi, hk]
theorem swp_length (L : List One) (i k : Nat) : (swp L i k).length = L.length := by
  unfold swp; split <;> simp
theorem swp_get {L : List One} {i k : Nat} {a c : One} (hi : L[i]? = some a) (hk : L[k]? = some c) (j : Nat) :
    (swp L i k)[j]? = if j = k then some a else if j = i then some c else L[j]? := by
  have h1 : i < L.length := (List.getElem?_eq_some_iff.1 hi).1
  have h2 : k < L.length := (List.getElem?_eq_some_iff.1 hk).1
  rw [swp_eq hi hk]
  rw [List.getElem?_set, List.getElem?_set]
  simp only [List.length_set]
  by_cases e1 : k = j
  · subst e1; simp [h2]
  · rw [if_neg e1, if_neg (Ne.symm e1)]
    by_cases e2 : i = j
    · subst e2; simp [h1]
    · rw [if_neg e2, if_neg (Ne.symm e2)]
theorem swp_perm {L : List One} {i k : Nat} : (swp L i k).Perm L := by
  unfold swp
  split
  · rename_i a c hi hk
    obtain ⟨h1, rfl⟩ := List.getElem?_eq_some_iff.1 hi
    obtain ⟨h2, rfl⟩ := List.getElem?_eq_some_iff.1 hk
    exact List.set_set_perm h1 h2
  · exact .refl _
theorem swp_map {β : Type} (f : One → β) {L : List One} {i k : Nat} {a c : One} (hi : L[i]? = some a) (hk : L[k]? = some c) : (swp L i k).map f = ((L.map f).set i (f c)).set k (f a) := by
  rw [swp_eq hi hk, List.map_set, List.map_set]

theorem swap_calls {w : World} {T : Turns} {i k : Nat} (h : TurnsAt w T) (hi : i < T.L.length) (hk : k < T.L.length) (hik : i ≠ k) :
    Calls Tryd.prog 89 #[ptr T.bt, .int .i64 i, .int .i64 k] w fun e w' => e = .returned (.tuple #[]) ∧ TurnsAt w' { T with L := swp T.L i k } ∧ Only T.fp w w' := by
  obtain ⟨a, hi⟩ : ∃ a, T.L[i]? = some a := ⟨_, List.getElem?_eq_getElem hi⟩
  obtain ⟨c, hk⟩ : ∃ c, T.L[k]? = some c := ⟨_, List.getElem?_eq_getElem hk⟩
  obtain ⟨ba, ha⟩ := h.arr_some hi
  have h0 := h.c0
  unfold Turns.val at h0
  rw [ha] at h0
  have oi := h.on i a hi
  have ok := h.on k c hk
  have hA := h.ar ba ha
  obtain ⟨n1, n2, n3⟩ := h.ne ha hi
  obtain ⟨_, n4, n5⟩ := h.ne ha hk
  have n6 := h.ne2 hi hk hik
  have li := (List.getElem?_eq_some_iff.1 hi).1
  have lk := (List.getElem?_eq_some_iff.1 hk).1
  refine (swap_core T.bt ba a.b c.b _ T.L.length i k _ _ w li lk h.len hik n3 n5 n6 n1 n2 n4 h0 (h.ca ha hi) (h.ca ha hk) (hA.free _) (hA.free _)
    (oi.cell_some rfl) (ok.cell_some rfl) (oi.free _) (ok.free _)).mono ?_
  rintro e w' ⟨rfl, n, rfl⟩
  refine ⟨rfl, ?_, ?_⟩
  · have hA1 := ((hA.set i (.pointer (some ⟨c.b, 0, none⟩))).set k (.pointer (some ⟨a.b, 0, none⟩))).set_other (a := ⟨c.b, 5, none⟩) n5 (.int .i64 i) |>.set_other (a := ⟨a.b, 5, none⟩) n3 (.int .i64 k)
    have key : ∀ b, b ≠ ba → b ≠ a.b → b ≠ c.b → ∀ cs t, Blk w b cs t → Blk ((((w.setCell ⟨ba, i, none⟩ (.pointer (some ⟨c.b, 0, none⟩))).setCell ⟨ba, k, none⟩ (.pointer (some ⟨a.b, 0, none⟩))).setCell ⟨c.b, 5, none⟩ (.int .i64 i)).setCell ⟨a.b, 5, none⟩ (.int .i64 k)) b cs t :=
      fun b e1 e2 e3 cs t hb => (((hb.set_other (a := ⟨ba, i, none⟩) e1 _).set_other (a := ⟨ba, k, none⟩) e1 _).set_other (a := ⟨c.b, 5, none⟩) e3 _).set_other (a := ⟨a.b, 5, none⟩) e2 _
    have oc1 : Blk ((((w.setCell ⟨ba, i, none⟩ (.pointer (some ⟨c.b, 0, none⟩))).setCell ⟨ba, k, none⟩ (.pointer (some ⟨a.b, 0, none⟩))).setCell ⟨c.b, 5, none⟩ (.int .i64 i)).setCell ⟨a.b, 5, none⟩ (.int .i64 k)) c.b (c.cells i) 65 :=
      (((ok.set_other (a := ⟨ba, i, none⟩) n5.symm _).set_other (a := ⟨ba, k, none⟩) n5.symm _).set 5 (.int .i64 i)).set_other (a := ⟨a.b, 5, none⟩) n6.symm _
    have oa1 : Blk ((((w.setCell ⟨ba, i, none⟩ (.pointer (some ⟨c.b, 0, none⟩))).setCell ⟨ba, k, none⟩ (.pointer (some ⟨a.b, 0, none⟩))).setCell ⟨c.b, 5, none⟩ (.int .i64 i)).setCell ⟨a.b, 5, none⟩ (.int .i64 k)) a.b (a.cells k) 65 :=
      (((oi.set_other (a := ⟨ba, i, none⟩) n3.symm _).set_other (a := ⟨ba, k, none⟩) n3.symm _).set_other (a := ⟨c.b, 5, none⟩) n6 _).set 5 (.int .i64 k)
    refine (TurnsAt.drewN ?_ n)
    refine ⟨?_, ?_, ?_, ?_, ?_, ?_, ?_⟩
    · have e : ({ T with L := swp T.L i k } : Turns).val = T.val := by simp [Turns.val, swp_length]
      rw [e]
      exact key _ n1 n2 n4 _ _ h.hd
    · intro x hx
      obtain rfl : ba = x := Option.some.inj (ha.symm.trans hx)
      have e : ((swp T.L i k).map One.val ++ T.tail).toArray = ((T.L.map One.val ++ T.tail).toArray.setIfInBounds i (.pointer (some ⟨c.b, 0, none⟩))).setIfInBounds k (.pointer (some ⟨a.b, 0, none⟩)) := by
        rw [swp_map One.val hi hk]
        simp [One.val, ptr, li, lk]
      rw [e]
      exact hA1
    · intro hx; rw [ha] at hx; cases hx
    · intro j o hj
      rw [swp_get hi hk] at hj
      split at hj
      · rename_i e1; subst e1
        obtain rfl := Option.some.inj hj
        exact oa1
      · split at hj
        · rename_i e2; subst e2
          obtain rfl := Option.some.inj hj
          exact oc1
        · rename_i e1 e2
          obtain ⟨_, _, m3⟩ := h.ne ha hj
          exact key _ m3.symm (h.ne2 hj hi e2) (h.ne2 hj hk e1) _ _ (h.on j o hj)
    · have hp : ({ T with L := swp T.L i k } : Turns).blocks.Perm T.blocks := by
        unfold Turns.blocks
        exact ((swp_perm.map _).append_left _).cons _
      exact hp.nodup_iff.2 h.nd
    · simp only [swp_length]; exact h.len
    · simp only [swp_length]; exact h.cp
  · have mi := List.mem_of_getElem? hi
    have mk := List.mem_of_getElem? hk
    have fa : T.fp ba := by simp [Turns.fp, Turns.blocks, ha]
    have fi : T.fp a.b := by simp only [Turns.fp, Turns.blocks, List.mem_cons, List.mem_append, List.mem_map]; exact .inr (.inr ⟨a, mi, rfl⟩)
    have fk : T.fp c.b := by simp only [Turns.fp, Turns.blocks, List.mem_cons, List.mem_append, List.mem_map]; exact .inr (.inr ⟨c, mk, rfl⟩)
    exact (((((Only.refl T.fp w).setCell _ (fun _ => fa)).setCell _ (fun _ => fa)).setCell _ (fun _ => fk)).setCell _ (fun _ => fi)).drewN n
end Go.Proofs.YtjchfkpcglpgdaaDoor
