/-
  Helpers over any program: things in memory that own their blocks, side by side; what a call leaves of them.
-/
import Derived.Test.YtjchfkpcglpgdaaDoorHp
import Derived.Lib.Hide
set_option linter.unusedSimpArgs false
set_option linter.unusedVariables false
namespace Go.Hp
open Go.RowKit

/-- Something in memory, in blocks of its own. -/
structure Thing where
  at_ : World → List Nat → Prop
  keep : ∀ {w w' : World} {B : List Nat} {F : Nat → Prop}, at_ w B → Only F w w' → (∀ b ∈ B, ¬ F b) → at_ w' B
  lt : ∀ {w : World} {B : List Nat}, at_ w B → ∀ b ∈ B, b < w.heap.size

/-- Nothing. -/
def nothing : Thing := ⟨fun _ B => B = [], fun h _ _ => h, fun h b hb => by subst h; cases hb⟩

/-- Two things apart. -/
def Thing.sep (P Q : Thing) : Thing where
  at_ w B := ∃ B1 B2, P.at_ w B1 ∧ Q.at_ w B2 ∧ (∀ b ∈ B1, b ∉ B2) ∧ B = B1 ++ B2
  keep := by
    rintro w w' B F ⟨B1, B2, h1, h2, h3, rfl⟩ ho hf
    exact ⟨B1, B2, P.keep h1 ho (fun b hb => hf b (by simp [hb])), Q.keep h2 ho (fun b hb => hf b (by simp [hb])), h3, rfl⟩
  lt := by
    rintro w B ⟨B1, B2, h1, h2, h3, rfl⟩ b hb
    rcases List.mem_append.1 hb with hb | hb
    · exact P.lt h1 b hb
    · exact Q.lt h2 b hb

/-- What a call leaves behind of a thing: another one, in the same blocks, or new ones. -/
structure Lvs (B : List Nat) (Q : Thing) (w w' : World) : Prop where
  at_ : ∃ B', Q.at_ w' B' ∧ ∀ b ∈ B', b ∈ B ∨ w.heap.size ≤ b
  only : Only (fun b => b ∈ B) w w'

theorem Lvs.trans {B : List Nat} {Q : Thing} {w w1 w2 : World} (h : Only (fun b => b ∈ B) w w1) {B1 : List Nat} (hB : ∀ b ∈ B1, b ∈ B ∨ w.heap.size ≤ b) (k : Lvs B1 Q w1 w2) : Lvs B Q w w2 := by
  obtain ⟨⟨B', h1, h2⟩, h3⟩ := k
  refine ⟨⟨B', h1, fun b hb => ?_⟩, h.trans h3 (fun b hlt hb => (hB b hb).elim id (fun hb => by omega))⟩
  rcases h2 b hb with hb | hb
  · exact hB b hb
  · exact .inr (Nat.le_trans h.size hb)
theorem Lvs.ext {B : List Nat} {Q : Thing} {w w1 w2 : World} (k : Lvs B Q w w1) (h : Ext w1 w2) : Lvs B Q w w2 :=
  ⟨k.at_.imp fun _ h1 => ⟨Q.keep h1.1 h (fun _ _ h => h), h1.2⟩, k.only.trans h (fun _ _ h => h.elim)⟩
theorem Lvs.drewN {B : List Nat} {Q : Thing} {w w1 : World} (k : Lvs B Q w w1) (n : Nat) : Lvs B Q w (w1.drewN n) := k.ext ((Only.refl _ _).drewN n)
theorem Lvs.same {B : List Nat} {Q : Thing} {w w1 : World} (h : Q.at_ w B) (he : Ext w w1) : Lvs B Q w w1 :=
  ⟨⟨B, Q.keep h he (fun _ _ h => h), fun _ hb => .inl hb⟩, he.mono (fun _ _ h => h.elim)⟩

/-- Things that a law made behind the world 'w0', of which nothing is written. -/
def Owns (w0 w : World) (P : Thing) : Prop := ∃ B, P.at_ w B ∧ (∀ b ∈ B, w0.heap.size ≤ b) ∧ Ext w0 w

section
variable {w0 w w' : World} {P Q R : Thing}
theorem Owns.start (h : Owns w0 w P) : Ext w0 w := let ⟨_, _, _, h⟩ := h; h
theorem Owns.ext (h : Owns w0 w P) (he : Ext w w') : Owns w0 w' P := by
  obtain ⟨B, h1, h2, h3⟩ := h
  exact ⟨B, P.keep h1 he (fun _ _ h => h), h2, h3.trans he (fun _ _ h => h)⟩
theorem Owns.drewN (h : Owns w0 w P) (n : Nat) : Owns w0 (w.drewN n) P := h.ext ((Only.refl _ w).drewN n)
theorem Owns.begin_ (he : Ext w0 w) : Owns w0 w nothing := ⟨[], rfl, by simp, he⟩
/-- The first of two things, by itself; what comes back when a call has turned it. -/
theorem Owns.open_ (h : Owns w0 w (P.sep R)) : ∃ B, P.at_ w B ∧ (∀ b ∈ B, w0.heap.size ≤ b) ∧ ∀ (w' : World) (Q : Thing), Lvs B Q w w' → Owns w0 w' (Q.sep R) := by
  obtain ⟨B, ⟨B1, B2, h1, h2, h3, rfl⟩, h4, h5⟩ := h
  refine ⟨B1, h1, fun b hb => h4 b (by simp [hb]), fun w' Q hg => ?_⟩
  obtain ⟨⟨B', h6, h7⟩, h8⟩ := hg
  have hR := R.keep h2 h8 (fun b hb hc => h3 b hc hb)
  refine ⟨B' ++ B2, ⟨B', B2, h6, hR, fun b hb hc => ?_, rfl⟩, fun b hb => ?_, h5.trans h8 (fun b hlt hb => ?_)⟩
  · rcases h7 b hb with hb | hb
    · exact h3 b hb hc
    · have := R.lt h2 b hc
      omega
  · rcases List.mem_append.1 hb with hb | hb
    · rcases h7 b hb with hb | hb
      · exact h4 b (by simp [hb])
      · exact Nat.le_trans h5.size hb
    · exact h4 b (by simp [hb])
  · have := h4 b (by simp [hb])
    omega
/-- A thing that is the only one. -/
theorem Owns.open1 (h : Owns w0 w P) : ∃ B, P.at_ w B ∧ (∀ b ∈ B, w0.heap.size ≤ b) ∧ ∀ (w' : World) (Q : Thing), Lvs B Q w w' → Owns w0 w' Q := by
  obtain ⟨B, h1, h4, h5⟩ := h
  refine ⟨B, h1, h4, fun w' Q hg => ?_⟩
  obtain ⟨⟨B', h6, h7⟩, h8⟩ := hg
  refine ⟨B', h6, fun b hb => ?_, h5.trans h8 (fun b hlt hb => ?_)⟩
  · rcases h7 b hb with hb | hb
    · exact h4 b hb
    · exact Nat.le_trans h5.size hb
  · have := h4 b hb
    omega
/-- A new thing beside. -/
theorem Owns.add (h : Owns w0 w R) (he : Ext w w') {B : List Nat} (hQ : Q.at_ w' B) (hB : ∀ b ∈ B, w.heap.size ≤ b) : Owns w0 w' (Q.sep R) := by
  obtain ⟨B2, h1, h2, h3⟩ := h
  refine ⟨B ++ B2, ⟨B, B2, hQ, R.keep h1 he (fun _ _ h => h), fun b hb hc => ?_, rfl⟩, fun b hb => ?_, h3.trans he (fun _ _ h => h)⟩
  · have := R.lt h1 b hc
    have := hB b hb
    omega
  · rcases List.mem_append.1 hb with hb | hb
    · exact Nat.le_trans h3.size (hB b hb)
    · exact h2 b hb
theorem Owns.comm (h : Owns w0 w (P.sep Q)) : Owns w0 w (Q.sep P) := by
  obtain ⟨B, ⟨B1, B2, h1, h2, h3, rfl⟩, h4, h5⟩ := h
  exact ⟨B2 ++ B1, ⟨B2, B1, h2, h1, fun b hb hc => h3 b hc hb, rfl⟩, fun b hb => h4 b (by simp at hb ⊢; exact hb.symm), h5⟩
/-- The second of three, ahead. -/
theorem Owns.swap (h : Owns w0 w (P.sep (Q.sep R))) : Owns w0 w (Q.sep (P.sep R)) := by
  obtain ⟨B, ⟨B1, _, h1, ⟨B2, B3, h2, h6, h7, rfl⟩, h3, rfl⟩, h4, h5⟩ := h
  refine ⟨B2 ++ (B1 ++ B3), ⟨B2, B1 ++ B3, h2, ⟨B1, B3, h1, h6, fun b hb hc => h3 b hb (by simp [hc]), rfl⟩, fun b hb hc => ?_, rfl⟩, fun b hb => h4 b (by simp at hb ⊢; rcases hb with h | h | h <;> simp [h]), h5⟩
  rcases List.mem_append.1 hc with hc | hc
  · exact h3 b hc (by simp [hb])
  · exact h7 b hb hc
/-- The first of two, forgotten. -/
theorem Owns.drop (h : Owns w0 w (P.sep Q)) : Owns w0 w Q := by
  obtain ⟨B, ⟨B1, B2, h1, h2, h3, rfl⟩, h4, h5⟩ := h
  exact ⟨B2, h2, fun b hb => h4 b (by simp [hb]), h5⟩
theorem Owns.mono (h : Owns w0 w P) (hPQ : ∀ B, P.at_ w B → Q.at_ w B) : Owns w0 w Q := by
  obtain ⟨B, h1, h4, h5⟩ := h
  exact ⟨B, hPQ B h1, h4, h5⟩
/-- A new start: what is owned may be forgotten. -/
theorem Owns.cell (h : Owns w0 w P) {g : Nat} {v : Value} (hc : w0.cell? ⟨g, 0, none⟩ = some v) : w.cell? ⟨g, 0, none⟩ = some v := by
  have hlt : g < w0.heap.size := by
    rcases Nat.lt_or_ge g w0.heap.size with h' | h'
    · exact h'
    · simp [World.cell?, Array.getElem?_eq_none h'] at hc
  exact (World.cell?_of_block (a := ⟨g, 0, none⟩) (h.start.block g hlt (fun h => h))).trans hc
end

theorem Row.val {w : World} {e : TypeId} {size n : Nat} {v : Value} {xs tail : List Value} {arr : Option Nat} (h : Row w e size v n xs arr tail) : ∃ ao cap, v = .slice ao n cap := by
  cases arr with
  | none => exact ⟨Option.none, 0, by obtain ⟨_, h2, h3, _⟩ := h; rw [h2, h3]⟩
  | some g => obtain ⟨cap, h2, _⟩ := h.2; exact ⟨_, _, h2⟩
theorem Row.arr_lt {w : World} {e : TypeId} {size n : Nat} {v : Value} {xs tail : List Value} {arr : Option Nat} (h : Row w e size v n xs arr tail) {g : Nat} (hg : arr = some g) : g < w.heap.size := by
  subst hg
  obtain ⟨cap, _, h2, _⟩ := h.2
  exact h2.lt

/-- A slice of integers that reads as the list, in a block of its own. -/
def intsT (e : TypeId) (v : Value) (l : List Int) : Thing where
  at_ w B := ∃ arr tail, Row w e 1 v l.length (l.map (Value.int .i64)) arr tail ∧ B = arr.toList
  keep := by
    rintro w w' B F ⟨arr, tail, h1, rfl⟩ ho hf
    exact ⟨arr, tail, h1.of_only ho (fun g hg => hf g (by simp [hg])), rfl⟩
  lt := by
    rintro w B ⟨arr, tail, h1, rfl⟩ b hb
    cases arr with
    | none => cases hb
    | some g =>
      obtain ⟨cap, _, h2, _⟩ := h1.2
      simp at hb
      subst hb
      exact h2.lt

theorem ints_nil (w : World) (e : TypeId) : (intsT e (.slice none 0 0) []).at_ w [] := ⟨none, [], Row.nil w e 1, rfl⟩

/-- A slice of integers as it reads, wherever it lies. -/
def IntsAt (w : World) (v : Value) (l : List Int) : Prop :=
  ∃ ao cap, v = .slice ao l.length cap ∧ (l = [] ∨ ∃ b off, ao = some ⟨b, off, none⟩ ∧ ∀ (i : Nat) (x : Int), l[i]? = some x → w.cell? ⟨b, off + i, none⟩ = some (.int .i64 x))

theorem intsT_at {e : TypeId} {v : Value} {l : List Int} {w : World} {B : List Nat} (h : (intsT e v l).at_ w B) : IntsAt w v l := by
  obtain ⟨arr, tail, h1, rfl⟩ := h
  cases arr with
  | none =>
    obtain ⟨h2, h3, h4, h5⟩ := h1
    have : l = [] := List.length_eq_zero_iff.1 h4
    subst this
    exact ⟨none, 0, h3, .inl rfl⟩
  | some g =>
    have h2 := h1.2
    obtain ⟨cap, h3, _⟩ := h2
    refine ⟨_, cap, h3, .inr ⟨g, 0, rfl, fun i x hi => ?_⟩⟩
    rw [Nat.zero_add]
    exact h1.cell (by simp [hi])
theorem IntsAt.drewN {w : World} {v : Value} {l : List Int} (h : IntsAt w v l) (n : Nat) : IntsAt (w.drewN n) v l := h
theorem IntsAt.ext {w w' : World} {v : Value} {l : List Int} (h : IntsAt w v l) (he : Ext w w') : IntsAt w' v l := by
  obtain ⟨ao, cap, h1, h2⟩ := h
  refine ⟨ao, cap, h1, h2.imp id ?_⟩
  rintro ⟨b, off, h3, h4⟩
  refine ⟨b, off, h3, fun i x hi => ?_⟩
  have hc := h4 i x hi
  have hlt : b < w.heap.size := by
    rcases Nat.lt_or_ge b w.heap.size with h' | h'
    · exact h'
    · simp [World.cell?, Array.getElem?_eq_none h'] at hc
  exact (World.cell?_of_block (a := ⟨b, off + i, none⟩) (he.block b hlt (fun h => h))).trans hc
theorem IntsAt.len {w : World} {v : Value} {l : List Int} (h : IntsAt w v l) : ∃ ao cap, v = .slice ao l.length cap := by
  obtain ⟨ao, cap, h1, _⟩ := h
  exact ⟨ao, cap, h1⟩
end Go.Hp
namespace Go.Hp
open Go.RowKit
/-- The same things, in another order. -/
def Thing.Eqv (P Q : Thing) : Prop := ∀ (w : World) (B : List Nat), P.at_ w B → ∃ B', Q.at_ w B' ∧ ∀ b, b ∈ B' ↔ b ∈ B
theorem Thing.Eqv.swap (P Q R : Thing) : (P.sep (Q.sep R)).Eqv (Q.sep (P.sep R)) := by
  rintro w B ⟨B1, _, h1, ⟨B2, B3, h2, h6, h7, rfl⟩, h3, rfl⟩
  refine ⟨B2 ++ (B1 ++ B3), ⟨B2, B1 ++ B3, h2, ⟨B1, B3, h1, h6, fun b hb hc => h3 b hb (by simp [hc]), rfl⟩, fun b hb hc => ?_, rfl⟩, fun b => ?_⟩
  · rcases List.mem_append.1 hc with hc | hc
    · exact h3 b hc (by simp [hb])
    · exact h7 b hb hc
  · simp only [List.mem_append]
    constructor <;> (intro h; rcases h with h | h | h <;> simp [h])
theorem Thing.Eqv.right (P : Thing) {Q R : Thing} (h : Q.Eqv R) : (P.sep Q).Eqv (P.sep R) := by
  rintro w B ⟨B1, B2, h1, h2, h3, rfl⟩
  obtain ⟨B', h4, h5⟩ := h w B2 h2
  exact ⟨B1 ++ B', ⟨B1, B', h1, h4, fun b hb hc => h3 b hb ((h5 b).1 hc), rfl⟩, fun b => by simp [h5]⟩
theorem Thing.Eqv.trans {P Q R : Thing} (h : P.Eqv Q) (k : Q.Eqv R) : P.Eqv R := fun w B hp => by
  obtain ⟨B1, h1, h2⟩ := h w B hp
  obtain ⟨B2, h3, h4⟩ := k w B1 h1
  exact ⟨B2, h3, fun b => (h4 b).trans (h2 b)⟩
theorem Thing.Eqv.refl (P : Thing) : P.Eqv P := fun _ B h => ⟨B, h, fun _ => Iff.rfl⟩
theorem Owns.eqv {w0 w : World} {P Q : Thing} (h : Owns w0 w P) (k : P.Eqv Q) : Owns w0 w Q := by
  obtain ⟨B, h1, h2, h3⟩ := h
  obtain ⟨B', h4, h5⟩ := k w B h1
  exact ⟨B', h4, fun b hb => h2 b ((h5 b).1 hb), h3⟩
/-- The third, ahead; the fourth, ahead. -/
theorem Owns.third {w0 w : World} {P Q R S : Thing} (h : Owns w0 w (P.sep (Q.sep (R.sep S)))) : Owns w0 w (R.sep (P.sep (Q.sep S))) :=
  h.eqv (((Thing.Eqv.swap Q R S).right P).trans (Thing.Eqv.swap P R _))
theorem Owns.fourth {w0 w : World} {P Q R S T : Thing} (h : Owns w0 w (P.sep (Q.sep (R.sep (S.sep T))))) : Owns w0 w (S.sep (P.sep (Q.sep (R.sep T)))) :=
  h.eqv (((((Thing.Eqv.swap R S T).right Q).trans (Thing.Eqv.swap Q S _)).right P).trans (Thing.Eqv.swap P S _))
theorem Owns.fifth {w0 w : World} {P Q R S T U : Thing} (h : Owns w0 w (P.sep (Q.sep (R.sep (S.sep (T.sep U)))))) : Owns w0 w (T.sep (P.sep (Q.sep (R.sep (S.sep U))))) :=
  h.eqv (((((((Thing.Eqv.swap S T U).right R).trans (Thing.Eqv.swap R T _)).right Q).trans (Thing.Eqv.swap Q T _)).right P).trans (Thing.Eqv.swap P T _))
end Go.Hp
