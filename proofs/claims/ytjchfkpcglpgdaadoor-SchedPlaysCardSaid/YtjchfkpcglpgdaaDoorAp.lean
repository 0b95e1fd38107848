/-
  Helpers over any program: an append of any number of elements, none too, to a slice of the call's own.
-/
import Derived.Test.YtjchfkpcglpgdaaDoorSp
import Derived.Laws.MakeOwn
import Derived.Laws.OwnMore
set_option linter.unusedSimpArgs false
set_option linter.unusedVariables false
namespace Go.Hp
open Go.RowKit

section
variable {P : Program}
theorem run_append_zero {w : World} {t e ty : TypeId} {size bytes : Nat} {z : Value} (T : SliceTy P t e size bytes z) {base : Option Addr} {n cap : Nat} (hn : n ≤ cap) (x : Option Addr) (c : Nat) :
    (Builtin.append_ #[t, t] ty #[.slice base n cap, .slice x 0 c]).run P w = .ok (.slice base n cap) w := by
  obtain ⟨i, hi, hz, hsize, hby⟩ := info_parts T.info
  have hf : (Builtin.firstCells i.size 0 (.slice x 0 c)).run P w = .ok #[] w := by
    cases x with
    | none => rfl
    | some a => exact run_firstCells_some (P := P) w i.size 0 a 0 c [] (by simp) (by simp)
  cases base with
  | none => simp [Builtin.append_, run_underlying T.und, sizeOf, typeInfo, hi, Builtin.lenOf, hn, hf]
  | some b => simp [Builtin.append_, run_underlying T.und, sizeOf, typeInfo, hi, Builtin.lenOf, hn, hf, storeCells]

theorem run_append_any {w : World} {t e ty : TypeId} {size bytes : Nat} {z : Value} (T : SliceTy P t e size bytes z) {v : Value} {n : Nat} {xs tail : List Value} {arr : Option Nat}
    (hown : Row w e size v n xs arr tail) (x : Option Addr) (m c : Nat) (news : List Value) (hl : news.length = m * size)
    (hnews : 0 < m → ∃ a, x = some a ∧ ∀ j u, news[j]? = some u → w.cell? (a.add j) = some u) (h1 : ∀ u ∈ news, u.oneCell' = true) (h63 : n + m ≤ maxLen) (hbytes : (n + m) * bytes ≤ 140737488355328) :
    ∃ v' w' arr' tail', (Builtin.append_ #[t, t] ty #[v, .slice x m c]).run P w = .ok v' w' ∧ Row w' e size v' (n + m) (xs ++ news) arr' tail' ∧
      (arr' = arr ∨ arr' = some w.heap.size) ∧ Only (fun b => arr = some b) w w' := by
  by_cases hm : 0 < m
  · obtain ⟨a, rfl, hc⟩ := hnews hm
    obtain ⟨v', w', arr', tail', h2, h3, h4, _, h5⟩ := run_append_row (P := P) (ty := ty) T hown a m c news hl hm hc h1 h63 hbytes
    exact ⟨v', w', arr', tail', h2, h3, h4, h5⟩
  · obtain rfl : m = 0 := by omega
    obtain rfl : news = [] := List.length_eq_zero_iff.1 (by simpa using hl)
    obtain ⟨base, cap, rfl⟩ := hown.val
    have hnc : n ≤ cap := by
      cases arr with
      | none =>
        obtain ⟨_, h, h2, _⟩ := hown
        omega
      | some g =>
        obtain ⟨_, cap', h, _, _, _, h2⟩ := hown
        simp only [Value.slice.injEq, true_and] at h
        omega
    exact ⟨_, w, arr, tail, run_append_zero (ty := ty) T hnc x c, by simpa using hown, .inl rfl, Only.refl _ _⟩

theorem wpList_append_any {ops : Array Oper} {rest : List Oper} {o : Oper} {a : Act} {w : World} {Q : Exit → Act → World → Prop} {t e : TypeId} {size bytes : Nat} {z : Value} (T : SliceTy P t e size bytes z)
    (hgd : o.guard = none) (s x : Operand) (ho : o.op = .call { callee := .builtin .append, args := #[s, x], argTypes := #[t, t] })
    {v : Value} {n : Nat} {xs tail : List Value} {arr : Option Nat} (hs : a.eval s = v) (hown : Row w e size v n xs arr tail)
    (ad : Option Addr) (m c : Nat) (news : List Value) (hx : a.eval x = .slice ad m c) (hl : news.length = m * size) (hnews : 0 < m → ∃ a, ad = some a ∧ ∀ j u, news[j]? = some u → w.cell? (a.add j) = some u)
    (h1 : ∀ u ∈ news, u.oneCell' = true) (h63 : n + m ≤ maxLen) (hbytes : (n + m) * bytes ≤ 140737488355328)
    (h : ∀ (base' : Option Addr) (cap' : Nat) (w' : World) (arr' : Option Nat) (tail' : List Value), Row w' e size (.slice base' (n + m) cap') (n + m) (xs ++ news) arr' tail' → (arr' = arr ∨ arr' = some w.heap.size) →
      Only (fun b => arr = some b) w w' → wpList P ops Q rest (a.put o.dst (.slice base' (n + m) cap')) w') :
    wpList P ops Q (o :: rest) a w := by
  refine wpList_plain hgd fun K hK => ?_
  obtain ⟨v', w', arr', tail', hr, h2, h3, h5⟩ := run_append_any (P := P) (ty := o.type) T hown ad m c news hl hnews h1 h63 hbytes
  unfold Oper.wp execOp
  simp only [ho, resolve, invoke, builtin, Sem.run_bind, Sem.run_pure, Result.andThen_ok, List.map_toArray, List.map_cons, List.map_nil, hs, hx, hr]
  obtain ⟨base', cap', rfl⟩ := h2.val
  exact hK _ _ (h base' cap' w' arr' tail' h2 h3 h5)

/-- A slice of no elements of a block of its own. -/
theorem row_empty (w : World) (e : TypeId) (size : Nat) : Row (w.alloc (.cells #[] e)) e size (.slice (some ⟨w.heap.size, 0, none⟩) 0 0) 0 [] (some w.heap.size) [] :=
  ⟨by simp, 0, rfl, Blk.new w #[] e, by simp, by unfold maxLen; omega, Nat.le_refl _⟩

/-! ### make -/
theorem run_make_cells {w : World} {t e : TypeId} {size bytes : Nat} {z : Value} (T : SliceTy P t e size bytes z) (l n : Nat) (hln : l ≤ n) (hb : bytes * n ≤ 281474976710656) (h63 : n ≤ maxLen) :
    (Instr.makeSlice t (.int .i64 (l : Int)) (.int .i64 (n : Int))).run P w = .ok (.slice (some ⟨w.heap.size, 0, none⟩) l n) (w.alloc (.cells (madeCells z.cells (n * size)) e)) := by
  obtain ⟨i, hi, hz, hsize, hby⟩ := info_parts T.info
  subst hsize
  subst hby
  have hb' : (i.bytes : Int) * (n : Int) ≤ 281474976710656 := by
    have h : ((i.bytes * n : Nat) : Int) ≤ 281474976710656 := by omega
    rwa [Int.natCast_mul] at h
  have := run_make (P := P) w t e i z T.und hi hz .i64 .i64 l n (by omega) (by omega) hb' (by unfold maxLen at h63; omega)
  rw [Int.toNat_natCast, Int.toNat_natCast] at this
  exact this
theorem run_make_one {w : World} {t e : TypeId} {bytes : Nat} {z : Value} (T : SliceTy P t e 1 bytes z) (hz : z.cells = #[z]) (l n : Nat) (hln : l ≤ n) (hb : bytes * n ≤ 281474976710656) (h63 : n ≤ maxLen) :
    (Instr.makeSlice t (.int .i64 (l : Int)) (.int .i64 (n : Int))).run P w = .ok (.slice (some ⟨w.heap.size, 0, none⟩) l n) (w.alloc (.cells (List.replicate n z).toArray e)) := by
  have := run_make_cells (w := w) T l n hln hb h63
  rw [Nat.mul_one, hz] at this
  rw [this]
  congr 3
  rw [← toList_madeCells_one]
theorem row_make {w : World} {e : TypeId} {z : Value} (l n : Nat) (hln : l ≤ n) (h63 : n ≤ maxLen) :
    Row (w.alloc (.cells (List.replicate n z).toArray e)) e 1 (.slice (some ⟨w.heap.size, 0, none⟩) l n) l (List.replicate l z) (some w.heap.size) (List.replicate (n - l) z) := by
  refine ⟨by simp, n, rfl, ?_, by simp; omega, h63, hln⟩
  rw [List.replicate_append_replicate, show l + (n - l) = n by omega]
  exact Blk.new w _ _
end
end Go.Hp
