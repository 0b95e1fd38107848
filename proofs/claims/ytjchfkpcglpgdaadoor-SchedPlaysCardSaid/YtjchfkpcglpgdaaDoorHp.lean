/-
  Helpers over any program: a block known whole; what a call may have touched.
-/
import Derived.WalkKit
import Derived.Deep.Draws
set_option linter.unusedSimpArgs false
set_option linter.unusedVariables false
namespace Go.Hp

/-- Block 'b' holds just these cells, and none is frozen. -/
def Blk (w : World) (b : Nat) (c : Array Value) (t : TypeId) : Prop := w.heap[b]? = some (.cells c t (0, 0))

section
variable {w w' : World} {b : Nat} {c : Array Value} {t : TypeId}
theorem Blk.cell (h : Blk w b c t) (o : Nat) : w.cell? ⟨b, o, none⟩ = c[o]? := by
  unfold Blk at h; simp [World.cell?, h]
theorem Blk.cell_some (h : Blk w b c t) {o : Nat} {v : Value} (hv : c[o]? = some v) : w.cell? ⟨b, o, none⟩ = some v := by rw [h.cell o, hv]
theorem Blk.free (h : Blk w b c t) (o : Nat) : w.frozen? ⟨b, o, none⟩ = false := by
  unfold Blk at h; simp [World.frozen?, h]
theorem Blk.lt (h : Blk w b c t) : b < w.heap.size := by
  unfold Blk at h; exact (Array.getElem?_eq_some_iff.1 h).1
theorem Blk.of_heap (h : Blk w b c t) (e : w'.heap[b]? = w.heap[b]?) : Blk w' b c t := by unfold Blk at *; rw [e, h]
theorem Blk.shape (h : Blk w b c t) : w.shape? b = some (t, c.size) := by unfold Blk at h; simp [World.shape?, h]

theorem heap_setCell_ne (w : World) (a : Addr) (u : Value) {k : Nat} (h : k ≠ a.block) : (w.setCell a u).heap[k]? = w.heap[k]? := Go.RowKit.Below.heap_setCell w a u k h
theorem Blk.set (h : Blk w b c t) (o : Nat) (v : Value) : Blk (w.setCell ⟨b, o, none⟩ v) b (c.setIfInBounds o v) t := by
  unfold Blk at *
  simp [World.setCell, Array.getElem?_modify, h]
theorem Blk.set_other (h : Blk w b c t) {a : Addr} (hne : b ≠ a.block) (v : Value) : Blk (w.setCell a v) b c t := h.of_heap (heap_setCell_ne w a v hne)
theorem Blk.alloc (h : Blk w b c t) (o : Obj) : Blk (w.alloc o) b c t := h.of_heap (Go.RowKit.Below.heap_alloc w o b h.lt)
theorem Blk.drewN (h : Blk w b c t) (n : Nat) : Blk (w.drewN n) b c t := h
theorem Blk.drew (h : Blk w b c t) : Blk w.drew b c t := h
theorem Blk.new (w : World) (c : Array Value) (t : TypeId) : Blk (w.alloc (.cells c t)) w.heap.size c t := by
  show (w.heap.push _)[w.heap.size]? = _
  simp
theorem Blk.unique (h : Blk w b c t) {c' : Array Value} {t' : TypeId} (h' : Blk w b c' t') : c = c' ∧ t = t' := by
  unfold Blk at *; rw [h] at h'; simpa using h'
end

theorem drawn0 (w : World) : ∃ n, w = w.drewN n := ⟨0, rfl⟩
theorem drawn1 {w w' : World} (h : ∃ n, w' = w.drewN n) : ∃ n, w'.drew = w.drewN n := let ⟨n, e⟩ := h; ⟨n + 1, by rw [e]; rfl⟩
theorem drawnN {w w' : World} (h : ∃ n, w' = w.drewN n) (m : Nat) : ∃ n, w'.drewN m = w.drewN n := let ⟨n, e⟩ := h; ⟨n + m, by rw [e]; simp⟩

/-- Nothing but blocks of 'F', and new ones, may have turned. -/
structure Only (F : Nat → Prop) (w w' : World) : Prop where
  os : w'.os = w.os
  tape : w'.tape = w.tape
  output : w'.output = w.output
  size : w.heap.size ≤ w'.heap.size
  block : ∀ k, k < w.heap.size → ¬ F k → w'.heap[k]? = w.heap[k]?

section
variable {F G : Nat → Prop} {w w1 w2 : World}
theorem Only.refl (F : Nat → Prop) (w : World) : Only F w w := ⟨rfl, rfl, rfl, Nat.le_refl _, fun _ _ _ => rfl⟩
theorem Only.trans (h : Only F w w1) (k : Only G w1 w2) (hg : ∀ b, b < w.heap.size → G b → F b) : Only F w w2 :=
  ⟨k.os.trans h.os, k.tape.trans h.tape, k.output.trans h.output, Nat.le_trans h.size k.size,
    fun b hb hn => (k.block b (Nat.lt_of_lt_of_le hb h.size) (fun q => hn (hg b hb q))).trans (h.block b hb hn)⟩
theorem Only.mono (h : Only G w w1) (hg : ∀ b, b < w.heap.size → G b → F b) : Only F w w1 :=
  ⟨h.os, h.tape, h.output, h.size, fun b hb hn => h.block b hb fun q => hn (hg b hb q)⟩
theorem Only.drew (h : Only F w w1) : Only F w w1.drew := ⟨h.os, h.tape, h.output, h.size, h.block⟩
theorem Only.drewN (h : Only F w w1) (n : Nat) : Only F w (w1.drewN n) := ⟨h.os, h.tape, h.output, h.size, h.block⟩
theorem Only.alloc (h : Only F w w1) (o : Obj) : Only F w (w1.alloc o) :=
  ⟨h.os, h.tape, h.output, by have := h.size; simp; omega, fun b hb hn => (Go.RowKit.Below.heap_alloc w1 o b (Nat.lt_of_lt_of_le hb h.size)).trans (h.block b hb hn)⟩
theorem Only.setCell (h : Only F w w1) {a : Addr} (v : Value) (ha : a.block < w.heap.size → F a.block) : Only F w (w1.setCell a v) :=
  ⟨h.os, h.tape, h.output, by have := h.size; simp [World.setCell]; omega, fun b hb hn => (heap_setCell_ne w1 a v (fun e => hn (by rw [e]; exact ha (by rw [← e]; exact hb)))).trans (h.block b hb hn)⟩
theorem Only.blk (h : Only F w w1) {b : Nat} {c : Array Value} {t : TypeId} (hb : Blk w b c t) (hn : ¬ F b) : Blk w1 b c t := hb.of_heap (h.block b hb.lt hn)
theorem Only.below (h : Only F w w1) {B : Nat} (hB : B ≤ w.heap.size) (hF : ∀ b, b < B → ¬ F b) : Go.RowKit.Below B w w1 :=
  ⟨h.os, h.tape, h.output, h.size, fun k hk => h.block k (by omega) (hF k hk)⟩
theorem Only.of_below {B : Nat} (h : Go.RowKit.Below B w w1) (hF : ∀ b, b < w.heap.size → B ≤ b → F b) : Only F w w1 :=
  ⟨h.os, h.tape, h.output, h.size, fun k hk hn => h.block k (Nat.lt_of_not_le fun q => hn (hF k hk q))⟩
end
/-- Nothing that was there has turned. -/
abbrev Ext := Only fun _ => False

/-! ### A slice that owns its array -/

/-- 'v' is a slice of n elements, whose cells are xs; 'arr' its array, which holds 'tail' behind them. -/
def Row (w : World) (e : TypeId) (size : Nat) (v : Value) (n : Nat) (xs : List Value) (arr : Option Nat) (tail : List Value) : Prop :=
  xs.length = n * size ∧ match arr with
    | none => v = .slice none 0 0 ∧ n = 0 ∧ tail = []
    | some g => ∃ cap, v = .slice (some ⟨g, 0, none⟩) n cap ∧ Blk w g (xs ++ tail).toArray e ∧ (xs ++ tail).length = cap * size ∧ cap ≤ maxLen ∧ n ≤ cap

/-- What the program's tables say of a slice's type. -/
structure SliceTy (P : Program) (t e : TypeId) (size bytes : Nat) (z : Value) : Prop where
  und : P.underlying t = some (.slice e)
  info : (P.info? e).map (fun i => (i.zero, i.size, i.bytes)) = some (some z, size, bytes)
  hz : z.cells.size = size
  pos : 0 < size

theorem Row.nil (w : World) (e : TypeId) (size : Nat) : Row w e size (.slice none 0 0) 0 [] none [] := ⟨by simp, rfl, rfl, rfl⟩
theorem Row.of_only {F : Nat → Prop} {w w' : World} {e : TypeId} {size n : Nat} {v : Value} {xs tail : List Value} {arr : Option Nat} (h : Row w e size v n xs arr tail) (ho : Only F w w')
    (hf : ∀ g, arr = some g → ¬ F g) : Row w' e size v n xs arr tail := by
  refine ⟨h.1, ?_⟩
  cases arr with
  | none => exact h.2
  | some g =>
    obtain ⟨cap, h1, h2, h3⟩ := h.2
    exact ⟨cap, h1, ho.blk h2 (hf g rfl), h3⟩
theorem Row.cell {w : World} {e : TypeId} {size n : Nat} {v : Value} {xs tail : List Value} {g : Nat} (h : Row w e size v n xs (some g) tail) {j : Nat} {u : Value} (hu : xs[j]? = some u) : w.cell? ⟨g, j, none⟩ = some u := by
  obtain ⟨cap, h1, h2, h3⟩ := h.2
  refine h2.cell_some ?_
  have hlt : j < xs.length := (List.getElem?_eq_some_iff.1 hu).1
  rw [List.getElem?_toArray, List.getElem?_append_left hlt, hu]

theorem one_new (w : World) (v : Value) (t : TypeId) {b : Nat} (hb : b = w.heap.size) : ∀ j u, [v][j]? = some u → (w.alloc (.cells #[v] t)).cell? ((⟨b, 0, none⟩ : Addr).add j) = some u := by
  subst hb
  intro j u h
  cases j with
  | zero => exact (Blk.new w #[v] t).cell_some (by simpa using h)
  | succ j => simp at h

section append
variable {P : Program}
theorem run_append_row {w : World} {t e ty : TypeId} {size bytes : Nat} {z : Value} (T : SliceTy P t e size bytes z) {v : Value} {n : Nat} {xs tail : List Value} {arr : Option Nat}
    (hown : Row w e size v n xs arr tail) (a : Addr) (m c : Nat) (news : List Value) (hl : news.length = m * size) (hm : 0 < m)
    (hnews : ∀ j u, news[j]? = some u → w.cell? (a.add j) = some u) (h1 : ∀ u ∈ news, u.oneCell' = true) (h63 : n + m ≤ maxLen) (hbytes : (n + m) * bytes ≤ 140737488355328) :
    ∃ v' w' arr' tail', (Builtin.append_ #[t, t] ty #[v, .slice (some a) m c]).run P w = .ok v' w' ∧ Row w' e size v' (n + m) (xs ++ news) arr' tail' ∧
      (arr' = arr ∨ arr' = some w.heap.size) ∧ (∃ g, arr' = some g) ∧ Only (fun b => arr = some b) w w' := by
  obtain ⟨i, hi, hz, hsize, hby⟩ := info_parts T.info
  subst hsize
  subst hby
  have hsmall : n + m ≤ 9223372036854775807 := by simp only [maxLen] at h63; omega
  have hlen : (xs ++ news).length = (n + m) * i.size := by rw [List.length_append, hown.1, hl, Nat.add_mul]
  have grown : ∀ (old : Nat), old < n + m →
      Row (w.drew.alloc (.cells (xs.toArray ++ news.toArray ++ Builtin.zeroCells z.cells (grownCap w (n + m) old e - (n + m))) e)) e i.size
        (.slice (some ⟨w.heap.size, 0, none⟩) (n + m) (grownCap w (n + m) old e)) (n + m) (xs ++ news) (some w.heap.size) (Builtin.zeroCells z.cells (grownCap w (n + m) old e - (n + m))).toList ∧
      Only (fun b => arr = some b) w (w.drew.alloc (.cells (xs.toArray ++ news.toArray ++ Builtin.zeroCells z.cells (grownCap w (n + m) old e - (n + m))) e)) := by
    intro old ho
    have hge := grownCap_ge w (n + m) old e
    have hcm : grownCap w (n + m) old e ≤ maxLen := grownCap_le_maxLen w (n + m) old e h63
    refine ⟨⟨hlen, _, rfl, ?_, ?_, hcm, hge⟩, ((Only.refl _ w).drew).alloc _⟩
    · have := Blk.new w.drew (xs.toArray ++ news.toArray ++ Builtin.zeroCells z.cells (grownCap w (n + m) old e - (n + m))) e
      have e1 : (xs ++ news ++ (Builtin.zeroCells z.cells (grownCap w (n + m) old e - (n + m))).toList).toArray = xs.toArray ++ news.toArray ++ Builtin.zeroCells z.cells (grownCap w (n + m) old e - (n + m)) := by simp
      rw [e1]
      exact this
    · rw [List.length_append, hlen, Array.length_toList, size_zeroCells, T.hz, ← Nat.add_mul]
      congr 1
      omega
  cases arr with
  | none =>
    obtain ⟨hx, rfl, rfl, rfl⟩ := hown
    have hx0 : xs = [] := List.eq_nil_of_length_eq_zero (by simpa using hx)
    subst hx0
    have hr := run_append_nil (P := P) w t ty e i z T.und hi hz a m c news hl hnews hm (by omega) (by have hb := hbytes; simp only [Nat.zero_add] at hb; omega)
    have hgr := grown 0 (by omega)
    simp only [Nat.zero_add, List.nil_append, Array.empty_append] at hgr ⊢
    exact ⟨_, _, _, _, hr, hgr.1, .inr rfl, ⟨_, rfl⟩, hgr.2⟩
  | some g =>
    obtain ⟨hx, cap, rfl, hb, hcap, hcm, hnc⟩ := hown
    by_cases hroom : n + m ≤ cap
    · have hle : n * i.size + m * i.size ≤ cap * i.size := by rw [← Nat.add_mul]; exact Nat.mul_le_mul_right _ hroom
      have hfit : n * i.size + news.length ≤ (xs ++ tail).toArray.size := by rw [hl, List.size_toArray, hcap]; exact hle
      have hr := run_append_room (P := P) w t ty e i T.und hi g n cap _ hb a m c news hl hnews h1 hroom hfit
      refine ⟨_, _, some g, tail.drop news.length, hr, ⟨hlen, cap, rfl, ?_, ?_, hcm, hroom⟩, .inl rfl, ⟨_, rfl⟩, ?_⟩
      · have := setRow_heap w g _ ((xs ++ tail).take (n * i.size) ++ news ++ (xs ++ tail).drop (n * i.size + news.length)).toArray e _ hb
        have e1 : (xs ++ tail).take (n * i.size) ++ news ++ (xs ++ tail).drop (n * i.size + news.length) = xs ++ news ++ tail.drop news.length := by
          rw [← hx, List.take_left, List.drop_append]
          simp
        show Blk (w.setRow g ((xs ++ tail).take (n * i.size) ++ news ++ (xs ++ tail).drop (n * i.size + news.length)).toArray) g _ e
        rw [e1] at this ⊢
        exact this
      · simp only [List.length_append, List.length_drop] at hcap ⊢
        rw [hx] at hcap ⊢
        rw [hl]
        omega
      · refine ⟨rfl, rfl, rfl, by simp [World.setRow], fun k _ hk => setRow_other w g k _ fun e => hk (by rw [e])⟩
    · have holds : ∀ j u, xs[j]? = some u → w.cell? ((⟨g, 0, none⟩ : Addr).add j) = some u := fun j u hu => by
        have hadd : (⟨g, 0, none⟩ : Addr).add j = ⟨g, j, none⟩ := by unfold Addr.add; split <;> simp_all
        rw [hadd]
        exact Row.cell (e := e) (size := i.size) (n := n) (v := .slice (some ⟨g, 0, none⟩) n cap) (tail := tail) ⟨hx, cap, rfl, hb, hcap, hcm, hnc⟩ hu
      have hr := run_append_grow (P := P) w t ty e i z T.und hi hz ⟨g, 0, none⟩ n cap xs hx holds a m c news hl hnews (by omega) (by omega) (growslice_fits (by omega) hbytes)
      have hgr := grown cap (by omega)
      exact ⟨_, _, _, _, hr, hgr.1, .inr rfl, ⟨_, rfl⟩, hgr.2⟩

theorem wpList_append_row {ops : Array Oper} {rest : List Oper} {o : Oper} {a : Act} {w : World} {Q : Exit → Act → World → Prop} {t e : TypeId} {size bytes : Nat} {z : Value} (T : SliceTy P t e size bytes z)
    (hgd : o.guard = none) (s x : Operand) (ho : o.op = .call { callee := .builtin .append, args := #[s, x], argTypes := #[t, t] })
    {v : Value} {n : Nat} {xs tail : List Value} {arr : Option Nat} (hs : a.eval s = v) (hown : Row w e size v n xs arr tail)
    (ad : Addr) (m c : Nat) (news : List Value) (hx : a.eval x = .slice (some ad) m c) (hl : news.length = m * size) (hm : 0 < m) (hnews : ∀ j u, news[j]? = some u → w.cell? (ad.add j) = some u)
    (h1 : ∀ u ∈ news, u.oneCell' = true) (h63 : n + m ≤ maxLen) (hbytes : (n + m) * bytes ≤ 140737488355328)
    (h : ∀ (g' cap' : Nat) (w' : World) (tail' : List Value), Row w' e size (.slice (some ⟨g', 0, none⟩) (n + m) cap') (n + m) (xs ++ news) (some g') tail' → (arr = some g' ∨ g' = w.heap.size) →
      Only (fun b => arr = some b) w w' → wpList P ops Q rest (a.put o.dst (.slice (some ⟨g', 0, none⟩) (n + m) cap')) w') :
    wpList P ops Q (o :: rest) a w := by
  refine wpList_plain hgd fun K hK => ?_
  obtain ⟨v', w', arr', tail', hr, h2, h3, h4, h5⟩ := run_append_row (P := P) (ty := o.type) T hown ad m c news hl hm hnews h1 h63 hbytes
  unfold Oper.wp execOp
  simp only [ho, resolve, invoke, builtin, Sem.run_bind, Sem.run_pure, Result.andThen_ok, List.map_toArray, List.map_cons, List.map_nil, hs, hx, hr]
  obtain ⟨g', rfl⟩ := h4
  obtain ⟨_, cap', rfl, _⟩ := id h2
  exact hK _ _ (h g' cap' w' tail' h2 (h3.imp Eq.symm (fun e => Option.some.inj e)) h5)
end append
end Go.Hp
