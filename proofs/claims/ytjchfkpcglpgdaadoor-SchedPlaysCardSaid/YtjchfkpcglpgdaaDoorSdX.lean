/-
  The document's scheduler in memory: find, guest, Add, Ran, Sleep.
-/
import Derived.Test.YtjchfkpcglpgdaaDoorSdT
set_option linter.unusedSimpArgs false
set_option linter.unusedVariables false
namespace Go.Proofs.YtjchfkpcglpgdaaDoor
open Go.RowKit Go.Hp

def tcells (r : Rec) : List Value := [.int .i64 r.id, .int .i64 r.weight, .int .i64 r.used, .bool r.sleeps, .int .i64 r.till]
def tflat (l : List Rec) : List Value := l.flatMap tcells
theorem tflat_len (l : List Rec) : (tflat l).length = l.length * 5 := by
  induction l with
  | nil => rfl
  | cons r l ih => simp only [tflat, List.flatMap_cons, List.length_append, List.length_cons] at *; rw [ih]; simp [tcells]; omega
theorem tflat_get : ∀ {l : List Rec} {i : Nat} {r : Rec}, l[i]? = some r → ∀ f : Nat, f < 5 → (tflat l)[i * 5 + f]? = (tcells r)[f]?
  | [], i, r, h, _, _ => by simp at h
  | x :: l, 0, r, h, f, hf => by
    simp at h
    subst h
    simp only [tflat, List.flatMap_cons, Nat.zero_mul, Nat.zero_add]
    rw [List.getElem?_append_left (by simpa [tcells] using hf)]
  | x :: l, i + 1, r, h, f, hf => by
    simp at h
    have := tflat_get h f hf
    simp only [tflat, List.flatMap_cons] at this ⊢
    rw [List.getElem?_append_right (by simp [tcells]; omega)]
    have e : (i + 1) * 5 + f - (tcells x).length = i * 5 + f := by simp [tcells]; omega
    rw [e, this]
theorem tflat_append (a b : List Rec) : tflat (a ++ b) = tflat a ++ tflat b := by simp [tflat]
theorem tflat_set : ∀ {l : List Rec} {i : Nat} {r : Rec} (f : Nat) (v : Value) (r' : Rec), l[i]? = some r → f < 5 → (tcells r).set f v = tcells r' → (tflat l).set (i * 5 + f) v = tflat (l.set i r')
  | [], i, r, _, _, _, h, _, _ => by simp at h
  | x :: l, 0, r, f, v, r', h, hf, he => by
    simp at h
    subst h
    simp only [tflat, List.flatMap_cons, Nat.zero_mul, Nat.zero_add, List.set_cons_zero]
    rw [List.set_append_left _ _ (by simpa [tcells] using hf), he]
  | x :: l, i + 1, r, f, v, r', h, hf, he => by
    simp at h
    have := tflat_set f v r' h hf he
    simp only [tflat, List.flatMap_cons, List.set_cons_succ] at this ⊢
    rw [List.set_append_right _ _ (by simp [tcells]; omega)]
    have e : (i + 1) * 5 + f - (tcells x).length = i * 5 + f := by simp [tcells]; omega
    rw [e, this]

/-- The document's scheduler. -/
def docS (b : Nat) (l : List Rec) : Thing where
  at_ w B := ∃ v arr tail, Blk w b #[v] 47 ∧ Row w 54 5 v l.length (tflat l) arr tail ∧ arr ≠ some b ∧ B = b :: arr.toList
  keep := by
    rintro w w' B F ⟨v, arr, tail, h1, h2, h3, rfl⟩ ho hf
    exact ⟨v, arr, tail, ho.blk h1 (hf _ (by simp)), h2.of_only ho (fun g hg => hf g (by simp [hg])), h3, rfl⟩
  lt := by
    rintro w B ⟨v, arr, tail, h1, h2, h3, rfl⟩ b' hb
    rcases List.mem_cons.1 hb with rfl | hb
    · exact h1.lt
    · exact h2.arr_lt (by simpa using hb)

theorem ty_turnsD : SliceTy Tryd.prog 45 54 5 40 (.agg #[.int .i64 0, .int .i64 0, .int .i64 0, .bool false, .int .i64 0]) := ⟨by kernel_rfl, by kernel_rfl, rfl, by decide⟩

/-- What is read of it. -/
theorem docS_read {w : World} {b : Nat} {l : List Rec} {B : List Nat} (h : (docS b l).at_ w B) : ∃ ao cap, w.cell? ⟨b, 0, none⟩ = some (.slice ao l.length cap) ∧ w.frozen? ⟨b, 0, none⟩ = false ∧
    ∀ (i : Nat) (r : Rec), l[i]? = some r → ∃ g, ao = some ⟨g, 0, none⟩ ∧ g ≠ b ∧ g ∈ B ∧
      w.cell? ⟨g, i * 5, none⟩ = some (.int .i64 r.id) ∧ w.cell? ⟨g, i * 5 + 1, none⟩ = some (.int .i64 r.weight) ∧ w.cell? ⟨g, i * 5 + 2, none⟩ = some (.int .i64 r.used) ∧ w.cell? ⟨g, i * 5 + 3, none⟩ = some (.bool r.sleeps) ∧ w.cell? ⟨g, i * 5 + 4, none⟩ = some (.int .i64 r.till) ∧
      ∀ o, w.frozen? ⟨g, o, none⟩ = false := by
  obtain ⟨v, arr, tail, h1, h2, h3, rfl⟩ := h
  obtain ⟨ao, cap, rfl⟩ := h2.val
  refine ⟨ao, cap, h1.cell_some rfl, h1.free 0, fun i r hi => ?_⟩
  cases arr with
  | none =>
    obtain ⟨h4, h5, h6, h7⟩ := h2
    have := (List.getElem?_eq_some_iff.1 hi).1
    omega
  | some g =>
    obtain ⟨h4, cap', h5, h6, h7⟩ := id h2
    simp only [Value.slice.injEq, true_and] at h5
    refine ⟨g, h5.1, fun e => h3 (by rw [e]), by simp, ?_, ?_, ?_, ?_, ?_, h6.free⟩
    · exact h2.cell (by have := tflat_get hi 0 (by decide); simpa [tcells] using this)
    · exact h2.cell (by have := tflat_get hi 1 (by decide); simpa [tcells] using this)
    · exact h2.cell (by have := tflat_get hi 2 (by decide); simpa [tcells] using this)
    · exact h2.cell (by have := tflat_get hi 3 (by decide); simpa [tcells] using this)
    · exact h2.cell (by have := tflat_get hi 4 (by decide); simpa [tcells] using this)

/-- One cell of one turn stored. -/
theorem docS_store {w : World} {b : Nat} {l : List Rec} {B : List Nat} (h : (docS b l).at_ w B) {i : Nat} {r : Rec} (hi : l[i]? = some r) {ao : Option Addr} {n cap : Nat} (hc : w.cell? ⟨b, 0, none⟩ = some (.slice ao n cap)) {g : Nat} (hg : ao = some ⟨g, 0, none⟩)
    (f : Nat) (v : Value) (r' : Rec) (hf : f < 5) (he : (tcells r).set f v = tcells r') : (docS b (l.set i r')).at_ (w.setCell ⟨g, i * 5 + f, none⟩ v) B ∧ g ∈ B := by
  obtain ⟨v0, arr, tail, h1, h2, h3, rfl⟩ := h
  have hv0 : v0 = .slice ao n cap := by
    have := h1.cell_some (o := 0) (v := v0) rfl
    rw [hc] at this
    exact (Option.some.inj this).symm
  subst hv0
  cases arr with
  | none =>
    obtain ⟨h4, h5, h6, h7⟩ := h2
    have := (List.getElem?_eq_some_iff.1 hi).1
    omega
  | some g' =>
    obtain ⟨h4, cap', h5, h6, h7, h8, h9⟩ := id h2
    simp only [Value.slice.injEq] at h5
    obtain ⟨h5, _, h10⟩ := h5
    rw [hg] at h5
    have hgg : g = g' := by simpa using h5
    subst hgg
    have hlt : i < l.length := (List.getElem?_eq_some_iff.1 hi).1
    refine ⟨⟨_, some g, tail, h1.set_other (a := ⟨g, i * 5 + f, none⟩) (fun e => h3 (by rw [e])) v, ⟨?_, cap', by rw [hg, h10]; simp [*], ?_, ?_, h8, by simpa using h9⟩, h3, rfl⟩, by simp⟩
    · rw [tflat_len]
    · have := h6.set (i * 5 + f) v
      have e : (tflat l ++ tail).toArray.setIfInBounds (i * 5 + f) v = (tflat (l.set i r') ++ tail).toArray := by
        rw [← tflat_set f v r' hi hf he]
        simp only [List.setIfInBounds_toArray]
        rw [List.set_append_left _ _ (by rw [tflat_len]; omega)]
      rw [e] at this
      exact this
    · rw [List.length_append, tflat_len, List.length_set, ← tflat_len, ← List.length_append]
      exact h7

def findI (l : List Rec) (id : Int) : Option Nat := l.findIdx? fun r => decide (r.id = id)
theorem findI_some {l : List Rec} {id : Int} {k : Nat} (h : findI l id = some k) : ∃ r, l[k]? = some r ∧ r.id = id := by
  unfold findI at h
  obtain ⟨hk, h1, h2⟩ := List.findIdx?_eq_some_iff_getElem.1 h
  exact ⟨l[k], List.getElem?_eq_getElem hk, by simpa using h1⟩
theorem findI_none {l : List Rec} {id : Int} (h : findI l id = none) : ∀ r ∈ l, r.id ≠ id := by
  unfold findI at h
  intro r hr
  have := List.findIdx?_eq_none_iff.1 h r hr
  simpa using this
theorem findI_at {l : List Rec} {id : Int} {k : Nat} {r : Rec} (hk : l[k]? = some r) (hr : r.id = id) (hb : ∀ j, j < k → ∀ x, l[j]? = some x → x.id ≠ id) : findI l id = some k := by
  unfold findI
  have hlt : k < l.length := (List.getElem?_eq_some_iff.1 hk).1
  have e : l[k] = r := (List.getElem?_eq_some_iff.1 hk).2
  refine List.findIdx?_eq_some_iff_getElem.2 ⟨hlt, by rw [e]; simpa using hr, fun j hj => ?_⟩
  have := hb j hj l[j] (List.getElem?_eq_getElem (by omega))
  simpa using this

set_option maxRecDepth 100000 in
set_option maxHeartbeats 1000000 in
theorem find_some {w : World} {b : Nat} {l : List Rec} {B : List Nat} (h : (docS b l).at_ w B) (hl : l.length ≤ 8) {id : Int} {k : Nat} (hk : findI l id = some k) :
    Calls Tryd.prog 38 #[.pointer (some ⟨b, 0, none⟩), .int .i64 id] w fun e w' => e = .returned (.int .i64 k) ∧ w = w' := by
  obtain ⟨ao, cap, c0, _, hel⟩ := docS_read h
  obtain ⟨rk, hrk, hrid⟩ := findI_some hk
  have hkl : k < l.length := (List.getElem?_eq_some_iff.1 hrk).1
  have hbe : ∀ j, j < k → ∀ x, l[j]? = some x → x.id ≠ id := fun j hj x hx => by
    unfold findI at hk
    obtain ⟨_, _, h2⟩ := List.findIdx?_eq_some_iff_getElem.1 hk
    have := h2 j hj
    rw [(List.getElem?_eq_some_iff.1 hx).2] at this
    simpa using this
  have HEL := Lib.hid hel
  have HBE := Lib.hid hbe
  have HRK := Lib.hid hrk
  have HRI := Lib.hid hrid
  obtain ⟨n, hn⟩ : ∃ n, Hid (l.length = n) := ⟨_, rfl⟩
  rw [hn.out] at c0 hkl hl
  clear hel hbe hrk hrid hk
  go_enter Tryd.func38, Tryd.ntmps38
  go_wp2
  go_loop [5] (fun i => ∃ j : Nat, i = .int .i64 j ∧ j ≤ k) (fun i => n - (intOf i).toNat)
  case atStart => exact ⟨0, rfl, by omega⟩
  case round =>
    obtain ⟨j, rfl, hj⟩ := hrel
    obtain ⟨r, hr⟩ : ∃ r, l[j]? = some r := ⟨_, List.getElem?_eq_getElem (by rw [hn.out]; omega)⟩
    obtain ⟨g, rfl, _, _, c1, _⟩ := HEL.out j r hr
    by_cases hjk : j = k
    · subst hjk
      obtain rfl := Option.some.inj (hr.symm.trans HRK.out)
      rw [HRI.out] at c1
      go_wp2
      go_ret
      exact ⟨rfl, rfl⟩
    · have hne : (r.id == id) = false := by simpa using HBE.out j (by omega) r hr
      obtain ⟨x, hx⟩ : ∃ x, Hid (r.id = x) := ⟨_, rfl⟩
      rw [hx.out] at hne c1
      clear hr
      go_wp2
      go_round
      case rel => exact ⟨j + 1, by simp, by omega⟩
      case measure => simp [intOf]; omega
set_option maxRecDepth 100000 in
set_option maxHeartbeats 1000000 in
theorem find_none {w : World} {b : Nat} {l : List Rec} {B : List Nat} (h : (docS b l).at_ w B) (hl : l.length ≤ 8) {id : Int} (hk : findI l id = none) :
    Calls Tryd.prog 38 #[.pointer (some ⟨b, 0, none⟩), .int .i64 id] w fun e w' => e = .returned (.int .i64 (-1)) ∧ w = w' := by
  obtain ⟨ao, cap, c0, _, hel⟩ := docS_read h
  have HBE := Lib.hid (findI_none hk)
  have HEL := Lib.hid hel
  obtain ⟨n, hn⟩ : ∃ n, Hid (l.length = n) := ⟨_, rfl⟩
  rw [hn.out] at c0 hl
  clear hel hk
  go_enter Tryd.func38, Tryd.ntmps38
  go_wp2
  go_loop [5] (fun i => ∃ j : Nat, i = .int .i64 j ∧ j ≤ n) (fun i => n - (intOf i).toNat)
  case atStart => exact ⟨0, rfl, by omega⟩
  case round =>
    obtain ⟨j, rfl, hj⟩ := hrel
    by_cases hjn : j < n
    · obtain ⟨r, hr⟩ : ∃ r, l[j]? = some r := ⟨_, List.getElem?_eq_getElem (by rw [hn.out]; omega)⟩
      obtain ⟨g, rfl, _, _, c1, _⟩ := HEL.out j r hr
      have hne : (r.id == id) = false := by simpa using HBE.out r (List.mem_of_getElem? hr)
      obtain ⟨x, hx⟩ : ∃ x, Hid (r.id = x) := ⟨_, rfl⟩
      rw [hx.out] at hne c1
      clear hr
      go_wp2
      go_round
      case rel => exact ⟨j + 1, by simp, by omega⟩
      case measure => simp [intOf]; omega
    · go_wp2
      go_ret
      exact ⟨rfl, rfl⟩
end Go.Proofs.YtjchfkpcglpgdaaDoor
