/-
  Heaps as lists: what up, down, Fix, Remove leave is a heap again. Nothing of the program's text.
-/
import Derived.Test.YtjchfkpcglpgdaaDoorSdD
set_option linter.unusedSimpArgs false
set_option linter.unusedVariables false
namespace Go.Proofs.YtjchfkpcglpgdaaDoor

def keyOf (s : Bool) (o : One) : Int × Int := (if s then o.till else o.used, o.id)
def ltk (a b : Int × Int) : Prop := a.1 < b.1 ∨ a.1 = b.1 ∧ a.2 < b.2
def K (s : Bool) (L : List One) (k : Nat) : Int × Int := match L[k]? with | some o => keyOf s o | none => (0, 0)
def Flag (s : Bool) (L : List One) : Prop := ∀ o ∈ L, o.sleeps = s

theorem lessB_iff {s : Bool} {a c : One} (h : a.sleeps = s) : lessB a c = true ↔ ltk (keyOf s a) (keyOf s c) := by
  subst h
  unfold lessB ltk keyOf
  cases a.sleeps <;> simp

theorem K_some {s : Bool} {L : List One} {k : Nat} {o : One} (h : L[k]? = some o) : K s L k = keyOf s o := by unfold K; rw [h]

theorem lessAt_iff {s : Bool} {L : List One} (hs : Flag s L) {j i : Nat} (hj : j < L.length) (hi : i < L.length) : lessAt L j i = true ↔ ltk (K s L j) (K s L i) := by
  have h1 : L[j]? = some L[j] := List.getElem?_eq_getElem hj
  have h2 : L[i]? = some L[i] := List.getElem?_eq_getElem hi
  unfold lessAt
  rw [K_some h1, K_some h2, h1, h2]
  exact lessB_iff (hs _ (List.getElem_mem hj))

theorem lessAt_false {s : Bool} {L : List One} (hs : Flag s L) {j i : Nat} (hj : j < L.length) (hi : i < L.length) : lessAt L j i = false ↔ ¬ ltk (K s L j) (K s L i) := by
  rw [← lessAt_iff hs hj hi]; simp

theorem K_swp (s : Bool) {L : List One} {i k : Nat} (hi : i < L.length) (hk : k < L.length) (j : Nat) :
    K s (swp L i k) j = if j = k then K s L i else if j = i then K s L k else K s L j := by
  have h1 : L[i]? = some L[i] := List.getElem?_eq_getElem hi
  have h2 : L[k]? = some L[k] := List.getElem?_eq_getElem hk
  have hg := swp_get h1 h2 j
  by_cases e1 : j = k
  · rw [if_pos e1] at hg ⊢
    rw [K_some hg, K_some h1]
  · rw [if_neg e1] at hg ⊢
    by_cases e2 : j = i
    · rw [if_pos e2] at hg ⊢
      rw [K_some hg, K_some h2]
    · rw [if_neg e2] at hg ⊢
      unfold K
      rw [hg]

theorem Flag.perm {s : Bool} {L L' : List One} (h : Flag s L) (hp : L'.Perm L) : Flag s L' := fun o ho => h o (hp.mem_iff.1 ho)
theorem Flag.swp {s : Bool} {L : List One} (h : Flag s L) (i k : Nat) : Flag s (swp L i k) := h.perm swp_perm

/-- The one above. -/
def par (k : Nat) : Nat := (k - 1) / 2

def OkAt (s : Bool) (L : List One) (k : Nat) : Prop := ¬ ltk (K s L k) (K s L (par k))
def HeapN (s : Bool) (L : List One) (n : Nat) : Prop := ∀ k, k < n → 0 < k → OkAt s L k
def UpOk (s : Bool) (L : List One) (n j : Nat) : Prop :=
  (∀ k, k < n → 0 < k → k ≠ j → OkAt s L k) ∧ (∀ c, c < n → 0 < c → par c = j → 0 < j → ¬ ltk (K s L c) (K s L (par j)))
def DnB (s : Bool) (L : List One) (n i : Nat) : Prop :=
  (∀ k, k < n → 0 < k → par k ≠ i → OkAt s L k) ∧ (∀ c, c < n → 0 < c → par c = i → 0 < i → ¬ ltk (K s L c) (K s L (par i)))
def DnA (s : Bool) (L : List One) (n i : Nat) : Prop :=
  (∀ k, k < n → 0 < k → k ≠ i → par k ≠ i → OkAt s L k) ∧ (∀ c, c < n → 0 < c → par c = i → 0 < i → ¬ ltk (K s L c) (K s L (par i)))

theorem up_heap {s : Bool} (n f : Nat) : ∀ (L : List One) (j : Nat), Flag s L → n ≤ L.length → j < n → j ≤ f → UpOk s L n j → HeapN s (upL f L j) n := by
  induction f with
  | zero =>
    intro L j _ _ _ hf hu k hk h0
    exact hu.1 k hk h0 (by omega)
  | succ f ih =>
    intro L j hs hn hj hf hu
    rw [upL]
    by_cases h1 : (j - 1) / 2 = j ∨ lessAt L j ((j - 1) / 2) = false
    · rw [if_pos h1]
      intro k hk h0
      by_cases hkj : k = j
      · subst hkj
        rcases h1 with h1 | h1
        · omega
        · have hp : par k < L.length := by unfold par; omega
          exact (lessAt_false hs (by omega) hp).1 h1
      · exact hu.1 k hk h0 hkj
    · rw [if_neg h1]
      simp only [not_or] at h1
      obtain ⟨h1, h2⟩ := h1
      have hpl : par j < L.length := by unfold par; omega
      have h2' : lessAt L j (par j) = true := by unfold par; simpa using h2
      have hlt : ltk (K s L j) (K s L (par j)) := (lessAt_iff hs (by omega) hpl).1 h2'
      have h0 : 0 < j := by omega
      have hi : par j < j := by unfold par; omega
      have hK := K_swp s (L := L) (i := par j) (k := j) (by omega) (by omega)
      refine ih (swp L (par j) j) (par j) (hs.swp _ _) (by rw [swp_length]; exact hn) (by omega) (by omega) ⟨?_, ?_⟩
      · intro k hk hk0 hne
        unfold OkAt
        rw [hK k, hK (par k)]
        by_cases e1 : k = j
        · subst e1
          simp only [if_true, if_neg (show ¬ par k = k by omega)]
          unfold ltk at hlt ⊢
          omega
        · rw [if_neg e1, if_neg hne]
          have hok := hu.1 k hk hk0 e1
          by_cases e2 : par k = j
          · rw [if_pos e2]
            exact hu.2 k hk hk0 e2 h0
          · rw [if_neg e2]
            by_cases e3 : par k = par j
            · rw [if_pos e3]
              unfold OkAt at hok
              rw [e3] at hok
              unfold ltk at hok hlt ⊢
              omega
            · rw [if_neg e3]; exact hok
      · intro c hc hc0 hpc hp0
        rw [hK c, hK (par (par j))]
        have e4 : ¬ par (par j) = j := by unfold par at *; omega
        have e5 : ¬ par (par j) = par j := by unfold par at *; omega
        rw [if_neg e4, if_neg e5]
        have hokp := hu.1 (par j) (by omega) hp0 (by omega)
        unfold OkAt at hokp
        by_cases e1 : c = j
        · subst e1
          rw [if_pos rfl]; exact hokp
        · rw [if_neg e1]
          have e2 : ¬ c = par j := by intro e; subst e; unfold par at *; omega
          rw [if_neg e2]
          have hokc := hu.1 c hc hc0 e1
          unfold OkAt at hokc
          rw [hpc] at hokc
          unfold ltk at hokc hokp ⊢
          omega

theorem up_keeps (f : Nat) : ∀ (L : List One) (j k : Nat), j < k → j < L.length → (upL f L j)[k]? = L[k]? := by
  induction f with
  | zero => intro L j k _ _; rfl
  | succ f ih =>
    intro L j k hk hj
    rw [upL]
    split
    · rfl
    · rw [ih _ _ _ (by omega) (by rw [swp_length]; omega)]
      rw [swp_get (List.getElem?_eq_getElem (show (j - 1) / 2 < L.length by omega)) (List.getElem?_eq_getElem hj), if_neg (by omega), if_neg (by omega)]

theorem kid_cases (L : List One) (i n : Nat) (h : 2 * i + 1 < n) : (kid L i n = 2 * i + 1 ∨ kid L i n = 2 * i + 2) ∧ kid L i n < n := by
  unfold kid
  split
  · rename_i h2; exact ⟨.inr rfl, h2.1⟩
  · exact ⟨.inl rfl, h⟩

/-- The kid is no greater than any kid. -/
theorem kid_least {s : Bool} {L : List One} (hs : Flag s L) {i n c : Nat} (hn : n ≤ L.length) (hc : c < n) (hpc : par c = i) (h0 : 0 < c) : ¬ ltk (K s L c) (K s L (kid L i n)) := by
  have hcc : c = 2 * i + 1 ∨ c = 2 * i + 2 := by unfold par at hpc; omega
  unfold kid
  split
  · rename_i h
    have h3 := (lessAt_iff hs (by omega) (by omega)).1 h.2
    rcases hcc with rfl | rfl <;> (unfold ltk at *; omega)
  · rename_i h
    rcases hcc with rfl | rfl
    · unfold ltk; omega
    · have h4 : lessAt L (2 * i + 2) (2 * i + 1) = false := by
        cases hb : lessAt L (2 * i + 2) (2 * i + 1) with
        | false => rfl
        | true => exact absurd ⟨hc, hb⟩ h
      exact (lessAt_false hs (by omega) (by omega)).1 h4

theorem down_move {s : Bool} {L : List One} (hs : Flag s L) {i n : Nat} (hn : n ≤ L.length) (h1 : 2 * i + 1 < n) (hl : lessAt L (kid L i n) i = true) (hA : DnA s L n i) : DnB s (swp L i (kid L i n)) n (kid L i n) := by
  obtain ⟨hk, hkn⟩ := kid_cases L i n h1
  have hpk : par (kid L i n) = i := by unfold par; omega
  have hik : i < kid L i n := by omega
  have hlt := (lessAt_iff hs (by omega) (by omega)).1 hl
  have hK := K_swp s (L := L) (i := i) (k := kid L i n) (by omega) (by omega)
  have hleast := fun c hc hpc h0 => kid_least (s := s) hs (i := i) (n := n) (c := c) hn hc hpc h0
  generalize kid L i n = m at *
  refine ⟨?_, ?_⟩
  · intro k hkn' hk0 hne
    unfold OkAt
    rw [hK k, hK (par k), if_neg hne]
    by_cases e1 : k = m
    · subst e1
      rw [if_pos rfl, if_pos hpk]
      unfold ltk at *; omega
    · rw [if_neg e1]
      by_cases e2 : k = i
      · subst e2
        rw [if_pos rfl, if_neg (by unfold par; omega)]
        exact hA.2 m hkn (by omega) hpk hk0
      · rw [if_neg e2]
        by_cases e3 : par k = i
        · rw [if_pos e3]
          exact hleast k hkn' e3 hk0
        · rw [if_neg e3]
          exact hA.1 k hkn' hk0 e2 e3
  · intro c hc hc0 hpc _
    rw [hpk, hK c, hK i]
    have e1 : ¬ c = m := by intro e; subst e; unfold par at *; omega
    have e2 : ¬ c = i := by intro e; subst e; unfold par at *; omega
    rw [if_neg e1, if_neg e2, if_neg (by omega), if_pos rfl]
    have := hA.1 c hc hc0 e2 (by omega)
    unfold OkAt at this
    rw [hpc] at this
    exact this

theorem DnB.toA {s : Bool} {L : List One} {n i : Nat} (h : DnB s L n i) : DnA s L n i := ⟨fun k h1 h2 _ h4 => h.1 k h1 h2 h4, h.2⟩

theorem down_stop_ok {s : Bool} {L : List One} (hs : Flag s L) {i n : Nat} (hn : n ≤ L.length) (hi : i < n) (h : n ≤ 2 * i + 1 ∨ lessAt L (kid L i n) i = false) : ∀ k, k < n → 0 < k → par k = i → OkAt s L k := by
  intro k hk h0 hp
  have hkk : k = 2 * i + 1 ∨ k = 2 * i + 2 := by unfold par at hp; omega
  rcases h with h | h
  · omega
  · have h1 : 2 * i + 1 < n := by omega
    obtain ⟨_, hkn⟩ := kid_cases L i n h1
    have h2 := (lessAt_false hs (by omega) (by omega)).1 h
    have h3 := kid_least hs hn hk hp h0
    unfold OkAt
    rw [hp]
    unfold ltk at *
    omega

theorem down_ends (f : Nat) (L : List One) (i n : Nat) (hf : n ≤ i + f + 1) : (downL f L i n = (i, L) ∧ (n ≤ 2 * i + 1 ∨ lessAt L (kid L i n) i = false)) ∨
    ∃ g, f = g + 1 ∧ 2 * i + 1 < n ∧ lessAt L (kid L i n) i = true ∧ downL f L i n = downL g (swp L i (kid L i n)) (kid L i n) n := by
  by_cases h1 : n ≤ 2 * i + 1
  · exact .inl ⟨downL_stop _ _ _ _ (.inl h1), .inl h1⟩
  · cases h2 : lessAt L (kid L i n) i with
    | false => exact .inl ⟨downL_stop _ _ _ _ (.inr h2), .inr rfl⟩
    | true =>
      obtain ⟨g, rfl⟩ : ∃ g, f = g + 1 := ⟨f - 1, by omega⟩
      exact .inr ⟨g, rfl, by omega, rfl, downL_go _ _ _ _ (by omega) h2⟩

theorem downB_heap {s : Bool} (n f : Nat) : ∀ (L : List One) (i : Nat), Flag s L → n ≤ L.length → i < n → n ≤ i + f + 1 → DnB s L n i → HeapN s (downL f L i n).2 n ∧ i ≤ (downL f L i n).1 := by
  induction f with
  | zero =>
    intro L i hs hn hi hf hB
    refine ⟨fun k hk h0 => ?_, Nat.le_refl _⟩
    by_cases hp : par k = i
    · exact down_stop_ok hs hn hi (.inl (by omega)) k hk h0 hp
    · exact hB.1 k hk h0 hp
  | succ f ih =>
    intro L i hs hn hi hf hB
    rcases down_ends (f + 1) L i n (by omega) with ⟨e, hstop⟩ | ⟨g, hg, h1, hl, e⟩
    · rw [e]
      refine ⟨fun k hk h0 => ?_, Nat.le_refl _⟩
      by_cases hp : par k = i
      · exact down_stop_ok hs hn hi hstop k hk h0 hp
      · exact hB.1 k hk h0 hp
    · obtain rfl : f = g := by omega
      rw [e]
      obtain ⟨hk, hkn⟩ := kid_cases L i n h1
      have := ih (swp L i (kid L i n)) (kid L i n) (hs.swp _ _) (by rw [swp_length]; exact hn) hkn (by omega) (down_move hs hn h1 hl hB.toA)
      exact ⟨this.1, by omega⟩

/-- 'down' from a place that may be wrong both ways: either it moved, and all is well; or it did not, and 'up' is to be done. -/
theorem downA_heap {s : Bool} (n f : Nat) (L : List One) (i : Nat) (hs : Flag s L) (hn : n ≤ L.length) (hi : i < n) (hf : n ≤ i + f + 1) (hA : DnA s L n i) :
    (i < (downL f L i n).1 ∧ HeapN s (downL f L i n).2 n) ∨ ((downL f L i n).1 = i ∧ (downL f L i n).2 = L ∧ UpOk s L n i) := by
  rcases down_ends f L i n hf with ⟨e, hstop⟩ | ⟨g, rfl, h1, hl, e⟩
  · rw [e]
    refine .inr ⟨rfl, rfl, ?_, hA.2⟩
    intro k hk h0 hne
    by_cases hp : par k = i
    · exact down_stop_ok hs hn hi hstop k hk h0 hp
    · exact hA.1 k hk h0 hne hp
  · rw [e]
    obtain ⟨hk, hkn⟩ := kid_cases L i n h1
    have := downB_heap n g (swp L i (kid L i n)) (kid L i n) (hs.swp _ _) (by rw [swp_length]; exact hn) hkn (by omega) (down_move hs hn h1 hl hA)
    exact .inl ⟨by omega, this.1⟩

theorem down_keeps (f : Nat) : ∀ (L : List One) (i n k : Nat), n ≤ k → i < L.length → n ≤ L.length → i < n → (downL f L i n).2[k]? = L[k]? := by
  induction f with
  | zero => intro L i n k _ _ _ _; rfl
  | succ f ih =>
    intro L i n k hk hi hn hin
    rcases downL_cases f L i n with h | ⟨h1, _, h⟩
    · rw [h]
    · rw [h]
      obtain ⟨hkk, hkn⟩ := kid_cases L i n h1
      rw [ih _ _ _ _ hk (by rw [swp_length]; omega) (by rw [swp_length]; exact hn) hkn]
      rw [swp_get (List.getElem?_eq_getElem hi) (List.getElem?_eq_getElem (show kid L i n < L.length by omega)), if_neg (by omega), if_neg (by omega)]

/-- A list that is a heap. -/
def Heap (s : Bool) (L : List One) : Prop := Flag s L ∧ HeapN s L L.length

theorem heap_push {s : Bool} {L : List One} {o : One} (h : Heap s L) (ho : o.sleeps = s) : Heap s (upL L.length (L ++ [o]) L.length) := by
  have hf : Flag s (L ++ [o]) := fun x hx => by
    rcases List.mem_append.1 hx with hx | hx
    · exact h.1 x hx
    · simp at hx; subst hx; exact ho
  refine ⟨hf.perm (upL_perm _ _ _), ?_⟩
  rw [upL_length]
  have hK : ∀ k, k < L.length → K s (L ++ [o]) k = K s L k := fun k hk => by
    unfold K
    rw [List.getElem?_append_left hk]
  refine up_heap _ _ _ _ hf (Nat.le_refl _) (by simp) (Nat.le_refl _) ⟨?_, ?_⟩
  · intro k hk h0 hne
    have hk' : k < L.length := by simp at hk; omega
    have := h.2 k hk' h0
    unfold OkAt at *
    rw [hK k hk', hK (par k) (by unfold par; omega)]
    exact this
  · intro c hc _ hp h0
    simp at hc
    unfold par at hp
    omega

theorem heap_fix {s : Bool} {L L0 : List One} {i : Nat} {o : One} (h : Heap s L0) (hi : i < L0.length) (ho : o.sleeps = s) (hL : L = L0.set i o) : Heap s (fixL L i) := by
  subst hL
  have hlen : (L0.set i o).length = L0.length := by simp
  have hf : Flag s (L0.set i o) := fun x hx => by
    rcases List.mem_or_eq_of_mem_set hx with hx | hx
    · exact h.1 x hx
    · subst hx; exact ho
  have hK : ∀ k, k ≠ i → K s (L0.set i o) k = K s L0 k := fun k hk => by
    unfold K
    rw [List.getElem?_set_ne (Ne.symm hk)]
  have hA : DnA s (L0.set i o) L0.length i := by
    refine ⟨?_, ?_⟩
    · intro k hk h0 hne hp
      have := h.2 k hk h0
      unfold OkAt at *
      rw [hK k hne, hK _ hp]
      exact this
    · intro c hc hc0 hp h0
      have e1 : c ≠ i := by intro e; subst e; unfold par at hp; omega
      have e2 : par i ≠ i := by unfold par; omega
      have h1 := h.2 c hc hc0
      have h2 := h.2 i hi h0
      unfold OkAt at h1 h2
      rw [hp] at h1
      rw [hK c e1, hK _ e2]
      unfold ltk at *
      omega
  refine ⟨hf.perm (fixL_perm _ _), ?_⟩
  rw [(fixL_perm _ _).length_eq, hlen]
  unfold fixL
  rw [hlen]
  rcases downA_heap L0.length L0.length (L0.set i o) i hf (by rw [hlen]; exact Nat.le_refl _) hi (by omega) hA with ⟨h1, h2⟩ | ⟨h1, h2, h3⟩
  · rw [if_pos h1]; exact h2
  · rw [if_neg (by omega), h2]
    exact up_heap _ _ _ _ hf (by rw [hlen]; exact Nat.le_refl _) hi (Nat.le_refl _) h3

/-- What 'Remove' leaves, and whom it takes. -/
theorem heap_rem {s : Bool} {L : List One} {i : Nat} {o : One} (h : Heap s L) (hi : L[i]? = some o) : ∃ L', remL L i = L' ++ [o] ∧ Heap s L' ∧ (o :: L').Perm L := by
  have hil : i < L.length := (List.getElem?_eq_some_iff.1 hi).1
  have hne : remL L i ≠ [] := by
    intro e
    have := (remL_perm L i).length_eq
    rw [e] at this; simp at this; omega
  have hn : L.length - 1 < L.length := by omega
  -- the last one
  have hlast : (remL L i)[L.length - 1]? = some o := by
    unfold remL
    split
    · rename_i e; rw [e]; exact hi
    · have hsw : (swp L i (L.length - 1))[L.length - 1]? = some o := by
        rw [swp_get hi (List.getElem?_eq_getElem hn), if_pos rfl]
      split
      · rw [down_keeps _ _ _ _ _ (Nat.le_refl _) (by rw [swp_length]; exact hil) (by rw [swp_length]; omega) (by omega)]
        exact hsw
      · rw [up_keeps _ _ _ _ (by omega) (by rw [downL_length, swp_length]; exact hil), down_keeps _ _ _ _ _ (Nat.le_refl _) (by rw [swp_length]; exact hil) (by rw [swp_length]; omega) (by omega)]
        exact hsw
  have hlen := (remL_perm L i).length_eq
  have hsplit : remL L i = (remL L i).dropLast ++ [o] := by
    have h1 := List.dropLast_concat_getLast hne
    have h2 : (remL L i).getLast hne = o := by
      rw [List.getLast_eq_getElem]
      have h3 : (remL L i)[(remL L i).length - 1]? = some o := by rw [hlen]; exact hlast
      exact (List.getElem?_eq_some_iff.1 h3).2
    rw [h2] at h1
    exact h1.symm
  have hheapN : HeapN s (remL L i) (L.length - 1) := by
    unfold remL
    split
    · exact fun k hk h0 => h.2 k (by omega) h0
    · rename_i hne'
      have hfs : Flag s (swp L i (L.length - 1)) := h.1.swp _ _
      have hK := K_swp s (L := L) (i := i) (k := L.length - 1) hil hn
      have hA : DnA s (swp L i (L.length - 1)) (L.length - 1) i := by
        refine ⟨?_, ?_⟩
        · intro k hk h0 e1 e2
          unfold OkAt
          rw [hK k, hK (par k), if_neg (by omega), if_neg e1, if_neg (by unfold par; omega), if_neg e2]
          exact h.2 k (by omega) h0
        · intro c hc hc0 hp h0
          have e1 : c ≠ i := by intro e; subst e; unfold par at hp; omega
          have e2 : par i ≠ i := by unfold par; omega
          rw [hK c, hK (par i), if_neg (by omega), if_neg e1, if_neg (by unfold par; omega), if_neg e2]
          have h1 := h.2 c (by omega) hc0
          have h2 := h.2 i hil h0
          unfold OkAt at h1 h2
          rw [hp] at h1
          unfold ltk at *
          omega
      rcases downA_heap (L.length - 1) (L.length - 1) (swp L i (L.length - 1)) i hfs (by rw [swp_length]; omega) (by omega) (by omega) hA with ⟨h1, h2⟩ | ⟨h1, h2, h3⟩
      · rw [if_pos h1]; exact h2
      · rw [if_neg (by omega), h2]
        exact up_heap _ _ _ _ hfs (by rw [swp_length]; omega) (by omega) (Nat.le_refl _) h3
  refine ⟨_, hsplit, ⟨?_, ?_⟩, ?_⟩
  · intro x hx
    exact (h.1.perm (remL_perm L i)) x (by rw [hsplit]; exact List.mem_append_left _ hx)
  · intro k hk h0
    have hl : (remL L i).dropLast.length = L.length - 1 := by simp [hlen]
    have hKd : ∀ j, j < L.length - 1 → K s (remL L i).dropLast j = K s (remL L i) j := fun j hj => by
      have e : (remL L i).dropLast[j]? = (remL L i)[j]? := by
        conv => rhs; rw [hsplit]
        rw [List.getElem?_append_left (by rw [hl]; exact hj)]
      unfold K
      rw [e]
    rw [hl] at hk
    have := hheapN k hk h0
    unfold OkAt at *
    rw [hKd k hk, hKd (par k) (by unfold par; omega)]
    exact this
  · refine List.Perm.trans ?_ (remL_perm L i)
    conv => rhs; rw [hsplit]
    exact (List.perm_append_comm (l₁ := [o]) (l₂ := (remL L i).dropLast))

/-- The first of a heap is the least. -/
theorem heap_least {s : Bool} {L : List One} (h : Heap s L) : ∀ k, k < L.length → ¬ ltk (K s L k) (K s L 0) := by
  intro k
  induction k using Nat.strongRecOn with
  | _ k ih =>
    intro hk
    by_cases h0 : k = 0
    · subst h0; unfold ltk; omega
    · have hp : par k < k := by unfold par; omega
      have h1 := ih (par k) hp (by omega)
      have h2 := h.2 k hk (by omega)
      unfold OkAt at h2
      unfold ltk at *
      omega
end Go.Proofs.YtjchfkpcglpgdaaDoor
