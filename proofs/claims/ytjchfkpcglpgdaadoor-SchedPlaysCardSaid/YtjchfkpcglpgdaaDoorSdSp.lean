/-
  SchedSleeps' plain law: nothing of the program's text.
-/
import Derived.Test.YtjchfkpcglpgdaaDoorSdT
set_option linter.unusedSimpArgs false
set_option linter.unusedVariables false
namespace Go.Proofs.YtjchfkpcglpgdaaDoor
open Go.RowKit Go.Hp

theorem updR_last {l : List Rec} {r : Rec} {id : Int} (f : Rec → Rec) (hn : ∀ x ∈ l, x.id ≠ id) (hr : r.id = id) : updR (l ++ [r]) id f = l ++ [f r] := by
  unfold updR
  rw [List.map_append]
  congr 1
  · rw [List.map_congr_left (g := _root_.id) (fun x hx => by rw [if_neg (hn x hx)]; rfl)]
    simp
  · simp [hr]

/-- All that sleep, one a number. -/
def sl (zs : List Int) : List Rec := zs.zipIdx.map fun p => ⟨p.2, 10, 0, true, p.1 % 20⟩
theorem sl_snoc {zs : List Int} {k : Nat} {x : Int} (h : zs[k]? = some x) : sl (zs.take (k + 1)) = sl (zs.take k) ++ [⟨k, 10, 0, true, x % 20⟩] := by
  have hk : k < zs.length := (List.getElem?_eq_some_iff.1 h).1
  unfold sl
  rw [List.take_add_one, h]
  simp only [Option.toList, List.zipIdx_append, List.map_append, List.length_take]
  rw [Nat.min_eq_left (Nat.le_of_lt hk)]
  simp
theorem sl_get (zs : List Int) (k : Nat) : (sl zs)[k]? = zs[k]?.map fun x => ⟨k, 10, 0, true, x % 20⟩ := by
  simp [sl, List.getElem?_zipIdx]
  cases zs[k]? <;> simp
theorem sl_len (zs : List Int) : (sl zs).length = zs.length := by simp [sl]
theorem sl_mem {zs : List Int} {r : Rec} (h : r ∈ sl zs) : ∃ (k : Nat) (x : Int), zs[k]? = some x ∧ k < zs.length ∧ r = ⟨k, 10, 0, true, x % 20⟩ := by
  obtain ⟨k, hk, e⟩ := List.mem_iff_getElem.1 h
  have h2 : (sl zs)[k]? = some r := by rw [List.getElem?_eq_getElem hk, e]
  rw [sl_get] at h2
  obtain ⟨x, hx, e2⟩ := Option.map_eq_some_iff.1 h2
  exact ⟨k, x, hx, by rw [sl_len] at hk; exact hk, e2.symm⟩
theorem sl_new {zs : List Int} {k : Nat} (hk : zs.length ≤ k) : ∀ r ∈ sl zs, r.id ≠ (k : Int) := fun r hr => by
  obtain ⟨j, x, _, hj, rfl⟩ := sl_mem hr
  simp
  omega
theorem sl_sorted (zs : List Int) : (sl zs).Pairwise fun a b => a.id < b.id := by
  rw [List.pairwise_iff_getElem]
  intro i j hi hj hij
  have h1 : (sl zs)[i]? = some (sl zs)[i] := List.getElem?_eq_getElem hi
  have h2 : (sl zs)[j]? = some (sl zs)[j] := List.getElem?_eq_getElem hj
  rw [sl_get] at h1 h2
  obtain ⟨x, _, e1⟩ := Option.map_eq_some_iff.1 h1
  obtain ⟨y, _, e2⟩ := Option.map_eq_some_iff.1 h2
  rw [← e1, ← e2]
  simp
  exact hij

/-- Those who wake at time t; before time t. -/
def at_ (l : List Rec) (t : Nat) : List Rec := l.filter fun r => r.till == (t : Int)
def upTo (l : List Rec) (t : Nat) : List Rec := (List.range t).flatMap (at_ l)
theorem upTo_succ (l : List Rec) (t : Nat) : upTo l (t + 1) = upTo l t ++ at_ l t := by
  simp [upTo, List.range_succ]
theorem at_snoc_yes {l : List Rec} {t j : Nat} {r : Rec} (h : l[j]? = some r) (ht : r.till = (t : Int)) : at_ (l.take (j + 1)) t = at_ (l.take j) t ++ [r] := by
  unfold at_
  rw [take_snoc' h, List.filter_append]
  simp [ht]
theorem at_snoc_no {l : List Rec} {t j : Nat} {r : Rec} (h : l[j]? = some r) (ht : r.till ≠ (t : Int)) : at_ (l.take (j + 1)) t = at_ (l.take j) t := by
  unfold at_
  rw [take_snoc' h, List.filter_append]
  simp [ht]
theorem upTo_mem {l : List Rec} {t : Nat} {r : Rec} : r ∈ upTo l t ↔ r ∈ l ∧ ∃ s : Nat, s < t ∧ r.till = s := by
  simp [upTo, at_]
  constructor
  · rintro ⟨s, h1, h2, h3⟩; exact ⟨h2, s, h1, h3⟩
  · rintro ⟨h2, s, h1, h3⟩; exact ⟨s, h1, h2, h3⟩
theorem upTo_sorted {l : List Rec} (hl : l.Pairwise fun a b => a.id < b.id) : ∀ t : Nat, (upTo l t).Pairwise fun a b => ltk (tkey a) (tkey b)
  | 0 => List.Pairwise.nil
  | t + 1 => by
    rw [upTo_succ, List.pairwise_append]
    refine ⟨upTo_sorted hl t, ?_, ?_⟩
    · unfold at_
      rw [List.pairwise_filter]
      refine hl.imp fun {a b} h h1 h2 => ?_
      simp only [beq_iff_eq] at h1 h2
      exact .inr ⟨by show a.till = b.till; omega, h⟩
    · intro a ha b hb
      obtain ⟨_, s, hs, e⟩ := upTo_mem.1 ha
      have h2 := (List.mem_filter.1 hb).2
      simp only [beq_iff_eq] at h2
      exact .inl (by show a.till < b.till; omega)

theorem upTo_len {l : List Rec} (hl : l.Pairwise fun a b => a.id < b.id) (h0 : ∀ r ∈ l, 0 ≤ r.till) (t j : Nat) : (upTo l t ++ at_ (l.take j) t).length ≤ l.length := by
  have h1 : (upTo l t ++ at_ (l.take j) t).length ≤ (upTo l (t + 1)).length := by
    rw [upTo_succ]
    exact (List.Sublist.append_left ((List.take_sublist j l).filter _) _).length_le
  refine Nat.le_trans h1 ?_
  have hnd : (upTo l (t + 1)).Nodup := (upTo_sorted hl (t + 1)).imp fun {a b} hab e => by subst e; unfold ltk at hab; omega
  have hln : l.Nodup := hl.imp fun {a b} h e => by subst e; omega
  have hp : (upTo l (t + 1)).Perm (l.filter fun r => decide (r.till < t + 1)) := (List.perm_ext_iff_of_nodup hnd (hln.filter _)).2 fun r => by
    rw [upTo_mem, List.mem_filter]
    simp only [decide_eq_true_eq]
    constructor
    · rintro ⟨h2, s, h3, h4⟩; exact ⟨h2, by omega⟩
    · rintro ⟨h2, h3⟩; have := h0 r h2; exact ⟨h2, r.till.toNat, by omega, by omega⟩
  rw [hp.length_eq]
  exact List.length_filter_le _ _

theorem sorted_unique {l1 l2 : List Rec} (h1 : l1.Pairwise fun a b => ltk (tkey a) (tkey b)) (h2 : l2.Pairwise fun a b => ltk (tkey a) (tkey b)) (hm : ∀ r, r ∈ l1 ↔ r ∈ l2) : l1 = l2 := by
  have nd : ∀ {l : List Rec}, (l.Pairwise fun a b => ltk (tkey a) (tkey b)) → l.Nodup := fun h => h.imp fun {a b} hab e => by subst e; unfold ltk at hab; omega
  refine List.Perm.eq_of_pairwise (le := fun a b => ltk (tkey a) (tkey b)) (fun a b _ _ h3 h4 => ?_) h1 h2 ((List.perm_ext_iff_of_nodup (nd h1) (nd h2)).2 hm)
  unfold ltk at h3 h4
  omega

theorem sl_woke {zs : List Int} {now : Int} {ws : List Rec} (h0 : 0 ≤ now) (hw : Woke now (sl zs) ws) : ws = upTo (sl zs) (now.toNat + 1) := by
  refine sorted_unique hw.srt (upTo_sorted (sl_sorted zs) _) fun r => ?_
  rw [hw.mem, upTo_mem]
  constructor
  · rintro ⟨h1, h2⟩
    refine ⟨h1, ?_⟩
    obtain ⟨k, x, _, _, rfl⟩ := sl_mem h1
    simp only [due, Bool.true_and, decide_eq_true_eq] at h2
    have := Int.emod_nonneg x (show (20 : Int) ≠ 0 by decide)
    exact ⟨(x % 20).toNat, by omega, by simp; omega⟩
  · rintro ⟨h1, s, h2, h3⟩
    refine ⟨h1, ?_⟩
    obtain ⟨k, x, _, _, rfl⟩ := sl_mem h1
    simp only at h3
    simp only [due, Bool.true_and, decide_eq_true_eq]
    omega

/-- Behind the waking: those who woke are ready, nobody else. -/
structure Behind (l ws l2 : List Rec) : Prop where
  ready : ∀ r ∈ l2, r.sleeps = false → r.used = 0 ∧ ∃ x ∈ ws, x.id = r.id
  back : ∀ x ∈ ws, ∃ r ∈ l2, r.sleeps = false ∧ r.id = x.id
  again : ∀ now ws2, Woke now l ws → Woke now l2 ws2 → ws2 = [] ∧ wokeBy now l2 = l2
  len : (readyIds l2).length = ws.length

theorem sl_behind {zs : List Int} {now : Int} {ws : List Rec} (hw : Woke now (sl zs) ws) : Behind (sl zs) ws (wokeBy now (sl zs)) := by
  have hnd : (sl zs).Nodup := (sl_sorted zs).imp fun {a b} h e => by subst e; omega
  refine ⟨fun r hr hs => ?_, fun x hx => ?_, fun now2 ws2 hw1 hw2 => ?_, ?_⟩
  · unfold wokeBy at hr
    obtain ⟨x, hx, rfl⟩ := List.mem_map.1 hr
    obtain ⟨k, y, h1, h2, rfl⟩ := sl_mem hx
    by_cases hd : due now (⟨k, 10, 0, true, y % 20⟩ : Rec) = true
    · rw [if_pos hd] at hs ⊢
      exact ⟨rfl, _, (hw.mem _).2 ⟨hx, hd⟩, rfl⟩
    · rw [if_neg hd] at hs
      cases hs
  · obtain ⟨h1, h2⟩ := (hw.mem x).1 hx
    exact ⟨awake x, List.mem_map.2 ⟨x, h1, by rw [if_pos h2]⟩, rfl, rfl⟩
  · have hsame : ∀ x, x ∈ sl zs → (due now x = true ↔ due now2 x = true) := fun x hx => by
      have a1 := hw.mem x
      have a2 := hw1.mem x
      constructor
      · intro h; exact (a2.1 (a1.2 ⟨hx, h⟩)).2
      · intro h; exact (a1.1 (a2.2 ⟨hx, h⟩)).2
    have hno : ∀ r ∈ wokeBy now (sl zs), due now2 r = false := fun r hr => by
      unfold wokeBy at hr
      obtain ⟨x, hx, rfl⟩ := List.mem_map.1 hr
      by_cases hd : due now x = true
      · rw [if_pos hd]; rfl
      · rw [if_neg hd]
        have := hsame x hx
        cases h : due now2 x with
        | false => rfl
        | true => exact absurd (this.2 h) hd
    refine ⟨?_, ?_⟩
    · cases hws : ws2 with
      | nil => rfl
      | cons r t =>
        obtain ⟨h1, h2⟩ := (hw2.mem r).1 (by rw [hws]; simp)
        rw [hno r h1] at h2; cases h2
    · have e : ∀ l : List Rec, (∀ r ∈ l, due now2 r = false) → wokeBy now2 l = l := fun l h => by
        unfold wokeBy
        rw [List.map_congr_left (g := _root_.id) (fun r hr => by rw [if_neg (by rw [h r hr]; simp)]; rfl)]
        simp
      exact e _ hno
  · unfold readyIds
    rw [sorted_len, List.length_map]
    have h1 : ((wokeBy now (sl zs)).filter fun r => !r.sleeps).length = ((sl zs).filter (due now)).length := by
      unfold wokeBy
      rw [List.filter_map, List.length_map]
      congr 1
      refine List.filter_congr fun x hx => ?_
      obtain ⟨k, y, _, _, rfl⟩ := sl_mem hx
      simp only [Function.comp]
      by_cases hd : due now (⟨k, 10, 0, true, y % 20⟩ : Rec) = true
      · rw [if_pos hd, hd]; rfl
      · rw [if_neg hd]
        simp only [Bool.not_eq_true] at hd
        rw [hd]
        rfl
    rw [h1]
    refine List.Perm.length_eq ((List.perm_ext_iff_of_nodup (hnd.filter _) ?_).2 fun r => ?_)
    · exact hw.srt.imp fun {a b} hab e => by subst e; unfold ltk at hab; omega
    · rw [hw.mem, List.mem_filter]

/-- The least of a list; -1: it is empty. -/
def LeastOf (l : List Int) (x : Int) : Prop := (l = [] ∧ x = -1) ∨ (x ∈ l ∧ ∀ y ∈ l, x ≤ y)
theorem LeastOf.snoc {l : List Int} {k : Nat} {x y : Int} (h : LeastOf (l.take k) x) (hy : l[k]? = some y) (hp : ∀ z ∈ l, 0 ≤ z) : LeastOf (l.take (k + 1)) (if x < 0 ∨ y < x then y else x) := by
  rw [take_snoc' hy]
  have hy0 := hp y (List.mem_of_getElem? hy)
  rcases h with ⟨h1, rfl⟩ | ⟨h1, h2⟩
  · rw [if_pos (.inl (by decide)), h1]
    exact .inr ⟨by simp, by simp⟩
  · have hx0 := hp x (List.mem_of_mem_take h1)
    by_cases hlt : x < 0 ∨ y < x
    · rw [if_pos hlt]
      refine .inr ⟨by simp, fun z hz => ?_⟩
      rcases List.mem_append.1 hz with hz | hz
      · have := h2 z hz; omega
      · simp at hz; omega
    · rw [if_neg hlt]
      refine .inr ⟨by simp [h1], fun z hz => ?_⟩
      rcases List.mem_append.1 hz with hz | hz
      · exact h2 z hz
      · simp at hz; omega
theorem behind_best {l ws l2 : List Rec} {x : Int} (h : Behind l ws l2) (hx : LeastOf (ws.map (·.id)) x) (hid : (l2.map (·.id)).Nodup) :
    (ws = [] ∧ best l2 = none) ∨ (ws ≠ [] ∧ ∃ r, best l2 = some r ∧ r.id = x) := by
  cases hb : best l2 with
  | none =>
    refine .inl ⟨?_, rfl⟩
    cases hws : ws with
    | nil => rfl
    | cons a t =>
      obtain ⟨r, hr, hs, _⟩ := h.back a (by rw [hws]; simp)
      have := best_none hb r hr
      rw [hs] at this; cases this
  | some r =>
    obtain ⟨h1, h2, h3⟩ := best_some hb
    obtain ⟨hu, y, hy, hyi⟩ := h.ready r h1 h2
    refine .inr ⟨(fun e => by rw [e] at hy; cases hy), r, rfl, ?_⟩
    have hmem : r.id ∈ ws.map (·.id) := List.mem_map.2 ⟨y, hy, hyi⟩
    rcases hx with ⟨he, _⟩ | ⟨hxm, hxl⟩
    · rw [he] at hmem; cases hmem
    · have h5 := hxl r.id hmem
      obtain ⟨z, hz, hzi⟩ := List.mem_map.1 hxm
      obtain ⟨q, hq, hqs, hqi⟩ := h.back z hz
      have hqu := (h.ready q hq hqs).1
      have := h3 q hq hqs
      simp only [before, Bool.or_eq_false_iff, Bool.and_eq_false_iff, decide_eq_false_iff_not] at this
      omega
theorem least_zero {u : Int} {zs : List Int} (h : Least u (sl zs)) : u = 0 := by
  rcases h with ⟨_, h⟩ | ⟨⟨r, hr, h⟩, _⟩
  · exact h
  · obtain ⟨k, x, _, _, rfl⟩ := sl_mem hr
    exact h.symm
end Go.Proofs.YtjchfkpcglpgdaaDoor
