/-
  The document's Wake.
-/
import Derived.Test.YtjchfkpcglpgdaaDoorSdDr
import Derived.Test.YtjchfkpcglpgdaaDoorSdPk
set_option linter.unusedSimpArgs false
set_option linter.unusedVariables false
namespace Go.Proofs.YtjchfkpcglpgdaaDoor
open Go.RowKit Go.Hp

/-- Those due, as those who wait for a turn. -/
def dvR (now : Int) (r : Rec) : Rec := { r with sleeps := !due now r, used := r.till }
def dv (now : Int) (l : List Rec) : List Rec := l.map (dvR now)
theorem dv_at {now : Int} {l : List Rec} {j : Nat} {r : Rec} (h : l[j]? = some r) : (dv now l)[j]? = some (dvR now r) := by simp [dv, h]

theorem before_dv (now : Int) (x r : Rec) : before (dvR now x) (dvR now r) = (decide (x.till < r.till) || (decide (x.till = r.till) && decide (x.id < r.id))) := rfl

def rouse (r : Rec) : Rec := { r with sleeps := false }
def wokeD (ws l : List Rec) : List Rec := l.map fun r => if r ∈ ws then rouse r else r
def wokenBy (now : Int) (l : List Rec) : List Rec := l.map fun r => if due now r then rouse r else r
theorem wokeD_id (ws l : List Rec) : (wokeD ws l).map (·.id) = l.map (·.id) := by
  unfold wokeD
  rw [List.map_map]
  refine List.map_congr_left fun r _ => ?_
  simp only [Function.comp]
  split <;> rfl
theorem wokeD_len (ws l : List Rec) : (wokeD ws l).length = l.length := by simp [wokeD]
theorem wokeD_sleeper {ws l : List Rec} {r : Rec} (h : r ∈ wokeD ws l) (hs : r.sleeps = true) : r ∈ l ∧ r ∉ ws := by
  unfold wokeD at h
  obtain ⟨x, hx, e⟩ := List.mem_map.1 h
  split at e
  · subst e; simp [rouse] at hs
  · subst e; exact ⟨hx, by assumption⟩
theorem wokeD_mem {ws l : List Rec} {r : Rec} (h : r ∈ l) (hn : r ∉ ws) : r ∈ wokeD ws l :=
  List.mem_map.2 ⟨r, h, by simp [hn]⟩
theorem wokeD_snoc {ws l : List Rec} {r : Rec} (hid : (l.map (·.id)).Nodup) (hr : r ∈ l) (hn : r ∉ ws) : updR (wokeD ws l) r.id rouse = wokeD (ws ++ [r]) l := by
  unfold updR wokeD
  rw [List.map_map]
  refine List.map_congr_left fun x hx => ?_
  simp only [Function.comp, List.mem_append, List.mem_cons, List.not_mem_nil, or_false]
  by_cases hxr : x = r
  · subst hxr
    simp [hn]
  · have hne : x.id ≠ r.id := fun e => hxr (ids_eq hid hx hr e)
    by_cases hw : x ∈ ws
    · have : (rouse x).id ≠ r.id := hne
      simp [hw, this]
    · simp [hw, hne, hxr]

structure DWInv (w : World) (b : Nat) (B0 : List Nat) (l : List Rec) (now : Int) (wr : World) (v : Value) (ws : List Rec) : Prop where
  sub : ∀ r ∈ ws, r ∈ l ∧ r.sleeps = true ∧ r.till ≤ now
  srt : ws.Pairwise fun a b => ltk (tkey a) (tkey b)
  low : ∀ r ∈ ws, ∀ x ∈ l, x.sleeps = true → x ∉ ws → ltk (tkey r) (tkey x)
  doc : (docS b (wokeD ws l)).at_ wr B0
  row : ∃ arr tail, Row wr 3 1 v ws.length (ws.map fun r => Value.int .i64 r.id) arr tail ∧ ∀ g, arr = some g → w.heap.size ≤ g
  only : Only (fun b => b ∈ B0) w wr

theorem DWInv.le {w : World} {b : Nat} {B0 : List Nat} {l : List Rec} {now : Int} {wr : World} {v : Value} {ws : List Rec} (h : DWInv w b B0 l now wr v ws) (hid : (l.map (·.id)).Nodup) : ws.length ≤ l.length := by
  have nd : ws.Nodup := h.srt.imp fun {a b} hab e => by subst e; unfold ltk at hab; omega
  have hl : l.Nodup := by
    have := hid
    unfold List.Nodup at this
    rw [List.pairwise_map] at this
    exact this.imp fun h e => h (by rw [e])
  have : ws.Perm (l.filter fun r => decide (r ∈ ws)) := (List.perm_ext_iff_of_nodup nd (hl.filter _)).2 fun r => by
    simp only [List.mem_filter, decide_eq_true_eq]
    exact ⟨fun hr => ⟨(h.sub r hr).1, hr⟩, fun hr => hr.2⟩
  rw [this.length_eq]
  exact List.length_filter_le _ _

theorem DWInv.done {w : World} {b : Nat} {B0 : List Nat} {l : List Rec} {now : Int} {wr : World} {v : Value} {ws : List Rec} (h : DWInv w b B0 l now wr v ws) (hB0 : ∀ b ∈ B0, b < w.heap.size)
    (hno : ∀ r ∈ wokeD ws l, r.sleeps = true → now < r.till) : Woke now l ws ∧ Lvs B0 ((ints v (ws.map (·.id))).sep (docS b (wokenBy now l))) w wr := by
  have hw : ∀ r, r ∈ ws ↔ r ∈ l ∧ due now r = true := fun r => by
    constructor
    · intro hr
      obtain ⟨h1, h2, h3⟩ := h.sub r hr
      exact ⟨h1, by simp [due, h2, h3]⟩
    · rintro ⟨h1, h2⟩
      simp only [due, Bool.and_eq_true, decide_eq_true_eq] at h2
      by_cases hr : r ∈ ws
      · exact hr
      · have := hno r (wokeD_mem h1 hr) h2.1
        omega
  have he : wokeD ws l = wokenBy now l := by
    unfold wokeD wokenBy
    refine List.map_congr_left fun r hr => ?_
    by_cases hd : due now r = true
    · rw [if_pos ((hw r).2 ⟨hr, hd⟩), if_pos hd]
    · rw [if_neg (fun q => hd ((hw r).1 q).2), if_neg hd]
  obtain ⟨arr, tail, hrow, harr⟩ := h.row
  have hS := h.doc
  rw [he] at hS
  refine ⟨⟨hw, h.srt⟩, ⟨arr.toList ++ B0, ⟨arr.toList, B0, ⟨arr, tail, by simpa [List.map_map, Function.comp_def] using hrow, rfl⟩, hS, fun b hb hc => ?_, rfl⟩, fun b hb => ?_⟩, h.only⟩
  · have := harr b (by simpa using hb)
    have := hB0 b hc
    omega
  · rcases List.mem_append.1 hb with hb | hb
    · exact .inr (harr b (by simpa using hb))
    · exact .inl hb

/-- The next one woken. -/
theorem DWInv.step {w : World} {b : Nat} {B0 : List Nat} {l : List Rec} {now : Int} {wr w2 w3 w4 : World} {v' : Value} {ws : List Rec} {r : Rec} {arr : Option Nat} {g' : Nat} {tail' : List Value} {k : Nat} {v : Value}
    (h : DWInv w b B0 l now wr v ws) (hB0 : ∀ b ∈ B0, b < w.heap.size) (hid : (l.map (·.id)).Nodup) (harr : ∀ g, arr = some g → w.heap.size ≤ g)
    (hx : Ext wr w2) (hB : BestI (dv now (wokeD ws l)) (wokeD ws l).length (some k)) (hk : (wokeD ws l)[k]? = some r)
    (hd : (docS b (updR (wokeD ws l) r.id rouse)).at_ w3 B0) (ho3 : Only (fun b => b ∈ B0) w2 w3) (ho4 : Only (fun b => arr = some b) w3 w4)
    (hrow : Row w4 3 1 v' (ws.length + 1) ((ws.map fun r => Value.int .i64 r.id) ++ [.int .i64 r.id]) (some g') tail') (hg' : arr = some g' ∨ w3.heap.size ≤ g') :
    DWInv w b B0 l now w4 v' (ws ++ [r]) := by
  obtain ⟨_, rk, hrk, hrs, hmin⟩ := hB
  obtain rfl := Option.some.inj (hrk.symm.trans (dv_at hk))
  have hdue : due now r = true := by simpa [dvR] using hrs
  have hdue2 := hdue
  simp only [due, Bool.and_eq_true, decide_eq_true_eq] at hdue2
  obtain ⟨hol, hon'⟩ := wokeD_sleeper (List.mem_of_getElem? hk) hdue2.1
  rw [wokeD_snoc hid hol hon'] at hd
  have hnar : ∀ b ∈ B0, arr ≠ some b := fun b hb e => by
    have := harr b e
    have := hB0 b hb
    omega
  refine ⟨?_, ?_, ?_, ?_, ?_, ?_⟩
  · intro q hq
    rcases List.mem_append.1 hq with hq | hq
    · exact h.sub q hq
    · simp only [List.mem_cons, List.not_mem_nil, or_false] at hq; subst hq; exact ⟨hol, hdue2.1, hdue2.2⟩
  · rw [List.pairwise_append]
    refine ⟨h.srt, List.pairwise_singleton _ _, fun a ha b hb => ?_⟩
    simp only [List.mem_cons, List.not_mem_nil, or_false] at hb; subst hb
    exact h.low a ha _ hol hdue2.1 hon'
  · intro q hq x hx hxs hxn
    simp only [List.mem_append, List.mem_cons, List.not_mem_nil, or_false, not_or] at hq hxn
    rcases hq with hq | rfl
    · exact h.low q hq x hx hxs hxn.1
    · have hid2 : x.id ≠ q.id := fun e => hxn.2 (ids_eq hid hx hol e)
      by_cases hxd : x.till ≤ now
      · obtain ⟨i, hi⟩ := List.mem_iff_getElem?.1 (wokeD_mem hx hxn.1)
        have h1 := hmin i (List.getElem?_eq_some_iff.1 hi).1 _ (dv_at (now := now) hi) (by simp [dvR, due, hxs, hxd])
        have h1 : (decide (x.till < q.till) || (decide (x.till = q.till) && decide (x.id < q.id))) = false := h1
        simp only [Bool.or_eq_false_iff, Bool.and_eq_false_iff, decide_eq_false_iff_not] at h1
        show q.till < x.till ∨ q.till = x.till ∧ q.id < x.id
        omega
      · show q.till < x.till ∨ q.till = x.till ∧ q.id < x.id
        omega
  · exact (docS b _).keep hd ho4 (fun b hb e => hnar b hb e)
  · refine ⟨some g', tail', ?_, fun g hg => ?_⟩
    · simpa using hrow
    · cases hg
      rcases hg' with h1 | h1
      · exact harr _ h1
      · have := h.only.size; have := hx.size; have := ho3.size; omega
  · refine ((h.only.trans hx (fun _ _ h => h.elim)).trans ho3 (fun _ _ h => h)).trans ho4 (fun b hlt hb => ?_)
    have := harr b hb
    omega

def DWakePost (w : World) (b : Nat) (B : List Nat) (l : List Rec) (now : Int) (e : Ending) (w' : World) : Prop :=
  ∃ v ws, e = .returned v ∧ Woke now l ws ∧ Lvs B ((ints v (ws.map (·.id))).sep (docS b (wokenBy now l))) w w'

theorem BestI.none_due {now : Int} {l : List Rec} (h : BestI (dv now l) l.length none) : ∀ r ∈ l, r.sleeps = true → now < r.till := by
  intro r hr hs
  obtain ⟨i, hi⟩ := List.mem_iff_getElem?.1 hr
  have := h i (List.getElem?_eq_some_iff.1 hi).1 _ (dv_at (now := now) hi)
  simp [dvR, due, hs] at this
  omega

set_option maxRecDepth 100000 in
set_option maxHeartbeats 8000000 in
theorem dwake_calls {w : World} {b : Nat} {l : List Rec} {B : List Nat} (h : (docS b l).at_ w B) (hl : l.length ≤ 8) (hn : (l.map (·.id)).Nodup) (now : Int) :
    Calls Tryd.prog 26 #[.pointer (some ⟨b, 0, none⟩), .int .i64 now] w (DWakePost w b B l now) := by
  have HBW := Lib.hid ((docS b l).lt h)
  have HN := Lib.hid hn
  have H := Lib.hid h
  obtain ⟨n, hln⟩ : ∃ n, Hid (l.length = n) := ⟨_, rfl⟩
  rw [hln.out] at hl
  clear h hn
  go_enter Tryd.func26, Tryd.ntmps26
  go_wp2
  go_loopw [5] (fun v wr => ∃ ws, Hid (DWInv w b B l now wr v ws)) (fun v _ => n - lenV v)
  case atStart =>
    refine ⟨[], ⟨by simp, List.Pairwise.nil, by simp, ?_, ⟨none, [], Row.nil _ _ _, by simp⟩, Only.refl _ _⟩⟩
    have : wokeD [] l = l := by simp [wokeD]
    rw [this]
    exact H.out
  case round =>
    obtain ⟨ws, hA⟩ := hrel
    obtain ⟨arr, tail, hrow, harr⟩ := hA.out.row
    have hwl := hA.out.le HN.out
    rw [hln.out] at hwl
    obtain ⟨ao, cap, rfl⟩ := hrow.val
    obtain ⟨m, hm⟩ : ∃ m, Hid (ws.length = m) := ⟨_, rfl⟩
    rw [hm.out] at hrow hwl
    have HRW := Lib.hid hrow
    have HAR := Lib.hid harr
    obtain ⟨ad, capd, c0, f0, hel⟩ := docS_read hA.out.doc
    obtain ⟨lw, hlw⟩ : ∃ lw, Hid (wokeD ws l = lw) := ⟨_, rfl⟩
    have HLL : Hid (lw.length = n) := by rw [← hlw.out]; exact (wokeD_len ws l).trans hln.out
    have HA : Hid (DWInv w b B l now wr (.slice ao m cap) ws) := by rw [← hm.out]; exact hA
    rw [hm.out]
    rw [hlw.out] at c0 hel
    rw [HLL.out] at c0
    have HEL := Lib.hid hel
    have HBL := Lib.hid ((docS b _).lt hA.out.doc)
    have hbl : b < wr.heap.size := by
      obtain ⟨_, _, _, _, _, _, hB⟩ := hA.out.doc
      exact HBL.out b (by rw [hB]; simp)
    have HC0 := Lib.hid c0
    have HF0 := Lib.hid f0
    clear hrow harr hel c0 f0 hA
    obtain ⟨w1, rfl⟩ : ∃ w1, w1 = wr := ⟨_, rfl⟩
    go_wp2
    go_loopw [6, 7] (fun a i wr2 => ∃ (j : Nat) (c : Option Nat), i = .int .i64 j ∧ a = .int .i64 (idxV c) ∧ j ≤ n ∧ Hid (BestI (dv now lw) j c) ∧ Hid (Ext w1 wr2)) (fun _ i _ => n - (intOf i).toNat)
    case atStart => exact ⟨0, none, rfl, rfl, by omega, fun i hi => by omega, Only.refl _ _⟩
    case round =>
      obtain ⟨j, c, rfl, rfl, hj, hB, hx⟩ := hrel
      have c0 := Hp.Ext.cell hx.out HC0.out
      have hbr : b < wr.heap.size := Nat.lt_of_lt_of_le hbl hx.out.size
      by_cases hjn : j < n
      · obtain ⟨r, hr⟩ : ∃ r, lw[j]? = some r := ⟨_, List.getElem?_eq_getElem (by rw [HLL.out]; exact hjn)⟩
        obtain ⟨g, rfl, hgb, hgB, d0, d1, d2, d3, d4, _⟩ := HEL.out j r hr
        have hgr : g < wr.heap.size := Nat.lt_of_lt_of_le (HBL.out g hgB) hx.out.size
        have a0 := Hp.Ext.cell hx.out d0
        have a1 := Hp.Ext.cell hx.out d1
        have a2 := Hp.Ext.cell hx.out d2
        have a3 := Hp.Ext.cell hx.out d3
        have a4 := Hp.Ext.cell hx.out d4
        have HR := Lib.hid (dv_at (now := now) hr)
        have HNEW : ∀ cs, Hid (Ext w1 (wr.alloc cs)) := fun cs => hx.out.alloc cs
        have HNW := Lib.hid HNEW
        clear d0 d1 d2 d3 d4 HNEW
        cases c with
        | none =>
          have HA1 : Hid (r.sleeps = true → r.till ≤ now → BestI (dv now lw) (j + 1) (some j)) := fun h1 h2 => hB.out.take HR.out (by simp [dvR, due, h1, h2]) (.inl rfl)
          have HB1 : Hid ((r.sleeps = false ∨ now < r.till) → BestI (dv now lw) (j + 1) none) := fun h => hB.out.stay HR.out (.inl (by
            simp only [dvR, due, Bool.not_eq_true', Bool.and_eq_false_iff, decide_eq_false_iff_not]
            exact h.imp id (fun h => by omega)))
          simp only [idxV]
          obtain ⟨s, hs⟩ : ∃ s, Hid (r.sleeps = s) := ⟨_, rfl⟩
          obtain ⟨u, hu⟩ : ∃ u, Hid (r.till = u) := ⟨_, rfl⟩
          rw [hs.out] at a3 HA1 HB1
          rw [hu.out] at a4 HA1 HB1
          clear hr
          cases s
          all_goals (go_wp2_with (first
    | ((with_reducible refine Reg.wp_region_text ?_ ?_ ?_); (kernel_rfl); (kernel_rfl))
    | ((with_reducible refine Reg.text_nil ?_))
    | ((with_reducible refine Reg.text_plain ?_ ?_); (rfl); (intro K hK))
    | ((with_reducible apply Reg.text_nilCheck); (rfl); (intro K hK))
    | ((with_reducible apply Reg.text_bin); (rfl); (rfl); (intro K hK))
    | ((with_reducible refine Reg.text_loud ?_ ?_); (rfl); (intro K hK))
    | ((with_reducible refine Reg.text_skipG ?_ ?_); (rfl); (intro K hK))))
          all_goals go_roundw
          all_goals first
            | (simp [intOf]; omega)
            | exact ⟨j + 1, some j, by simp, rfl, by omega, HA1.out rfl (by omega), (HNW.out _).out.drewN 1⟩
            | exact ⟨j + 1, none, by simp, rfl, by omega, HB1.out (.inl rfl), (HNW.out _).out.drewN 1⟩
            | exact ⟨j + 1, none, by simp, rfl, by omega, HB1.out (.inr (by omega)), (HNW.out _).out.drewN 1⟩
        | some k =>
          obtain ⟨hkj, _⟩ := hB.out
          obtain ⟨rk, hrk⟩ : ∃ r, lw[k]? = some r := ⟨_, List.getElem?_eq_getElem (by rw [HLL.out]; omega)⟩
          have HRK := Lib.hid (dv_at (now := now) hrk)
          obtain ⟨g', e1, _, _, d0, _, _, _, d4, _⟩ := HEL.out k rk hrk
          cases e1
          have b0 := Hp.Ext.cell hx.out d0
          have b4 := Hp.Ext.cell hx.out d4
          have HA1 : Hid (r.sleeps = true → r.till ≤ now → (r.till < rk.till ∨ r.till = rk.till ∧ r.id < rk.id) → BestI (dv now lw) (j + 1) (some j)) := fun h1 h2 h3 => hB.out.take HR.out (by simp [dvR, due, h1, h2]) (.inr ⟨k, _, rfl, HRK.out, by
            rw [before_dv]; simp only [Bool.or_eq_true, Bool.and_eq_true, decide_eq_true_eq]; exact h3⟩)
          have HB1 : Hid ((r.sleeps = false ∨ now < r.till ∨ ¬ (r.till < rk.till ∨ r.till = rk.till ∧ r.id < rk.id)) → BestI (dv now lw) (j + 1) (some k)) := fun h => by
            rcases h with h | h | h
            · exact hB.out.stay HR.out (.inl (by simp [dvR, due, h]))
            · exact hB.out.stay HR.out (.inl (by simp only [dvR, due, Bool.not_eq_true', Bool.and_eq_false_iff, decide_eq_false_iff_not]; exact .inr (by omega)))
            · exact hB.out.stay HR.out (.inr ⟨k, _, rfl, HRK.out, by rw [before_dv]; simp only [Bool.or_eq_false_iff, Bool.and_eq_false_iff, decide_eq_false_iff_not]; omega⟩)
          simp only [idxV]
          clear d0 d4 hrk hr
          obtain ⟨s, hs⟩ : ∃ s, Hid (r.sleeps = s) := ⟨_, rfl⟩
          obtain ⟨u, hu⟩ : ∃ u, Hid (r.till = u) := ⟨_, rfl⟩
          obtain ⟨i0, hi0⟩ : ∃ i0, Hid (r.id = i0) := ⟨_, rfl⟩
          obtain ⟨uk, huk⟩ : ∃ uk, Hid (rk.till = uk) := ⟨_, rfl⟩
          obtain ⟨ik, hik⟩ : ∃ ik, Hid (rk.id = ik) := ⟨_, rfl⟩
          rw [hs.out] at a3 HA1 HB1
          rw [hu.out] at a4 HA1 HB1
          rw [hi0.out] at a0 HA1 HB1
          rw [huk.out] at b4 HA1 HB1
          rw [hik.out] at b0 HA1 HB1
          rcases Int.lt_trichotomy u uk with hlt | heq | hgt
          · cases s
            all_goals (go_wp2_with (first
    | ((with_reducible refine Reg.wp_region_text ?_ ?_ ?_); (kernel_rfl); (kernel_rfl))
    | ((with_reducible refine Reg.text_nil ?_))
    | ((with_reducible refine Reg.text_plain ?_ ?_); (rfl); (intro K hK))
    | ((with_reducible apply Reg.text_nilCheck); (rfl); (intro K hK))
    | ((with_reducible apply Reg.text_bin); (rfl); (rfl); (intro K hK))
    | ((with_reducible refine Reg.text_loud ?_ ?_); (rfl); (intro K hK))
    | ((with_reducible refine Reg.text_skipG ?_ ?_); (rfl); (intro K hK))))
            all_goals (try (exfalso; omega))
            all_goals go_roundw
            all_goals first
              | (simp [intOf]; omega)
              | exact ⟨j + 1, some j, by simp, rfl, by omega, HA1.out rfl (by omega) (by omega), (HNW.out _).out.drewN 1⟩
              | exact ⟨j + 1, some k, by simp, rfl, by omega, HB1.out (.inl rfl), (HNW.out _).out.drewN 1⟩
              | exact ⟨j + 1, some k, by simp, rfl, by omega, HB1.out (.inr (by omega)), (HNW.out _).out.drewN 1⟩
          · subst heq
            cases s
            all_goals (go_wp2_with (first
    | ((with_reducible refine Reg.wp_region_text ?_ ?_ ?_); (kernel_rfl); (kernel_rfl))
    | ((with_reducible refine Reg.text_nil ?_))
    | ((with_reducible refine Reg.text_plain ?_ ?_); (rfl); (intro K hK))
    | ((with_reducible apply Reg.text_nilCheck); (rfl); (intro K hK))
    | ((with_reducible apply Reg.text_bin); (rfl); (rfl); (intro K hK))
    | ((with_reducible refine Reg.text_loud ?_ ?_); (rfl); (intro K hK))
    | ((with_reducible refine Reg.text_skipG ?_ ?_); (rfl); (intro K hK))))
            all_goals (try (exfalso; omega))
            all_goals go_roundw
            all_goals first
              | (simp [intOf]; omega)
              | exact ⟨j + 1, some j, by simp, rfl, by omega, HA1.out rfl (by omega) (by omega), (HNW.out _).out.drewN 1⟩
              | exact ⟨j + 1, some k, by simp, rfl, by omega, HB1.out (.inl rfl), (HNW.out _).out.drewN 1⟩
              | exact ⟨j + 1, some k, by simp, rfl, by omega, HB1.out (.inr (by omega)), (HNW.out _).out.drewN 1⟩
          · have hne : (u == uk) = false := by simp; omega
            cases s
            all_goals (go_wp2_with (first
    | ((with_reducible refine Reg.wp_region_text ?_ ?_ ?_); (kernel_rfl); (kernel_rfl))
    | ((with_reducible refine Reg.text_nil ?_))
    | ((with_reducible refine Reg.text_plain ?_ ?_); (rfl); (intro K hK))
    | ((with_reducible apply Reg.text_nilCheck); (rfl); (intro K hK))
    | ((with_reducible apply Reg.text_bin); (rfl); (rfl); (intro K hK))
    | ((with_reducible refine Reg.text_loud ?_ ?_); (rfl); (intro K hK))
    | ((with_reducible refine Reg.text_skipG ?_ ?_); (rfl); (intro K hK))))
            all_goals (try (exfalso; omega))
            all_goals go_roundw
            all_goals first
              | (simp [intOf]; omega)
              | exact ⟨j + 1, some k, by simp, rfl, by omega, HB1.out (.inl rfl), (HNW.out _).out.drewN 1⟩
              | exact ⟨j + 1, some k, by simp, rfl, by omega, HB1.out (.inr (by omega)), (HNW.out _).out.drewN 1⟩
      · obtain rfl : j = n := by omega
        clear hjn hj
        cases c with
        | none =>
          have HE : Hid (Woke now l ws ∧ Lvs B ((ints (.slice ao m cap) (ws.map (·.id))).sep (docS b (wokenBy now l))) w wr) := by
            obtain ⟨q1, q2⟩ := HA.out.done HBW.out (by rw [hlw.out]; exact BestI.none_due (by have := hB.out; rwa [← HLL.out] at this))
            exact ⟨q1, q2.ext hx.out⟩
          simp only [idxV]
          go_wp2
          go_ret
          exact ⟨_, ws, rfl, HE.out.1, HE.out.2⟩
        | some k =>
          obtain ⟨hkj, _⟩ := hB.out
          obtain ⟨r, hr⟩ : ∃ r, lw[k]? = some r := ⟨_, List.getElem?_eq_getElem (by rw [HLL.out]; exact hkj)⟩
          obtain ⟨g, rfl, hgb, hgB, d0, _, _, d3, _, hfz⟩ := HEL.out k r hr
          have hdoc := docS_only HA.out.doc hx.out
          rw [hlw.out] at hdoc
          have hc0 := c0
          obtain ⟨q1, _⟩ := docS_store hdoc hr hc0 rfl 3 (.bool false) (rouse r) (by decide) rfl
          rw [set_updR rouse (by rw [← hlw.out, wokeD_id]; exact HN.out) hr rfl] at q1
          obtain ⟨ao2, cap2, cc, _, hel2⟩ := docS_read hdoc
          have e2 := Option.some.inj (hc0.symm.trans cc)
          simp only [Value.slice.injEq] at e2
          obtain ⟨g2, e3, _, _, _, _, _, _, _, hf2⟩ := hel2 k r hr
          rw [← e2.1] at e3
          cases e3
          have f3 := hf2 (k * 5 + 3)
          have a0 := Hp.Ext.cell hx.out d0
          have a3 := Hp.Ext.cell hx.out d3
          have hgb' : b ≠ g := fun e => hgb e.symm
          have hgr : g < wr.heap.size := Nat.lt_of_lt_of_le (HBL.out g hgB) hx.out.size
          have ho3 : Only (fun b => b ∈ B) wr (wr.setCell ⟨g, k * 5 + 3, none⟩ (.bool false)) := (Only.refl (fun b => b ∈ B) wr).setCell (a := ⟨g, k * 5 + 3, none⟩) _ (fun _ => hgB)
          have hnb : ∀ y, arr = some y → y ∉ B := fun y hy hb => by
            have := HAR.out y hy
            have := HBW.out y hb
            omega
          have HR2 : Hid (∀ o, Row ((wr.setCell ⟨g, k * 5 + 3, none⟩ (.bool false)).alloc o) 3 1 (.slice ao m cap) m (ws.map fun r => Value.int .i64 r.id) arr tail) := fun o => (HRW.out.of_only hx.out (fun _ _ h => h)).of_only (ho3.alloc o) hnb
          have HST := Lib.hid (fun (w4 : World) (v' : Value) (g' : Nat) (tail' : List Value) (ho4 : Only (fun b => arr = some b) (wr.setCell ⟨g, k * 5 + 3, none⟩ (.bool false)) w4)
            (hrow : Row w4 3 1 v' (ws.length + 1) ((ws.map fun r => Value.int .i64 r.id) ++ [.int .i64 r.id]) (some g') tail') (hg' : arr = some g' ∨ (wr.setCell ⟨g, k * 5 + 3, none⟩ (.bool false)).heap.size ≤ g') =>
            DWInv.step HA.out HBW.out HN.out HAR.out hx.out (by rw [hlw.out, HLL.out]; exact hB.out) (by rw [hlw.out]; exact hr) (by rw [hlw.out]; exact q1) ho3 ho4 hrow hg')
          rw [hm.out] at HST
          have hsz : (wr.setCell ⟨g, k * 5 + 3, none⟩ (.bool false)).heap.size = wr.heap.size := by simp [World.setCell]
          clear hdoc hc0 q1 cc hel2 e2 hf2 d0 d3 hr ho3 hnb hlw
          simp only [idxV]
          go_wp2_with (first
    | ((at_builtin; refine wpList_append_row ty_ints rfl _ _ rfl rfl (HR2.out _) ⟨_, 0, none⟩ 1 1 [.int .i64 r.id] rfl rfl (by decide) ?_ ?_ ?_ ?_ ?_; (exact one_new _ _ _ (by simp)); (simp [Value.oneCell']); (unfold maxLen; omega); (omega)))
    | ((with_reducible refine Reg.wp_region_text ?_ ?_ ?_); (kernel_rfl); (kernel_rfl))
    | ((with_reducible refine Reg.text_nil ?_))
    | ((with_reducible refine Reg.text_plain ?_ ?_); (rfl); (intro K hK))
    | ((with_reducible apply Reg.text_nilCheck); (rfl); (intro K hK))
    | ((with_reducible apply Reg.text_bin); (rfl); (rfl); (intro K hK))
    | ((with_reducible refine Reg.text_loud ?_ ?_); (rfl); (intro K hK))
    | ((with_reducible refine Reg.text_skipG ?_ ?_); (rfl); (intro K hK)))
          intro g' cap' w4 tail' q1 q2 q4
          have hA' := Lib.hid (HST.out w4 _ g' tail' (((Only.refl _ _).alloc _).trans q4 (fun _ _ h => h)) q1 (q2.imp (fun h => h) (fun h => by rw [h]; simp)))
          have hlt := hA'.out.le HN.out
          rw [hln.out, List.length_append, hm.out] at hlt
          simp only [List.length_cons, List.length_nil] at hlt
          clear q1 q2 q4 HR2
          go_wp2
          go_roundw
          case rel => exact ⟨_, hA'⟩
          case measure => simp [lenV]; omega
end Go.Proofs.YtjchfkpcglpgdaaDoor
