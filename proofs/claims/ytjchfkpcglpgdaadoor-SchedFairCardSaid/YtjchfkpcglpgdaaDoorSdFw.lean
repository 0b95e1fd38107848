/-
  SchedFair's walk.
-/
import Derived.Test.YtjchfkpcglpgdaaDoorSdFp
set_option linter.unusedSimpArgs false
set_option linter.unusedVariables false
namespace Go.Proofs.YtjchfkpcglpgdaaDoor
open Go.RowKit Go.Hp

theorem ow_ints_len {w0 w : World} {R : Thing} {v : Value} {l : List Int} {n : Nat} (h : Owns w0 w ((ints v l).sep R)) (hn : l.length = n) : ∃ ao cap, v = .slice ao n cap := by
  subst hn
  exact (ow_ints h).len
theorem sameInts_true {w : World} {v1 v2 : Value} {l : List Int} (h1 : IntsAt w v1 l) (h2 : IntsAt w v2 l) (hl1 : l.length < 9223372036854775807) :
    Calls Tryd.prog 19 #[v1, v2] w (Same w (.bool true)) := by
  have := sameInts_calls h1 h2 hl1 hl1
  simpa using this

theorem ints_one (w : World) (x : Int) (t : TypeId) : IntsAt (w.alloc (.cells #[.int .i64 x] t)) (.slice (some ⟨w.heap.size, 0, none⟩) 1 1) [x] :=
  ⟨_, 1, rfl, .inr ⟨_, 0, rfl, fun i y hi => by
    cases i with
    | zero => simp at hi; subst hi; exact (Blk.new w #[.int .i64 x] t).cell_some rfl
    | succ i => simp at hi⟩⟩

def many (n : Nat) : Prop := 1 < n
def one (n : Nat) : Prop := n ≤ 1

set_option maxRecDepth 100000 in
set_option maxHeartbeats 4000000 in
theorem fair_many {W : World} {zs : List Int} {ao : Option Addr} {cap n : Nat} (HV : Hid (IntsAt W (.slice ao n cap) zs)) (hn : Hid (zs.length = n)) (hn1 : 0 < n) (hn8 : n ≤ 8) (hq : many n) (tu out : Int) :
    Calls Tryd.prog 4 #[.slice ao n cap, .int .i64 tu, .int .i64 out] W fun e w' => e = .returned (.bool true) ∧ Ext W w' := by
  have ht1 := Int.emod_nonneg tu (show (200 : Int) ≠ 0 by decide)
  have ht2 := Int.emod_lt_of_pos tu (show (0 : Int) < 200 by decide)
  have HN1 := Lib.hid (number_calls (x := tu) (m := 200))
  have ho1 := Int.emod_nonneg out (show (n : Int) ≠ 0 by omega)
  have ho2 := Int.emod_lt_of_pos out (show (0 : Int) < (n : Int) by omega)
  have HN2 := Lib.hid (number_calls (x := out) (m := n))
  generalize tu % 200 = turns at *
  generalize out % (n : Int) = o at *
  have HC := Lib.hid (intsAt_cell HV.out)
  have h0' : ((n : Int) == 0) = false := by simp; omega
  unfold many at hq
  go_enter Tryd.func4, Tryd.ntmps4
  go_wp2_with (first
    | ((go_at_call 8; refine (first_calls W).mono ?_; rintro e w1 ⟨rfl, hw1⟩; have HW1 := Lib.hid (Owns.begin_ hw1); clear hw1))
    | ((go_at_call 9; refine (HN1.out _ (by decide) (by decide)).mono ?_; rintro e w2 ⟨rfl, m, rfl⟩; have HW2 := Lib.hid (HW1.out.drewN m); clear HW1))
    | ((go_at_call 10; refine (ow_new HW2).mono ?_; rintro e w3 ⟨bs, rfl, HO⟩; clear HW2))
    | ((with_reducible refine Reg.wp_region_text ?_ ?_ ?_); (kernel_rfl); (kernel_rfl))
    | ((with_reducible refine Reg.text_nil ?_))
    | ((with_reducible refine Reg.text_plain ?_ ?_); (rfl); (intro K hK))
    | ((with_reducible apply Reg.text_nilCheck); (rfl); (intro K hK))
    | ((with_reducible apply Reg.text_bin); (rfl); (rfl); (intro K hK))
    | ((with_reducible refine Reg.text_loud ?_ ?_); (rfl); (intro K hK))
    | ((with_reducible refine Reg.text_skipG ?_ ?_); (rfl); (intro K hK)))
  go_loopw [10] (fun i wr => ∃ (k : Nat) (l : List Rec), i = .int .i64 k ∧ k ≤ n ∧ Hid (FairA k l) ∧ Hid (Owns W wr ((sch bs l).sep nothing))) (fun i _ => n - (intOf i).toNat)
  case atStart => exact ⟨0, [], rfl, by omega, FairA.nil, HO⟩
  case round =>
    obtain ⟨k, l, rfl, hk, hA, HO⟩ := hrel
    by_cases hlt : k < n
    · obtain ⟨x, hx⟩ : ∃ x, zs[k]? = some x := ⟨_, List.getElem?_eq_getElem (by rw [hn.out]; exact hlt)⟩
      obtain ⟨ao', cap', e1, hcell⟩ := HC.out
      cases e1
      obtain ⟨b0, off0, rfl, c0⟩ := hcell k x hx
      have c0' := Hp.Ext.cell HO.out.start c0
      have hx1 := Int.emod_nonneg x (show (100 : Int) ≠ 0 by decide)
      have hx2 := Int.emod_lt_of_pos x (show (0 : Int) < 100 by decide)
      have HNx := Lib.hid (number_calls (x := x) (m := 100))
      generalize x % 100 = y at *
      clear hcell hx c0
      go_wp2_with (first
    | ((go_at_call 9; refine (HNx.out _ (by decide) (by decide)).mono ?_; rintro e w4 ⟨rfl, m4, rfl⟩; have HO4 := Lib.hid (HO.out.drewN m4)))
    | ((go_at_call 11; refine (ow_add HO4 _ _ ?_ ?_ ?_ ?_ hA.out.new).mono ?_; (focus omega); (focus omega); (focus omega); (focus omega); rintro e w5 ⟨rfl, u, hu, HO5⟩; clear HO4))
    | ((with_reducible refine Reg.wp_region_text ?_ ?_ ?_); (kernel_rfl); (kernel_rfl))
    | ((with_reducible refine Reg.text_nil ?_))
    | ((with_reducible refine Reg.text_plain ?_ ?_); (rfl); (intro K hK))
    | ((with_reducible apply Reg.text_nilCheck); (rfl); (intro K hK))
    | ((with_reducible apply Reg.text_bin); (rfl); (rfl); (intro K hK))
    | ((with_reducible refine Reg.text_loud ?_ ?_); (rfl); (intro K hK))
    | ((with_reducible refine Reg.text_skipG ?_ ?_); (rfl); (intro K hK)))
      go_roundw
      case rel => exact ⟨k + 1, _, by simp, by omega, hA.out.snoc hu.out, HO5⟩
      case measure => simp [intOf]; omega
    · obtain rfl : k = n := by omega
      clear hlt hk HC
      have hmem : ∃ r ∈ l, r.id = o := by
        obtain ⟨r, hr, hri⟩ := ids_get hA.out.ids (k := o.toNat) (by omega)
        exact ⟨r, hr, by omega⟩
      obtain ⟨r0, hr0, hr0i⟩ := hmem
      have HR0 := Lib.hid hr0
      have HR0i := Lib.hid hr0i
      have HF1 : Hid (k ≤ 1 → FairL k o turns l) := fun h => by obtain rfl : k = 1 := (by omega); exact hA.out.one
      have HFm : Hid (1 < k → FairL k o turns (updR l o fun x => { x with sleeps := true, till := turns })) := fun h => hA.out.many h
      clear hr0 hr0i
      go_wp2_with (first
    | ((go_at_call 9; refine (HN2.out _ (by omega) (by omega)).mono ?_; rintro e w4 ⟨rfl, m4, rfl⟩; have HO4 := Lib.hid (HO.out.drewN m4); clear HO))
    | ((go_at_call 16; refine (ow_sleep HO4 HR0.out _ ?_ ?_ HR0i.out).mono ?_; (focus omega); (focus omega); rintro e w5 ⟨rfl, HO5⟩; clear HO4))
    | ((with_reducible refine Reg.wp_region_text ?_ ?_ ?_); (kernel_rfl); (kernel_rfl))
    | ((with_reducible refine Reg.text_nil ?_))
    | ((with_reducible refine Reg.text_plain ?_ ?_); (rfl); (intro K hK))
    | ((with_reducible apply Reg.text_nilCheck); (rfl); (intro K hK))
    | ((with_reducible apply Reg.text_bin); (rfl); (rfl); (intro K hK))
    | ((with_reducible refine Reg.text_loud ?_ ?_); (rfl); (intro K hK))
    | ((with_reducible refine Reg.text_skipG ?_ ?_); (rfl); (intro K hK)))
      all_goals (try (exfalso; omega))
      first
        | (have HL := Lib.hid (HFm.out hq); have HOO := HO5; clear HO5)
        | (have HL := Lib.hid (HF1.out hq); have HOO := HO4; clear HO4)
      clear HF1 HFm HR0 HR0i HN1 HN2 hA
      go_loopw [12] (fun i wr => ∃ (j : Nat) (l : List Rec), i = .int .i64 j ∧ (j : Int) ≤ turns ∧ Hid (FairL k o turns l) ∧ Hid (Owns W wr ((sch bs l).sep nothing))) (fun i _ => turns.toNat - (intOf i).toNat)
      case atStart => exact ⟨0, _, rfl, by omega, HL, HOO⟩
      case round =>
        obtain ⟨j, l, rfl, hj, hL, HO⟩ := hrel
        by_cases hjt : (j : Int) < turns
        · obtain ⟨r, hb, hrl, hrs, hro, hrm⟩ := hL.out.best hn1 ho1 ho2
          have HL2 := Lib.hid (hL.out.ran (ow_ids HO.out) (ow_ok HO.out) hrl hrs hrm)
          obtain ⟨i0, hi0⟩ : ∃ i0, Hid (r.id = i0) := ⟨_, rfl⟩
          rw [hi0.out] at HL2
          have hio : 1 < k → (i0 == o) = false := fun h => by rw [← hi0.out]; simpa using hro h
          have HB := Lib.hid hb
          have HRL := Lib.hid hrl
          clear hb hrl hrs hro hrm
          go_wp2_with (first
    | ((go_at_call 17; refine (ow_pick_some HO HB.out hi0.out).mono ?_; rintro e w4 ⟨rfl, HO4⟩))
    | ((go_at_call 12; refine (ow_ran HO4 HRL.out 100 (by decide) (by decide) hi0.out).mono ?_; rintro e w5 ⟨rfl, HO5⟩; clear HO4))
    | ((with_reducible refine Reg.wp_region_text ?_ ?_ ?_); (kernel_rfl); (kernel_rfl))
    | ((with_reducible refine Reg.text_nil ?_))
    | ((with_reducible refine Reg.text_plain ?_ ?_); (rfl); (intro K hK))
    | ((with_reducible apply Reg.text_nilCheck); (rfl); (intro K hK))
    | ((with_reducible apply Reg.text_bin); (rfl); (rfl); (intro K hK))
    | ((with_reducible refine Reg.text_loud ?_ ?_); (rfl); (intro K hK))
    | ((with_reducible refine Reg.text_skipG ?_ ?_); (rfl); (intro K hK)))
          all_goals (try (exfalso; omega))
          have HL2' : Hid (∃ l2, Hid (l2 = updR l i0 fun x => { x with used := usedBy x 100 })) := ⟨_, rfl⟩
          obtain ⟨l2, hl2⟩ := HL2'.out
          rw [← hl2.out] at HL2 HO5
          have HOK := Lib.hid (ow_ok HO5.out)
          clear HL2' hl2 HB HRL HL HO hi0
          go_loopw [15, 16, 17] (fun a b c wr => ∃ (least most : Int) (t : Nat), a = .int .i64 least ∧ b = .int .i64 most ∧ c = .int .i64 t ∧ t ≤ k ∧ Hid (Spread l2 least most) ∧ Hid (Owns W wr ((sch bs l2).sep nothing))) (fun _ _ c _ => k - (intOf c).toNat)
          case atStart => exact ⟨-1, 0, 0, rfl, rfl, rfl, by omega, .inl ⟨rfl, rfl⟩, HO5⟩
          case round =>
            obtain ⟨least, most, t, rfl, rfl, rfl, ht, hS, HO⟩ := hrel
            obtain ⟨g1, g2, g3, g4, g5⟩ := HL2.out.spread HOK.out hS.out
            by_cases htk : t < k
            · obtain ⟨s, hs, hsi⟩ := ids_get HL2.out.ids htk
              have hslp := HL2.out.slp s hs
              have hu1 := (HOK.out s hs).u1
              have hu2 := (HOK.out s hs).u2
              have HST : Hid (s.sleeps = false → Spread l2 (if least < 0 ∨ s.used < least then s.used else least) (max most s.used)) := fun h => hS.out.step hs h HOK.out
              have HS := Lib.hid hs
              have HSI := Lib.hid hsi
              obtain ⟨u, hu⟩ : ∃ u, Hid (s.used = u) := ⟨_, rfl⟩
              rw [hu.out] at HST hu1 hu2
              by_cases hto : 1 < k ∧ (t : Int) = o
              · have hb : ((t : Int) == o) = true := by simpa using hto.2
                have hk1 := hto.1
                clear hslp hto hs hsi HST
                go_wp2_with (first
    | ((go_at_call 13; refine (ow_used HO HS.out HSI.out hu.out).mono ?_; rintro e w6 ⟨rfl, HO6⟩))
    | ((with_reducible refine Reg.wp_region_text ?_ ?_ ?_); (kernel_rfl); (kernel_rfl))
    | ((with_reducible refine Reg.text_nil ?_))
    | ((with_reducible refine Reg.text_plain ?_ ?_); (rfl); (intro K hK))
    | ((with_reducible apply Reg.text_nilCheck); (rfl); (intro K hK))
    | ((with_reducible apply Reg.text_bin); (rfl); (rfl); (intro K hK))
    | ((with_reducible refine Reg.text_loud ?_ ?_); (rfl); (intro K hK))
    | ((with_reducible refine Reg.text_skipG ?_ ?_); (rfl); (intro K hK)))
                all_goals (try (exfalso; omega))
                all_goals go_roundw
                all_goals first
                  | (simp [intOf]; omega)
                  | exact ⟨least, most, t + 1, rfl, rfl, by simp, by omega, hS, HO6⟩
              · have hns : s.sleeps = false := by
                  cases hss : s.sleeps with
                  | false => rfl
                  | true => have := hslp.1 hss; rw [hsi] at this; exact absurd this hto
                have HSp := Lib.hid (HST.out hns)
                have hb : 1 < k → ((t : Int) == o) = false := fun h => by simp; intro e; exact hto ⟨h, e⟩
                have HA : Hid (least < 0 ∨ u < least → Spread l2 u (max most u)) := fun h => by have := HSp.out; rwa [if_pos h] at this
                have HB : Hid (¬ (least < 0 ∨ u < least) → Spread l2 least (max most u)) := fun h => by have := HSp.out; rwa [if_neg h] at this
                clear hslp hto hs hsi HST hns HSp
                go_wp2_with (first
    | ((go_at_call 13; refine (ow_used HO HS.out HSI.out hu.out).mono ?_; rintro e w6 ⟨rfl, HO6⟩))
    | ((with_reducible refine Reg.wp_region_text ?_ ?_ ?_); (kernel_rfl); (kernel_rfl))
    | ((with_reducible refine Reg.text_nil ?_))
    | ((with_reducible refine Reg.text_plain ?_ ?_); (rfl); (intro K hK))
    | ((with_reducible apply Reg.text_nilCheck); (rfl); (intro K hK))
    | ((with_reducible apply Reg.text_bin); (rfl); (rfl); (intro K hK))
    | ((with_reducible refine Reg.text_loud ?_ ?_); (rfl); (intro K hK))
    | ((with_reducible refine Reg.text_skipG ?_ ?_); (rfl); (intro K hK)))
                all_goals (try (exfalso; omega))
                all_goals go_roundw
                all_goals first
                  | (simp [intOf]; omega)
                  | exact ⟨u, _, t + 1, rfl, rfl, by simp, by omega, HA.out (by omega), HO6⟩
                  | exact ⟨least, _, t + 1, rfl, rfl, by simp, by omega, HB.out (by omega), HO6⟩
            · obtain rfl : t = k := by omega
              go_wp2_with (first
    | ((with_reducible refine Reg.wp_region_text ?_ ?_ ?_); (kernel_rfl); (kernel_rfl))
    | ((with_reducible refine Reg.text_nil ?_))
    | ((with_reducible refine Reg.text_plain ?_ ?_); (rfl); (intro K hK))
    | ((with_reducible apply Reg.text_nilCheck); (rfl); (intro K hK))
    | ((with_reducible apply Reg.text_bin); (rfl); (rfl); (intro K hK))
    | ((with_reducible refine Reg.text_loud ?_ ?_); (rfl); (intro K hK))
    | ((with_reducible refine Reg.text_skipG ?_ ?_); (rfl); (intro K hK)))
              all_goals (try (exfalso; omega))
              go_roundw
              case rel => exact ⟨j + 1, l2, by simp, by omega, HL2, HO⟩
              case measure => simp [intOf]; omega
        · have hjt' : turns ≤ (j : Int) := by omega
          clear hjt
          have HID := Lib.hid (ow_ids HO.out)
          go_wp2_with (first
    | ((go_at_call 18; ((with_reducible refine (ow_wake HO (turns - 1)).mono ?_)); rintro e w4 ⟨v1, ws1, rfl, hw1, HO4⟩; obtain ⟨rfl, hwk⟩ := hL.out.early hw1.out (by omega); rw [hwk] at HO4; obtain ⟨ao1, cap1, hv1⟩ := (ow_ints HO4.out).len; simp only [List.map_nil, List.length_nil] at hv1; subst hv1; have HO4' := Lib.hid HO4.out.drop; clear HO4 hwk hw1 HO))
    | ((go_at_call 18; ((with_reducible refine (ow_wake HO4' turns).mono ?_)); rintro e w5 ⟨v2, ws2, rfl, hw2, HO5⟩; have hnow := hL.out.now HID.out hw2.out ho1 ho2; (first | rw [if_pos hq] at hnow | rw [if_neg (by omega)] at hnow); rw [hnow] at HO5; (first | obtain ⟨ao2, cap2, rfl⟩ := ow_ints_len (n := 1) HO5.out rfl | obtain ⟨ao2, cap2, rfl⟩ := ow_ints_len (n := 0) HO5.out rfl); have HAT := Lib.hid (ow_ints HO5.out); have HO6 := Lib.hid HO5.out.drop; clear hw2 HO5 hnow HO4'))
    | ((go_at_call 19; ((with_reducible refine (sameInts_true (HAT.out.ext ((Only.refl _ w5).alloc _)) (ints_one w5 o 3) (by simp)).mono ?_)); rintro e w6 ⟨rfl, m6, rfl⟩))
    | ((with_reducible refine Reg.wp_region_text ?_ ?_ ?_); (kernel_rfl); (kernel_rfl))
    | ((with_reducible refine Reg.text_nil ?_))
    | ((with_reducible refine Reg.text_plain ?_ ?_); (rfl); (intro K hK))
    | ((with_reducible apply Reg.text_nilCheck); (rfl); (intro K hK))
    | ((with_reducible apply Reg.text_bin); (rfl); (rfl); (intro K hK))
    | ((with_reducible refine Reg.text_loud ?_ ?_); (rfl); (intro K hK))
    | ((with_reducible refine Reg.text_skipG ?_ ?_); (rfl); (intro K hK)))
          all_goals (try (exfalso; omega))
          all_goals go_ret
          all_goals first
            | exact ⟨rfl, HO6.out.start⟩
            | exact ⟨rfl, (HO6.out.start.alloc _).drewN _⟩
set_option maxRecDepth 100000 in
set_option maxHeartbeats 4000000 in
theorem fair_one {W : World} {zs : List Int} {ao : Option Addr} {cap n : Nat} (HV : Hid (IntsAt W (.slice ao n cap) zs)) (hn : Hid (zs.length = n)) (hn1 : 0 < n) (hn8 : n ≤ 8) (hq : one n) (tu out : Int) :
    Calls Tryd.prog 4 #[.slice ao n cap, .int .i64 tu, .int .i64 out] W fun e w' => e = .returned (.bool true) ∧ Ext W w' := by
  have ht1 := Int.emod_nonneg tu (show (200 : Int) ≠ 0 by decide)
  have ht2 := Int.emod_lt_of_pos tu (show (0 : Int) < 200 by decide)
  have HN1 := Lib.hid (number_calls (x := tu) (m := 200))
  have ho1 := Int.emod_nonneg out (show (n : Int) ≠ 0 by omega)
  have ho2 := Int.emod_lt_of_pos out (show (0 : Int) < (n : Int) by omega)
  have HN2 := Lib.hid (number_calls (x := out) (m := n))
  generalize tu % 200 = turns at *
  generalize out % (n : Int) = o at *
  have HC := Lib.hid (intsAt_cell HV.out)
  have h0' : ((n : Int) == 0) = false := by simp; omega
  unfold one at hq
  go_enter Tryd.func4, Tryd.ntmps4
  go_wp2_with (first
    | ((go_at_call 8; refine (first_calls W).mono ?_; rintro e w1 ⟨rfl, hw1⟩; have HW1 := Lib.hid (Owns.begin_ hw1); clear hw1))
    | ((go_at_call 9; refine (HN1.out _ (by decide) (by decide)).mono ?_; rintro e w2 ⟨rfl, m, rfl⟩; have HW2 := Lib.hid (HW1.out.drewN m); clear HW1))
    | ((go_at_call 10; refine (ow_new HW2).mono ?_; rintro e w3 ⟨bs, rfl, HO⟩; clear HW2))
    | ((with_reducible refine Reg.wp_region_text ?_ ?_ ?_); (kernel_rfl); (kernel_rfl))
    | ((with_reducible refine Reg.text_nil ?_))
    | ((with_reducible refine Reg.text_plain ?_ ?_); (rfl); (intro K hK))
    | ((with_reducible apply Reg.text_nilCheck); (rfl); (intro K hK))
    | ((with_reducible apply Reg.text_bin); (rfl); (rfl); (intro K hK))
    | ((with_reducible refine Reg.text_loud ?_ ?_); (rfl); (intro K hK))
    | ((with_reducible refine Reg.text_skipG ?_ ?_); (rfl); (intro K hK)))
  go_loopw [10] (fun i wr => ∃ (k : Nat) (l : List Rec), i = .int .i64 k ∧ k ≤ n ∧ Hid (FairA k l) ∧ Hid (Owns W wr ((sch bs l).sep nothing))) (fun i _ => n - (intOf i).toNat)
  case atStart => exact ⟨0, [], rfl, by omega, FairA.nil, HO⟩
  case round =>
    obtain ⟨k, l, rfl, hk, hA, HO⟩ := hrel
    by_cases hlt : k < n
    · obtain ⟨x, hx⟩ : ∃ x, zs[k]? = some x := ⟨_, List.getElem?_eq_getElem (by rw [hn.out]; exact hlt)⟩
      obtain ⟨ao', cap', e1, hcell⟩ := HC.out
      cases e1
      obtain ⟨b0, off0, rfl, c0⟩ := hcell k x hx
      have c0' := Hp.Ext.cell HO.out.start c0
      have hx1 := Int.emod_nonneg x (show (100 : Int) ≠ 0 by decide)
      have hx2 := Int.emod_lt_of_pos x (show (0 : Int) < 100 by decide)
      have HNx := Lib.hid (number_calls (x := x) (m := 100))
      generalize x % 100 = y at *
      clear hcell hx c0
      go_wp2_with (first
    | ((go_at_call 9; refine (HNx.out _ (by decide) (by decide)).mono ?_; rintro e w4 ⟨rfl, m4, rfl⟩; have HO4 := Lib.hid (HO.out.drewN m4)))
    | ((go_at_call 11; refine (ow_add HO4 _ _ ?_ ?_ ?_ ?_ hA.out.new).mono ?_; (focus omega); (focus omega); (focus omega); (focus omega); rintro e w5 ⟨rfl, u, hu, HO5⟩; clear HO4))
    | ((with_reducible refine Reg.wp_region_text ?_ ?_ ?_); (kernel_rfl); (kernel_rfl))
    | ((with_reducible refine Reg.text_nil ?_))
    | ((with_reducible refine Reg.text_plain ?_ ?_); (rfl); (intro K hK))
    | ((with_reducible apply Reg.text_nilCheck); (rfl); (intro K hK))
    | ((with_reducible apply Reg.text_bin); (rfl); (rfl); (intro K hK))
    | ((with_reducible refine Reg.text_loud ?_ ?_); (rfl); (intro K hK))
    | ((with_reducible refine Reg.text_skipG ?_ ?_); (rfl); (intro K hK)))
      go_roundw
      case rel => exact ⟨k + 1, _, by simp, by omega, hA.out.snoc hu.out, HO5⟩
      case measure => simp [intOf]; omega
    · obtain rfl : k = n := by omega
      clear hlt hk HC
      have hmem : ∃ r ∈ l, r.id = o := by
        obtain ⟨r, hr, hri⟩ := ids_get hA.out.ids (k := o.toNat) (by omega)
        exact ⟨r, hr, by omega⟩
      obtain ⟨r0, hr0, hr0i⟩ := hmem
      have HR0 := Lib.hid hr0
      have HR0i := Lib.hid hr0i
      have HF1 : Hid (k ≤ 1 → FairL k o turns l) := fun h => by obtain rfl : k = 1 := (by omega); exact hA.out.one
      have HFm : Hid (1 < k → FairL k o turns (updR l o fun x => { x with sleeps := true, till := turns })) := fun h => hA.out.many h
      clear hr0 hr0i
      go_wp2_with (first
    | ((go_at_call 9; refine (HN2.out _ (by omega) (by omega)).mono ?_; rintro e w4 ⟨rfl, m4, rfl⟩; have HO4 := Lib.hid (HO.out.drewN m4); clear HO))
    | ((go_at_call 16; refine (ow_sleep HO4 HR0.out _ ?_ ?_ HR0i.out).mono ?_; (focus omega); (focus omega); rintro e w5 ⟨rfl, HO5⟩; clear HO4))
    | ((with_reducible refine Reg.wp_region_text ?_ ?_ ?_); (kernel_rfl); (kernel_rfl))
    | ((with_reducible refine Reg.text_nil ?_))
    | ((with_reducible refine Reg.text_plain ?_ ?_); (rfl); (intro K hK))
    | ((with_reducible apply Reg.text_nilCheck); (rfl); (intro K hK))
    | ((with_reducible apply Reg.text_bin); (rfl); (rfl); (intro K hK))
    | ((with_reducible refine Reg.text_loud ?_ ?_); (rfl); (intro K hK))
    | ((with_reducible refine Reg.text_skipG ?_ ?_); (rfl); (intro K hK)))
      all_goals (try (exfalso; omega))
      first
        | (have HL := Lib.hid (HFm.out hq); have HOO := HO5; clear HO5)
        | (have HL := Lib.hid (HF1.out hq); have HOO := HO4; clear HO4)
      clear HF1 HFm HR0 HR0i HN1 HN2 hA
      go_loopw [12] (fun i wr => ∃ (j : Nat) (l : List Rec), i = .int .i64 j ∧ (j : Int) ≤ turns ∧ Hid (FairL k o turns l) ∧ Hid (Owns W wr ((sch bs l).sep nothing))) (fun i _ => turns.toNat - (intOf i).toNat)
      case atStart => exact ⟨0, _, rfl, by omega, HL, HOO⟩
      case round =>
        obtain ⟨j, l, rfl, hj, hL, HO⟩ := hrel
        by_cases hjt : (j : Int) < turns
        · obtain ⟨r, hb, hrl, hrs, hro, hrm⟩ := hL.out.best hn1 ho1 ho2
          have HL2 := Lib.hid (hL.out.ran (ow_ids HO.out) (ow_ok HO.out) hrl hrs hrm)
          obtain ⟨i0, hi0⟩ : ∃ i0, Hid (r.id = i0) := ⟨_, rfl⟩
          rw [hi0.out] at HL2
          have hio : 1 < k → (i0 == o) = false := fun h => by rw [← hi0.out]; simpa using hro h
          have HB := Lib.hid hb
          have HRL := Lib.hid hrl
          clear hb hrl hrs hro hrm
          go_wp2_with (first
    | ((go_at_call 17; refine (ow_pick_some HO HB.out hi0.out).mono ?_; rintro e w4 ⟨rfl, HO4⟩))
    | ((go_at_call 12; refine (ow_ran HO4 HRL.out 100 (by decide) (by decide) hi0.out).mono ?_; rintro e w5 ⟨rfl, HO5⟩; clear HO4))
    | ((with_reducible refine Reg.wp_region_text ?_ ?_ ?_); (kernel_rfl); (kernel_rfl))
    | ((with_reducible refine Reg.text_nil ?_))
    | ((with_reducible refine Reg.text_plain ?_ ?_); (rfl); (intro K hK))
    | ((with_reducible apply Reg.text_nilCheck); (rfl); (intro K hK))
    | ((with_reducible apply Reg.text_bin); (rfl); (rfl); (intro K hK))
    | ((with_reducible refine Reg.text_loud ?_ ?_); (rfl); (intro K hK))
    | ((with_reducible refine Reg.text_skipG ?_ ?_); (rfl); (intro K hK)))
          all_goals (try (exfalso; omega))
          have HL2' : Hid (∃ l2, Hid (l2 = updR l i0 fun x => { x with used := usedBy x 100 })) := ⟨_, rfl⟩
          obtain ⟨l2, hl2⟩ := HL2'.out
          rw [← hl2.out] at HL2 HO5
          have HOK := Lib.hid (ow_ok HO5.out)
          clear HL2' hl2 HB HRL HL HO hi0
          go_loopw [15, 16, 17] (fun a b c wr => ∃ (least most : Int) (t : Nat), a = .int .i64 least ∧ b = .int .i64 most ∧ c = .int .i64 t ∧ t ≤ k ∧ Hid (Spread l2 least most) ∧ Hid (Owns W wr ((sch bs l2).sep nothing))) (fun _ _ c _ => k - (intOf c).toNat)
          case atStart => exact ⟨-1, 0, 0, rfl, rfl, rfl, by omega, .inl ⟨rfl, rfl⟩, HO5⟩
          case round =>
            obtain ⟨least, most, t, rfl, rfl, rfl, ht, hS, HO⟩ := hrel
            obtain ⟨g1, g2, g3, g4, g5⟩ := HL2.out.spread HOK.out hS.out
            by_cases htk : t < k
            · obtain ⟨s, hs, hsi⟩ := ids_get HL2.out.ids htk
              have hslp := HL2.out.slp s hs
              have hu1 := (HOK.out s hs).u1
              have hu2 := (HOK.out s hs).u2
              have HST : Hid (s.sleeps = false → Spread l2 (if least < 0 ∨ s.used < least then s.used else least) (max most s.used)) := fun h => hS.out.step hs h HOK.out
              have HS := Lib.hid hs
              have HSI := Lib.hid hsi
              obtain ⟨u, hu⟩ : ∃ u, Hid (s.used = u) := ⟨_, rfl⟩
              rw [hu.out] at HST hu1 hu2
              by_cases hto : 1 < k ∧ (t : Int) = o
              · have hb : ((t : Int) == o) = true := by simpa using hto.2
                have hk1 := hto.1
                clear hslp hto hs hsi HST
                go_wp2_with (first
    | ((go_at_call 13; refine (ow_used HO HS.out HSI.out hu.out).mono ?_; rintro e w6 ⟨rfl, HO6⟩))
    | ((with_reducible refine Reg.wp_region_text ?_ ?_ ?_); (kernel_rfl); (kernel_rfl))
    | ((with_reducible refine Reg.text_nil ?_))
    | ((with_reducible refine Reg.text_plain ?_ ?_); (rfl); (intro K hK))
    | ((with_reducible apply Reg.text_nilCheck); (rfl); (intro K hK))
    | ((with_reducible apply Reg.text_bin); (rfl); (rfl); (intro K hK))
    | ((with_reducible refine Reg.text_loud ?_ ?_); (rfl); (intro K hK))
    | ((with_reducible refine Reg.text_skipG ?_ ?_); (rfl); (intro K hK)))
                all_goals (try (exfalso; omega))
                all_goals go_roundw
                all_goals first
                  | (simp [intOf]; omega)
                  | exact ⟨least, most, t + 1, rfl, rfl, by simp, by omega, hS, HO6⟩
              · have hns : s.sleeps = false := by
                  cases hss : s.sleeps with
                  | false => rfl
                  | true => have := hslp.1 hss; rw [hsi] at this; exact absurd this hto
                have HSp := Lib.hid (HST.out hns)
                have hb : 1 < k → ((t : Int) == o) = false := fun h => by simp; intro e; exact hto ⟨h, e⟩
                have HA : Hid (least < 0 ∨ u < least → Spread l2 u (max most u)) := fun h => by have := HSp.out; rwa [if_pos h] at this
                have HB : Hid (¬ (least < 0 ∨ u < least) → Spread l2 least (max most u)) := fun h => by have := HSp.out; rwa [if_neg h] at this
                clear hslp hto hs hsi HST hns HSp
                go_wp2_with (first
    | ((go_at_call 13; refine (ow_used HO HS.out HSI.out hu.out).mono ?_; rintro e w6 ⟨rfl, HO6⟩))
    | ((with_reducible refine Reg.wp_region_text ?_ ?_ ?_); (kernel_rfl); (kernel_rfl))
    | ((with_reducible refine Reg.text_nil ?_))
    | ((with_reducible refine Reg.text_plain ?_ ?_); (rfl); (intro K hK))
    | ((with_reducible apply Reg.text_nilCheck); (rfl); (intro K hK))
    | ((with_reducible apply Reg.text_bin); (rfl); (rfl); (intro K hK))
    | ((with_reducible refine Reg.text_loud ?_ ?_); (rfl); (intro K hK))
    | ((with_reducible refine Reg.text_skipG ?_ ?_); (rfl); (intro K hK)))
                all_goals (try (exfalso; omega))
                all_goals go_roundw
                all_goals first
                  | (simp [intOf]; omega)
                  | exact ⟨u, _, t + 1, rfl, rfl, by simp, by omega, HA.out (by omega), HO6⟩
                  | exact ⟨least, _, t + 1, rfl, rfl, by simp, by omega, HB.out (by omega), HO6⟩
            · obtain rfl : t = k := by omega
              go_wp2_with (first
    | ((with_reducible refine Reg.wp_region_text ?_ ?_ ?_); (kernel_rfl); (kernel_rfl))
    | ((with_reducible refine Reg.text_nil ?_))
    | ((with_reducible refine Reg.text_plain ?_ ?_); (rfl); (intro K hK))
    | ((with_reducible apply Reg.text_nilCheck); (rfl); (intro K hK))
    | ((with_reducible apply Reg.text_bin); (rfl); (rfl); (intro K hK))
    | ((with_reducible refine Reg.text_loud ?_ ?_); (rfl); (intro K hK))
    | ((with_reducible refine Reg.text_skipG ?_ ?_); (rfl); (intro K hK)))
              all_goals (try (exfalso; omega))
              go_roundw
              case rel => exact ⟨j + 1, l2, by simp, by omega, HL2, HO⟩
              case measure => simp [intOf]; omega
        · have hjt' : turns ≤ (j : Int) := by omega
          clear hjt
          have HID := Lib.hid (ow_ids HO.out)
          go_wp2_with (first
    | ((go_at_call 18; ((with_reducible refine (ow_wake HO (turns - 1)).mono ?_)); rintro e w4 ⟨v1, ws1, rfl, hw1, HO4⟩; obtain ⟨rfl, hwk⟩ := hL.out.early hw1.out (by omega); rw [hwk] at HO4; obtain ⟨ao1, cap1, hv1⟩ := (ow_ints HO4.out).len; simp only [List.map_nil, List.length_nil] at hv1; subst hv1; have HO4' := Lib.hid HO4.out.drop; clear HO4 hwk hw1 HO))
    | ((go_at_call 18; ((with_reducible refine (ow_wake HO4' turns).mono ?_)); rintro e w5 ⟨v2, ws2, rfl, hw2, HO5⟩; have hnow := hL.out.now HID.out hw2.out ho1 ho2; (first | rw [if_pos hq] at hnow | rw [if_neg (by omega)] at hnow); rw [hnow] at HO5; (first | obtain ⟨ao2, cap2, rfl⟩ := ow_ints_len (n := 1) HO5.out rfl | obtain ⟨ao2, cap2, rfl⟩ := ow_ints_len (n := 0) HO5.out rfl); have HAT := Lib.hid (ow_ints HO5.out); have HO6 := Lib.hid HO5.out.drop; clear hw2 HO5 hnow HO4'))
    | ((go_at_call 19; ((with_reducible refine (sameInts_true (HAT.out.ext ((Only.refl _ w5).alloc _)) (ints_one w5 o 3) (by simp)).mono ?_)); rintro e w6 ⟨rfl, m6, rfl⟩))
    | ((with_reducible refine Reg.wp_region_text ?_ ?_ ?_); (kernel_rfl); (kernel_rfl))
    | ((with_reducible refine Reg.text_nil ?_))
    | ((with_reducible refine Reg.text_plain ?_ ?_); (rfl); (intro K hK))
    | ((with_reducible apply Reg.text_nilCheck); (rfl); (intro K hK))
    | ((with_reducible apply Reg.text_bin); (rfl); (rfl); (intro K hK))
    | ((with_reducible refine Reg.text_loud ?_ ?_); (rfl); (intro K hK))
    | ((with_reducible refine Reg.text_skipG ?_ ?_); (rfl); (intro K hK)))
          all_goals (try (exfalso; omega))
          all_goals go_ret
          all_goals first
            | exact ⟨rfl, HO6.out.start⟩
            | exact ⟨rfl, (HO6.out.start.alloc _).drewN _⟩


set_option maxRecDepth 100000 in
set_option maxHeartbeats 1000000 in
theorem fair_calls {W : World} {v : Value} {zs : List Int} (hv : IntsAt W v zs) (hz : zs.length ≤ maxLen) (tu out : Int) :
    Calls Tryd.prog 4 #[v, .int .i64 tu, .int .i64 out] W fun e w' => e = .returned (.bool true) ∧ Ext W w' := by
  obtain ⟨ao, cap, rfl, hc⟩ := intsAt_cell hv
  unfold maxLen at hz
  have HV := Lib.hid hv
  clear hc hv
  obtain ⟨n, hn⟩ : ∃ n, Hid (zs.length = n) := ⟨_, rfl⟩
  rw [hn.out] at hz HV ⊢
  by_cases h0 : n = 0
  · subst h0
    go_enter Tryd.func4, Tryd.ntmps4
    go_wp2_with (first
    | ((go_at_call 8; refine (first_calls W).mono ?_; rintro e w1 ⟨rfl, hw1⟩; have HW1 := Lib.hid hw1; clear hw1))
    | ((with_reducible refine Reg.wp_region_text ?_ ?_ ?_); (kernel_rfl); (kernel_rfl))
    | ((with_reducible refine Reg.text_nil ?_))
    | ((with_reducible refine Reg.text_plain ?_ ?_); (rfl); (intro K hK))
    | ((with_reducible apply Reg.text_nilCheck); (rfl); (intro K hK))
    | ((with_reducible apply Reg.text_bin); (rfl); (rfl); (intro K hK))
    | ((with_reducible refine Reg.text_loud ?_ ?_); (rfl); (intro K hK))
    | ((with_reducible refine Reg.text_skipG ?_ ?_); (rfl); (intro K hK)))
    go_ret
    exact ⟨rfl, HW1.out⟩
  have h0' : ((n : Int) == 0) = false := by simp; omega
  by_cases h8 : 8 < n
  · go_enter Tryd.func4, Tryd.ntmps4
    go_wp2_with (first
    | ((go_at_call 8; refine (first_calls W).mono ?_; rintro e w1 ⟨rfl, hw1⟩; have HW1 := Lib.hid hw1; clear hw1))
    | ((with_reducible refine Reg.wp_region_text ?_ ?_ ?_); (kernel_rfl); (kernel_rfl))
    | ((with_reducible refine Reg.text_nil ?_))
    | ((with_reducible refine Reg.text_plain ?_ ?_); (rfl); (intro K hK))
    | ((with_reducible apply Reg.text_nilCheck); (rfl); (intro K hK))
    | ((with_reducible apply Reg.text_bin); (rfl); (rfl); (intro K hK))
    | ((with_reducible refine Reg.text_loud ?_ ?_); (rfl); (intro K hK))
    | ((with_reducible refine Reg.text_skipG ?_ ?_); (rfl); (intro K hK)))
    all_goals (try (exfalso; omega))
    go_ret
    exact ⟨rfl, HW1.out⟩
  by_cases h1 : 1 < n
  · exact fair_many HV hn (by omega) (by omega) h1 tu out
  · exact fair_one HV hn (by omega) (by omega) (show n ≤ 1 by omega) tu out
end Go.Proofs.YtjchfkpcglpgdaaDoor
