/-
  SchedCopies' walk.
-/
import Derived.Test.YtjchfkpcglpgdaaDoorSdCp
set_option linter.unusedSimpArgs false
set_option linter.unusedVariables false
namespace Go.Proofs.YtjchfkpcglpgdaaDoor
open Go.RowKit Go.Hp

set_option maxRecDepth 100000 in
set_option maxHeartbeats 4000000 in
theorem copies_core {W : World} {ev : Value} (hg : W.cell? ⟨2, 0, none⟩ = some ev) {zs : List Int} {ao : Option Addr} {cap n : Nat} (HV : Hid (IntsAt W (.slice ao n cap) zs)) (hn : Hid (zs.length = n)) (hn8 : n ≤ 8) (an ak : Int) :
    Calls Tryd.prog 6 #[.slice ao n cap, .int .i64 an, .int .i64 ak] W fun e w' => e = .returned (.bool true) ∧ Ext W w' := by
  have HG := Lib.hid hg
  clear hg
  have hn1 : ∀ (w : World) (p q : Int), p = an → q = 20 → Calls Tryd.prog 9 #[.int .i64 p, .int .i64 q] w (Same w (.int .i64 (an % 20))) := fun w p q hp hq => by subst hp hq; exact number_calls p 20 w (by decide) (by decide)
  have hn2 : ∀ (w : World) (p q : Int), p = ak → q = 20 → Calls Tryd.prog 9 #[.int .i64 p, .int .i64 q] w (Same w (.int .i64 (ak % 20))) := fun w p q hp hq => by subst hp hq; exact number_calls p 20 w (by decide) (by decide)
  have HN1 := Lib.hid hn1
  have HN2 := Lib.hid hn2
  clear hn1 hn2
  have ba1 := Int.emod_nonneg an (show (20 : Int) ≠ 0 by decide)
  have ba2 := Int.emod_lt_of_pos an (show (0 : Int) < 20 by decide)
  have bb1 := Int.emod_nonneg ak (show (20 : Int) ≠ 0 by decide)
  have bb2 := Int.emod_lt_of_pos ak (show (0 : Int) < 20 by decide)
  generalize an % 20 = tn at *
  generalize ak % 20 = tk at *
  have HC := Lib.hid (intsAt_cell HV.out)
  go_enter Tryd.func6, Tryd.ntmps6
  go_wp2_with (first
    | ((go_at_call 8; refine (first_calls W).mono ?_; rintro e w1 ⟨rfl, hw1⟩; have HW1 := Lib.hid (Owns.begin_ hw1); clear hw1))
    | ((go_at_call 9; refine (HN1.out _ _ _ ?_ ?_).mono ?_; (focus (with_reducible rfl)); (focus rfl); rintro e w2 ⟨rfl, m, rfl⟩; skip))
    | ((go_at_call 9; refine (HN2.out _ _ _ ?_ ?_).mono ?_; (focus (with_reducible rfl)); (focus rfl); rintro e w3 ⟨rfl, m3, rfl⟩; skip))
    | ((go_at_call 10; refine (ow_new (show Hid (Owns W _ nothing) from HW1.out.drewN _)).mono ?_; rintro e w4 ⟨bs, rfl, HO⟩; clear HW1))
    | ((with_reducible refine Reg.wp_region_text ?_ ?_ ?_); (kernel_rfl); (kernel_rfl))
    | ((with_reducible refine Reg.text_nil ?_))
    | ((with_reducible refine Reg.text_plain ?_ ?_); (rfl); (intro K hK))
    | ((with_reducible apply Reg.text_nilCheck); (rfl); (intro K hK))
    | ((with_reducible apply Reg.text_bin); (rfl); (rfl); (intro K hK))
    | ((with_reducible refine Reg.text_loud ?_ ?_); (rfl); (intro K hK))
    | ((with_reducible refine Reg.text_skipG ?_ ?_); (rfl); (intro K hK)))
  go_loopw [9] (fun i wr => ∃ (k : Nat) (l : List Rec), i = .int .i64 k ∧ k ≤ n ∧ Hid (FairA k l) ∧ Hid (Owns W wr ((sch bs l).sep nothing))) (fun i _ => n - (intOf i).toNat)
  case atStart => exact ⟨0, [], rfl, by omega, FairA.nil, HO⟩
  case round =>
    obtain ⟨k, l, rfl, hk, hA, HO⟩ := hrel
    by_cases hlt : k < n
    · obtain ⟨x, hx⟩ : ∃ x, zs[k]? = some x := ⟨_, List.getElem?_eq_getElem (by rw [hn.out]; exact hlt)⟩
      obtain ⟨ao', cap', e1, hcell⟩ := HC.out
      cases e1
      obtain ⟨b0, off0, rfl, c0⟩ := hcell k x hx
      have c0' := Hp.Ext.cell HO.out.start c0
      have hx1 := Int.emod_nonneg x (show (100 : Int) ≠ 0 by decide)
      have hx2 := Int.emod_lt_of_pos x (show (0 : Int) < 100 by decide)
      have HNx := Lib.hid (number_calls (x := x) (m := 100))
      generalize x % 100 = y at *
      clear hcell hx c0
      go_wp2_with (first
    | ((go_at_call 9; refine (HNx.out _ (by decide) (by decide)).mono ?_; rintro e w4 ⟨rfl, m4, rfl⟩; have HO4 := Lib.hid (HO.out.drewN m4)))
    | ((go_at_call 11; refine (ow_add HO4 _ _ ?_ ?_ ?_ ?_ hA.out.new).mono ?_; (focus omega); (focus omega); (focus omega); (focus omega); rintro e w5 ⟨rfl, u, hu, HO5⟩; clear HO4))
    | ((with_reducible refine Reg.wp_region_text ?_ ?_ ?_); (kernel_rfl); (kernel_rfl))
    | ((with_reducible refine Reg.text_nil ?_))
    | ((with_reducible refine Reg.text_plain ?_ ?_); (rfl); (intro K hK))
    | ((with_reducible apply Reg.text_nilCheck); (rfl); (intro K hK))
    | ((with_reducible apply Reg.text_bin); (rfl); (rfl); (intro K hK))
    | ((with_reducible refine Reg.text_loud ?_ ?_); (rfl); (intro K hK))
    | ((with_reducible refine Reg.text_skipG ?_ ?_); (rfl); (intro K hK)))
      go_roundw
      case rel => exact ⟨k + 1, _, by simp, by omega, hA.out.snoc hu.out, HO5⟩
      case measure => simp [intOf]; omega
    · obtain rfl : k = n := by omega
      clear hlt hk HC
      have HA := Lib.hid hA.out.awake
      clear hA
      go_wp2
      go_loopw [10] (fun i wr => ∃ (t : Nat) (l : List Rec), i = .int .i64 t ∧ (t : Int) ≤ tn ∧ Hid (AwakeL k l) ∧ Hid (Owns W wr ((sch bs l).sep nothing))) (fun i _ => tn.toNat - (intOf i).toNat)
      case atStart => exact ⟨0, l, rfl, by omega, HA, HO⟩
      case round =>
        obtain ⟨t, l, rfl, ht, hA, HO⟩ := hrel
        by_cases htn : (t : Int) < tn
        · cases hb : best l with
          | none =>
            have HB := Lib.hid hb
            clear hb
            go_wp2_with (first
    | ((go_at_call 17; refine (ow_pick_none HO HB.out).mono ?_; rintro e w4 ⟨rfl, HO4⟩))
    | ((with_reducible refine Reg.wp_region_text ?_ ?_ ?_); (kernel_rfl); (kernel_rfl))
    | ((with_reducible refine Reg.text_nil ?_))
    | ((with_reducible refine Reg.text_plain ?_ ?_); (rfl); (intro K hK))
    | ((with_reducible apply Reg.text_nilCheck); (rfl); (intro K hK))
    | ((with_reducible apply Reg.text_bin); (rfl); (rfl); (intro K hK))
    | ((with_reducible refine Reg.text_loud ?_ ?_); (rfl); (intro K hK))
    | ((with_reducible refine Reg.text_skipG ?_ ?_); (rfl); (intro K hK)))
            go_roundw
            case rel => exact ⟨t + 1, l, by simp, by omega, hA, HO4⟩
            case measure => simp [intOf]; omega
          | some r =>
            have HB := Lib.hid hb
            have HR := Lib.hid (best_some hb).1
            obtain ⟨i0, hi0⟩ : ∃ i0, Hid (r.id = i0) := ⟨_, rfl⟩
            clear hb
            go_wp2_with (first
    | ((go_at_call 17; refine (ow_pick_some HO HB.out hi0.out).mono ?_; rintro e w4 ⟨rfl, HO4⟩))
    | ((go_at_call 12; refine (ow_ran HO4 HR.out 50 (by decide) (by decide) hi0.out).mono ?_; rintro e w5 ⟨rfl, HO5⟩; clear HO4))
    | ((with_reducible refine Reg.wp_region_text ?_ ?_ ?_); (kernel_rfl); (kernel_rfl))
    | ((with_reducible refine Reg.text_nil ?_))
    | ((with_reducible refine Reg.text_plain ?_ ?_); (rfl); (intro K hK))
    | ((with_reducible apply Reg.text_nilCheck); (rfl); (intro K hK))
    | ((with_reducible apply Reg.text_bin); (rfl); (rfl); (intro K hK))
    | ((with_reducible refine Reg.text_loud ?_ ?_); (rfl); (intro K hK))
    | ((with_reducible refine Reg.text_skipG ?_ ?_); (rfl); (intro K hK)))
            go_roundw
            case rel => exact ⟨t + 1, _, by simp, by omega, hA.out.ran i0, HO5⟩
            case measure => simp [intOf]; omega
        · have htn2 : tn ≤ (t : Int) := by omega
          clear htn ht
          go_wp2_with (first
    | ((go_at_call 21; ((with_reducible refine (ow_clone HO).mono ?_)); rintro e w4 ⟨bc, rfl, HO4⟩; have HO5 := Lib.hid HO4.out.swap; clear HO HO4))
    | ((go_at_call 21; ((with_reducible refine (ow_clone HO5).mono ?_)); rintro e w5 ⟨bd, rfl, HO6⟩; clear HO5))
    | ((go_at_call 16; ((with_reducible refine (ow_sleep_any HO6 HG.out 0 5 (by decide) (by decide)).mono ?_)); rintro e w6 ⟨⟨x6, rfl⟩, HO7⟩; clear HO6))
    | ((go_at_call 14; ((with_reducible refine (ow_del_any HO7 HG.out 1).mono ?_)); rintro e w7 ⟨⟨x7, rfl⟩, HO8⟩; clear HO7))
    | ((with_reducible refine Reg.wp_region_text ?_ ?_ ?_); (kernel_rfl); (kernel_rfl))
    | ((with_reducible refine Reg.text_nil ?_))
    | ((with_reducible refine Reg.text_plain ?_ ?_); (rfl); (intro K hK))
    | ((with_reducible apply Reg.text_nilCheck); (rfl); (intro K hK))
    | ((with_reducible apply Reg.text_bin); (rfl); (rfl); (intro K hK))
    | ((with_reducible refine Reg.text_loud ?_ ?_); (rfl); (intro K hK))
    | ((with_reducible refine Reg.text_skipG ?_ ?_); (rfl); (intro K hK)))
          have HO9 : Hid (Owns W w7 ((ints (.slice none 0 0) (turnsL l 0).1).sep ((sch bc (turnsL l 0).2).sep ((sch bd (lessTwo l)).sep ((sch bs l).sep nothing))))) :=
            HO8.out.third.add (Q := ints (.slice none 0 0) []) (Only.refl _ _) (ints_nil _ _) (by simp)
          clear HO8
          go_loopw [15, 17] (fun v c wr => ∃ t : Nat, c = .int .i64 t ∧ (t : Int) ≤ tk ∧ Hid (Owns W wr ((ints v (turnsL l t).1).sep ((sch bc (turnsL l t).2).sep ((sch bd (lessTwo l)).sep ((sch bs l).sep nothing)))))) (fun _ c _ => tk.toNat - (intOf c).toNat)
          case atStart => exact ⟨0, rfl, by omega, HO9⟩
          case round =>
            obtain ⟨t, rfl, ht, HO⟩ := hrel
            have hlen := turnsL_len l t
            obtain ⟨a0, ha0⟩ : ∃ a0, Hid ((turnsL l t).1 = a0) := ⟨_, rfl⟩
            obtain ⟨l0, hl0⟩ : ∃ l0, Hid ((turnsL l t).2 = l0) := ⟨_, rfl⟩
            rw [ha0.out, hl0.out] at HO
            rw [ha0.out] at hlen
            obtain ⟨ao3, cap3, hv3⟩ := (ow_ints HO.out).len
            obtain ⟨q, hq⟩ : ∃ q, Hid (a0.length = q) := ⟨_, rfl⟩
            rw [hq.out] at hv3 hlen
            subst hv3
            by_cases htk : (t : Int) < tk
            · have HOs := Lib.hid HO.out.swap
              cases hb : best l0 with
              | none =>
                have HT := Lib.hid (turnsL_none (l := l) (i := t) (by rw [hl0.out]; exact hb))
                have HB := Lib.hid hb
                clear hb HO
                go_wp2_with (first
    | ((go_at_call 17; refine (ow_pick_none HOs HB.out).mono ?_; rintro e w4 ⟨rfl, HO4⟩))
    | ((with_reducible refine Reg.wp_region_text ?_ ?_ ?_); (kernel_rfl); (kernel_rfl))
    | ((with_reducible refine Reg.text_nil ?_))
    | ((with_reducible refine Reg.text_plain ?_ ?_); (rfl); (intro K hK))
    | ((with_reducible apply Reg.text_nilCheck); (rfl); (intro K hK))
    | ((with_reducible apply Reg.text_bin); (rfl); (rfl); (intro K hK))
    | ((with_reducible refine Reg.text_loud ?_ ?_); (rfl); (intro K hK))
    | ((with_reducible refine Reg.text_skipG ?_ ?_); (rfl); (intro K hK)))
                go_roundw
                case rel =>
                  refine ⟨t + 1, by simp, by omega, ?_⟩
                  rw [HT.out, ha0.out, hl0.out]
                  exact HO4.out.swap
                case measure => simp [intOf]; omega
              | some r =>
                have HT := Lib.hid (turnsL_some (l := l) (i := t) (by rw [hl0.out]; exact hb))
                have HB := Lib.hid hb
                have HR := Lib.hid (best_some hb).1
                obtain ⟨i0, hi0⟩ : ∃ i0, Hid (r.id = i0) := ⟨_, rfl⟩
                clear hb HO
                go_wp2_with (first
    | ((go_at_call 17; refine (ow_pick_some HOs HB.out hi0.out).mono ?_; rintro e w4 ⟨rfl, HO4⟩; have HO5 := Lib.hid HO4.out.swap; clear HO4 HOs; obtain ⟨arr, tail, hrow, hbk⟩ := ow_row HO5.out; rw [hq.out] at hrow hbk; have HRW := Lib.hid (hrow.of_only ((Only.refl (fun _ => False) _).alloc (.cells #[.int .i64 i0] 3)) (fun _ _ h => h)); have HBK := Lib.hid hbk; clear hrow hbk))
    | ((at_builtin; refine wpList_append_row ty_ints rfl _ _ rfl rfl HRW.out ⟨w4.heap.size, 0, none⟩ 1 1 [.int .i64 i0] rfl rfl (by decide) ?_ ?_ ?_ ?_ ?_; (exact one_new _ _ _ (by simp)); (simp [Value.oneCell']); (unfold maxLen; omega); (omega)))
    | ((with_reducible refine Reg.wp_region_text ?_ ?_ ?_); (kernel_rfl); (kernel_rfl))
    | ((with_reducible refine Reg.text_nil ?_))
    | ((with_reducible refine Reg.text_plain ?_ ?_); (rfl); (intro K hK))
    | ((with_reducible apply Reg.text_nilCheck); (rfl); (intro K hK))
    | ((with_reducible apply Reg.text_bin); (rfl); (rfl); (intro K hK))
    | ((with_reducible refine Reg.text_loud ?_ ?_); (rfl); (intro K hK))
    | ((with_reducible refine Reg.text_skipG ?_ ?_); (rfl); (intro K hK)))
                intro g' cap' w6 tail' q1 q2 q4
                have HO6 := Lib.hid (HBK.out (.cells #[.int .i64 i0] 3) w6 g' cap' i0 tail' q1 (by simpa using q2) q4).swap
                clear q1 q2 q4 HRW HBK HO5
                go_wp2_with (first
    | ((go_at_call 12; refine (ow_ran HO6 HR.out 50 (by decide) (by decide) hi0.out).mono ?_; rintro e w7 ⟨rfl, HO7⟩; clear HO6))
    | ((with_reducible refine Reg.wp_region_text ?_ ?_ ?_); (kernel_rfl); (kernel_rfl))
    | ((with_reducible refine Reg.text_nil ?_))
    | ((with_reducible refine Reg.text_plain ?_ ?_); (rfl); (intro K hK))
    | ((with_reducible apply Reg.text_nilCheck); (rfl); (intro K hK))
    | ((with_reducible apply Reg.text_bin); (rfl); (rfl); (intro K hK))
    | ((with_reducible refine Reg.text_loud ?_ ?_); (rfl); (intro K hK))
    | ((with_reducible refine Reg.text_skipG ?_ ?_); (rfl); (intro K hK)))
                go_roundw
                case rel =>
                  refine ⟨t + 1, by simp, by omega, ?_⟩
                  rw [HT.out, ha0.out, hl0.out, hi0.out]
                  exact HO7.out.swap
                case measure => simp [intOf]; omega
            · have htk2 : tk ≤ (t : Int) := by omega
              clear htk
              have HOb : Hid (Owns W wr ((ints (.slice none 0 0) (turnsL l 0).1).sep ((sch bs (turnsL l 0).2).sep ((ints (.slice ao3 q cap3) a0).sep ((sch bc l0).sep ((sch bd (lessTwo l)).sep nothing)))))) :=
                HO.out.fourth.add (Q := ints (.slice none 0 0) []) (Only.refl _ _) (ints_nil _ _) (by simp)
              clear HO
              obtain ⟨aa, haa⟩ : ∃ aa, Hid (a0 = aa) := ⟨_, rfl⟩
              obtain ⟨la, hla⟩ : ∃ la, Hid (l0 = la) := ⟨_, rfl⟩
              obtain ⟨qa, hqa⟩ : ∃ qa, q = qa := ⟨_, rfl⟩
              subst hqa
              rw [haa.out, hla.out] at HOb
              rw [haa.out] at ha0 hq
              rw [hla.out] at hl0
              have HA0 := ha0
              have HL0 := hl0
              have HQ0 := hq
              clear ha0 hl0 hq haa hla
              go_wp2
              go_loopw [16, 20] (fun v c wr => ∃ t6 : Nat, c = .int .i64 t6 ∧ (t6 : Int) ≤ tk ∧ Hid (Owns W wr ((ints v (turnsL l t6).1).sep ((sch bs (turnsL l t6).2).sep ((ints (.slice ao3 q cap3) aa).sep ((sch bc la).sep ((sch bd (lessTwo l)).sep nothing))))))) (fun _ c _ => tk.toNat - (intOf c).toNat)
              case atStart => exact ⟨0, rfl, by omega, HOb⟩
              case round =>
                obtain ⟨t6, rfl, ht6, HO⟩ := hrel
                have hlen := turnsL_len l t6
                obtain ⟨a0, ha0⟩ : ∃ a0, Hid ((turnsL l t6).1 = a0) := ⟨_, rfl⟩
                obtain ⟨l0, hl0⟩ : ∃ l0, Hid ((turnsL l t6).2 = l0) := ⟨_, rfl⟩
                rw [ha0.out, hl0.out] at HO
                rw [ha0.out] at hlen
                obtain ⟨ao5, cap5, hv5⟩ := (ow_ints HO.out).len
                obtain ⟨q, hq⟩ : ∃ q, Hid (a0.length = q) := ⟨_, rfl⟩
                rw [hq.out] at hv5 hlen
                subst hv5
                by_cases htk : (t6 : Int) < tk
                · have HOs := Lib.hid HO.out.swap
                  cases hb : best l0 with
                  | none =>
                    have HT := Lib.hid (turnsL_none (l := l) (i := t6) (by rw [hl0.out]; exact hb))
                    have HB := Lib.hid hb
                    clear hb HO
                    go_wp2_with (first
    | ((go_at_call 17; refine (ow_pick_none HOs HB.out).mono ?_; rintro e w4 ⟨rfl, HO4⟩))
    | ((with_reducible refine Reg.wp_region_text ?_ ?_ ?_); (kernel_rfl); (kernel_rfl))
    | ((with_reducible refine Reg.text_nil ?_))
    | ((with_reducible refine Reg.text_plain ?_ ?_); (rfl); (intro K hK))
    | ((with_reducible apply Reg.text_nilCheck); (rfl); (intro K hK))
    | ((with_reducible apply Reg.text_bin); (rfl); (rfl); (intro K hK))
    | ((with_reducible refine Reg.text_loud ?_ ?_); (rfl); (intro K hK))
    | ((with_reducible refine Reg.text_skipG ?_ ?_); (rfl); (intro K hK)))
                    go_roundw
                    case rel =>
                      refine ⟨t6 + 1, by simp, by omega, ?_⟩
                      rw [HT.out, ha0.out, hl0.out]
                      exact HO4.out.swap
                    case measure => simp [intOf]; omega
                  | some r =>
                    have HT := Lib.hid (turnsL_some (l := l) (i := t6) (by rw [hl0.out]; exact hb))
                    have HB := Lib.hid hb
                    have HR := Lib.hid (best_some hb).1
                    obtain ⟨i0, hi0⟩ : ∃ i0, Hid (r.id = i0) := ⟨_, rfl⟩
                    clear hb HO
                    go_wp2_with (first
    | ((go_at_call 17; refine (ow_pick_some HOs HB.out hi0.out).mono ?_; rintro e w4 ⟨rfl, HO4⟩; have HO5 := Lib.hid HO4.out.swap; clear HO4 HOs; obtain ⟨arr, tail, hrow, hbk⟩ := ow_row HO5.out; rw [hq.out] at hrow hbk; have HRW := Lib.hid (hrow.of_only ((Only.refl (fun _ => False) _).alloc (.cells #[.int .i64 i0] 3)) (fun _ _ h => h)); have HBK := Lib.hid hbk; clear hrow hbk))
    | ((at_builtin; refine wpList_append_row ty_ints rfl _ _ rfl rfl HRW.out ⟨w4.heap.size, 0, none⟩ 1 1 [.int .i64 i0] rfl rfl (by decide) ?_ ?_ ?_ ?_ ?_; (exact one_new _ _ _ (by simp)); (simp [Value.oneCell']); (unfold maxLen; omega); (omega)))
    | ((with_reducible refine Reg.wp_region_text ?_ ?_ ?_); (kernel_rfl); (kernel_rfl))
    | ((with_reducible refine Reg.text_nil ?_))
    | ((with_reducible refine Reg.text_plain ?_ ?_); (rfl); (intro K hK))
    | ((with_reducible apply Reg.text_nilCheck); (rfl); (intro K hK))
    | ((with_reducible apply Reg.text_bin); (rfl); (rfl); (intro K hK))
    | ((with_reducible refine Reg.text_loud ?_ ?_); (rfl); (intro K hK))
    | ((with_reducible refine Reg.text_skipG ?_ ?_); (rfl); (intro K hK)))
                    intro g' cap' w6 tail' q1 q2 q4
                    have HO6 := Lib.hid (HBK.out (.cells #[.int .i64 i0] 3) w6 g' cap' i0 tail' q1 (by simpa using q2) q4).swap
                    clear q1 q2 q4 HRW HBK HO5
                    go_wp2_with (first
    | ((go_at_call 12; refine (ow_ran HO6 HR.out 50 (by decide) (by decide) hi0.out).mono ?_; rintro e w7 ⟨rfl, HO7⟩; clear HO6))
    | ((with_reducible refine Reg.wp_region_text ?_ ?_ ?_); (kernel_rfl); (kernel_rfl))
    | ((with_reducible refine Reg.text_nil ?_))
    | ((with_reducible refine Reg.text_plain ?_ ?_); (rfl); (intro K hK))
    | ((with_reducible apply Reg.text_nilCheck); (rfl); (intro K hK))
    | ((with_reducible apply Reg.text_bin); (rfl); (rfl); (intro K hK))
    | ((with_reducible refine Reg.text_loud ?_ ?_); (rfl); (intro K hK))
    | ((with_reducible refine Reg.text_skipG ?_ ?_); (rfl); (intro K hK)))
                    go_roundw
                    case rel =>
                      refine ⟨t6 + 1, by simp, by omega, ?_⟩
                      rw [HT.out, ha0.out, hl0.out, hi0.out]
                      exact HO7.out.swap
                    case measure => simp [intOf]; omega
                · have htk6 : tk ≤ (t6 : Int) := by omega
                  have htt : t6 = t := by omega
                  subst htt
                  clear htk
                  have e1 : a0 = aa := ha0.out.symm.trans HA0.out
                  have e2 : l0 = la := hl0.out.symm.trans HL0.out
                  subst e1 e2
                  have HX0 := HO
                  obtain ⟨q3, hq3⟩ : ∃ q3, Hid (q3 = a0.length) := ⟨_, rfl⟩
                  have hal : a0.length < 9223372036854775807 := by rw [hq.out]; omega
                  have hrl : (readyIds l0).length = k := by
                    have h1 := turnsL_awake hA.out t6
                    rw [hl0.out] at h1
                    exact h1.ready
                  have hrl2 : (readyIds l0).length < 9223372036854775807 := by omega
                  have HRL := Lib.hid hrl
                  have HRL2 := Lib.hid hrl2
                  have HAL := Lib.hid hal
                  have HTW := Lib.hid hA.out.two
                  have HAB := Lib.hid (ow_ints HO.out)
                  have HAA := Lib.hid (ow_ints HO.out.third)
                  clear hrl hrl2 hal HO
                  go_wp2_with (first
    | ((go_at_call 19; ((with_reducible refine (sameInts_true HAA.out HAB.out HAL.out).mono ?_)); rintro e w10 ⟨rfl, m10, rfl⟩; have HX1 := Lib.hid (HX0.out.drewN m10).drop; clear HX0 HAA HAB))
    | ((go_at_call 20; ((with_reducible refine (ow_ready HX1).mono ?_)); rintro e w11 ⟨v11, rfl, HX2⟩; have HX3 := Lib.hid HX2.out.fourth; clear HX1 HX2))
    | ((go_at_call 20; ((with_reducible refine (ow_ready HX3).mono ?_)); rintro e w12 ⟨v12, rfl, HX4⟩; have HR2 := Lib.hid (ow_ints HX4.out); have HR1 := Lib.hid (ow_ints HX4.out.third); have HX5 := Lib.hid HX4.out.fourth; clear HX3 HX4))
    | ((go_at_call 19; ((with_reducible refine (sameInts_true HR1.out HR2.out HRL2.out).mono ?_)); rintro e w13 ⟨rfl, m13, rfl⟩; have HX6 := Lib.hid (HX5.out.drewN m13); clear HX5 HR1 HR2))
    | ((go_at_call 20; ((with_reducible refine (ow_ready HX6).mono ?_)); rintro e w14 ⟨v14, rfl, HX7⟩; obtain ⟨ao14, cap14, rfl⟩ := ow_ints_len HX7.out HRL.out; have HX8 := Lib.hid HX7.out.drop.drop.drop.drop.drop.drop; clear HX6 HX7))
    | ((go_at_call 20; ((with_reducible refine (ow_ready HX8).mono ?_)); rintro e w15 ⟨v15, rfl, HX9⟩; obtain ⟨ao15, cap15, rfl⟩ := ow_ints_len HX9.out HTW.out; clear HX8))
    | ((with_reducible refine Reg.wp_region_text ?_ ?_ ?_); (kernel_rfl); (kernel_rfl))
    | ((with_reducible refine Reg.text_nil ?_))
    | ((with_reducible refine Reg.text_plain ?_ ?_); (rfl); (intro K hK))
    | ((with_reducible apply Reg.text_nilCheck); (rfl); (intro K hK))
    | ((with_reducible apply Reg.text_bin); (rfl); (rfl); (intro K hK))
    | ((with_reducible refine Reg.text_loud ?_ ?_); (rfl); (intro K hK))
    | ((with_reducible refine Reg.text_skipG ?_ ?_); (rfl); (intro K hK)))
                  all_goals (try (exfalso; omega))
                  all_goals go_ret
                  all_goals exact ⟨congrArg (fun b => Ending.returned (.bool b)) (show ((((k - 2 : Nat) : Int)) == max ((k : Int) - 2) 0) = true by simp; omega), HX9.out.start⟩

set_option maxRecDepth 100000 in
set_option maxHeartbeats 1000000 in
theorem copies_calls {W : World} {ev : Value} (hg : W.cell? ⟨2, 0, none⟩ = some ev) {v : Value} {zs : List Int} (hv : IntsAt W v zs) (hz : zs.length ≤ maxLen) (an ak : Int) :
    Calls Tryd.prog 6 #[v, .int .i64 an, .int .i64 ak] W fun e w' => e = .returned (.bool true) ∧ Ext W w' := by
  obtain ⟨ao, cap, rfl, hc⟩ := intsAt_cell hv
  unfold maxLen at hz
  have HV := Lib.hid hv
  clear hc hv
  obtain ⟨n, hn⟩ : ∃ n, Hid (zs.length = n) := ⟨_, rfl⟩
  rw [hn.out] at hz HV ⊢
  by_cases h8 : 8 < n
  · clear hg
    go_enter Tryd.func6, Tryd.ntmps6
    go_wp2_with (first
    | ((go_at_call 8; refine (first_calls W).mono ?_; rintro e w1 ⟨rfl, hw1⟩; have HW1 := Lib.hid hw1; clear hw1))
    | ((with_reducible refine Reg.wp_region_text ?_ ?_ ?_); (kernel_rfl); (kernel_rfl))
    | ((with_reducible refine Reg.text_nil ?_))
    | ((with_reducible refine Reg.text_plain ?_ ?_); (rfl); (intro K hK))
    | ((with_reducible apply Reg.text_nilCheck); (rfl); (intro K hK))
    | ((with_reducible apply Reg.text_bin); (rfl); (rfl); (intro K hK))
    | ((with_reducible refine Reg.text_loud ?_ ?_); (rfl); (intro K hK))
    | ((with_reducible refine Reg.text_skipG ?_ ?_); (rfl); (intro K hK)))
    all_goals (try (exfalso; omega))
    go_ret
    exact ⟨rfl, HW1.out⟩
  · exact copies_core hg HV hn (by omega) an ak
end Go.Proofs.YtjchfkpcglpgdaaDoor
