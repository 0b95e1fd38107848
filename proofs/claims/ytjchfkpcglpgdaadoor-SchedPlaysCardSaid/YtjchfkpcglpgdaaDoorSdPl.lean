/-
  SchedPlays' walk.
-/
import Derived.Test.YtjchfkpcglpgdaaDoorSdPd
set_option linter.unusedSimpArgs false
set_option linter.unusedVariables false
namespace Go.Proofs.YtjchfkpcglpgdaaDoor
open Go.RowKit Go.Hp

set_option maxRecDepth 100000 in
set_option maxHeartbeats 400000000 in
theorem plays_core {W : World} {ads : List Addr} (hs : Sents W ads) {ds : List (List Int)} {ao : Option Addr} {cap n : Nat} (HV : Hid (RowsAt W 4 (.slice ao n cap) ds)) (hn : Hid (ds.length = n)) :
    Calls Tryd.prog 7 #[.slice ao n cap] W fun e w' => e = .returned (.bool true) ∧ Ext W w' := by
  have HS := Lib.hid hs
  clear hs
  by_cases hn100 : 100 < n
  · go_enter Tryd.func7, Tryd.ntmps7
    go_wp2_with (first
    | ((go_at_call 8; refine (first_calls W).mono ?_; rintro e w1 ⟨rfl, hw1⟩; have HW1 := Lib.hid hw1; clear hw1))
    | ((with_reducible refine Reg.wp_region_text ?_ ?_ ?_); (kernel_rfl); (kernel_rfl))
    | ((with_reducible refine Reg.text_nil ?_))
    | ((with_reducible refine Reg.text_plain ?_ ?_); (rfl); (intro K hK))
    | ((with_reducible apply Reg.text_nilCheck); (rfl); (intro K hK))
    | ((with_reducible apply Reg.text_bin); (rfl); (rfl); (intro K hK))
    | ((with_reducible refine Reg.text_loud ?_ ?_); (rfl); (intro K hK))
    | ((with_reducible refine Reg.text_skipG ?_ ?_); (rfl); (intro K hK)))
    go_ret
    exact ⟨rfl, HW1.out⟩
  go_enter Tryd.func7, Tryd.ntmps7
  go_wp2_with (first
    | ((go_at_call 8; refine (first_calls W).mono ?_; rintro e w1 ⟨rfl, hw1⟩; have HW1 := Lib.hid (Owns.begin_ hw1); clear hw1))
    | ((go_at_call 10; refine (ow_new HW1).mono ?_; rintro e w4 ⟨bs, rfl, HO⟩; clear HW1))
    | ((with_reducible refine Reg.wp_region_text ?_ ?_ ?_); (kernel_rfl); (kernel_rfl))
    | ((with_reducible refine Reg.text_nil ?_))
    | ((with_reducible refine Reg.text_plain ?_ ?_); (rfl); (intro K hK))
    | ((with_reducible apply Reg.text_nilCheck); (rfl); (intro K hK))
    | ((with_reducible apply Reg.text_bin); (rfl); (rfl); (intro K hK))
    | ((with_reducible refine Reg.text_loud ?_ ?_); (rfl); (intro K hK))
    | ((with_reducible refine Reg.text_skipG ?_ ?_); (rfl); (intro K hK)))
  have HO5 : Hid (Owns W (w4.alloc (.cells #[.slice none 0 0] 47)) ((docS w4.heap.size []).sep ((sch bs []).sep nothing))) :=
    HO.out.add ((Only.refl _ w4).alloc _) (B := [w4.heap.size]) ⟨_, none, [], Blk.new w4 _ _, Row.nil _ _ _, by simp, rfl⟩ (by simp)
  clear HO
  obtain ⟨bd, hbd⟩ : ∃ bd, Hid (w4.heap.size = bd) := ⟨_, rfl⟩
  rw [hbd.out] at HO5 ⊢
  go_loopw [6] (fun i wr => ∃ (k : Nat) (l x : List Rec), i = .int .i64 k ∧ k ≤ n ∧ Hid (l = x.map norm) ∧ Hid (Owns W wr ((docS bd x).sep ((sch bs l).sep nothing)))) (fun i _ => n - (intOf i).toNat)
  case atStart => exact ⟨0, [], [], rfl, by omega, rfl, HO5⟩
  case round =>
    obtain ⟨k, l, x, rfl, hk, hR, HO⟩ := hrel
    by_cases hlt : k < n
    · obtain ⟨xs, hx⟩ : ∃ xs, ds[k]? = some xs := ⟨_, List.getElem?_eq_getElem (by rw [hn.out]; exact hlt)⟩
      obtain ⟨ao', cap', e1, hel⟩ := HV.out
      simp only [Value.slice.injEq] at e1
      obtain ⟨rfl, e2, e3⟩ := e1
      clear e2 e3
      obtain ⟨hx4, hwf, b0, off, rfl, hcell⟩ := hel k xs hx
      match xs, hx4 with
      | [kd, a, b, nn], _ =>
        have c0 : wr.cell? ⟨b0, off + k * 4, none⟩ = some (.int .i64 kd) := Hp.Ext.cell HO.out.start (hcell 0 kd rfl)
        have c1 : wr.cell? ⟨b0, off + k * 4 + 1, none⟩ = some (.int .i64 a) := Hp.Ext.cell HO.out.start (hcell 1 a rfl)
        have c2 : wr.cell? ⟨b0, off + k * 4 + 2, none⟩ = some (.int .i64 b) := Hp.Ext.cell HO.out.start (hcell 2 b rfl)
        have c3 : wr.cell? ⟨b0, off + k * 4 + 3, none⟩ = some (.int .i64 nn) := Hp.Ext.cell HO.out.start (hcell 3 nn rfl)
        have hbn := hwf nn (by simp)
        simp only [Lit.wf, Bool.and_eq_true, decide_eq_true_eq] at hbn
        have HBN : Hid (-9223372036854775808 ≤ nn ∧ nn < 9223372036854775808) := by
          have h1 : (-9223372036854775808 : Int) ≤ nn := hbn.1
          have h2 : nn ≤ (9223372036854775807 : Int) := hbn.2
          exact ⟨h1, by omega⟩
        have hOb : Owns W (wr.alloc (.cells #[.int .i64 kd, .int .i64 a, .int .i64 b, .int .i64 nn] 49)) ((blkT wr.heap.size #[.int .i64 kd, .int .i64 a, .int .i64 b, .int .i64 nn] 49).sep ((docS bd x).sep ((sch bs l).sep nothing))) :=
          HO.out.add ((Only.refl _ wr).alloc _) (B := [wr.heap.size]) ⟨Blk.new wr _ _, rfl⟩ (by simp)
        have HO1 : Hid (Owns W (wr.alloc (.cells #[.int .i64 kd, .int .i64 a, .int .i64 b, .int .i64 nn] 49)) ((sch bs l).sep ((blkT wr.heap.size #[.int .i64 kd, .int .i64 a, .int .i64 b, .int .i64 nn] 49).sep ((docS bd x).sep nothing)))) := hOb.third
        have HD : Hid (Doc x) := rel_doc hR.out (ow_ids HO1.out) (ow_ok HO1.out)
        obtain ⟨q, hq⟩ : ∃ q, Hid ((readyIds l).length = q) := ⟨_, rfl⟩
        clear hcell hwf hbn hel hx hOb HO
        by_cases hk5 : kd = 5
        · subst hk5
          go_wp2_with (first
    | ((go_at_call 21; refine (ow_clone HO1).mono ?_; rintro e w5 ⟨bc, rfl, HO2⟩; clear HO1))
    | ((go_at_call 20; refine (oi_ready_q HO2 hq.out).mono ?_; rintro e w6 ⟨ar, cr, rfl, HOz⟩; have HO3 := Lib.hid HOz.out.swap; have HB3 := Lib.hid (own_blk3 HO3.out); have d0 := HB3.out.cell_some (o := 0) rfl; have d1 := HB3.out.cell_some (o := 1) rfl; have d2 := HB3.out.cell_some (o := 2) rfl; have d3 := HB3.out.cell_some (o := 3) rfl; have HO3d := Lib.hid (HO3.out.drewN 1); clear HO2 HOz HB3))
    | ((with_reducible refine Ro.wp_region_walk (id := 30) [(115, 112)] [0,1,2,4,5,6,3,7,8,9] _ ?_ ?_ (by simp only [Reg.opsOf, List.map_cons, List.map_nil, Array.getD_eq_getD_getElem?, List.getElem?_toArray, List.getElem?_cons_zero, List.getElem?_cons_succ, Option.getD_some]; rfl) ?_); (kernel_rfl); (kernel_rfl))
    | ((go_at_call 18; refine (ow_wake HO3d nn).mono ?_; rintro e w7 ⟨v1, ws1, rfl, HA, HO4⟩; have HB4 := Lib.hid (own_blk4 HO4.out); have f3 := HB4.out.cell_some (o := 3) rfl; have HO5 := Lib.hid HO4.out.fifth; clear HO3 HO3d HO4 HB4))
    | ((go_at_call 26; refine (od_wake HO5 HD nn).mono ?_; rintro e w8 ⟨v2, ws2, rfl, HA2, HO6⟩; obtain ⟨HR2, HWE, HWL⟩ := rel_wakeH hR HD HA HA2; clear HO5 HA HA2))
    | ((go_at_call 19; refine (ow_same_ints HO6 HWE.out HWL.out).mono ?_; rintro e w9 ⟨rfl, HO7⟩; have HO8 := Lib.hid HO7.out.swap; clear HO6 HO7))
    | ((go_at_call 17; refine (ow_pick HO8).mono ?_))
    | ((with_reducible refine Ro.walk_nil ?_))
    | ((with_reducible refine Ro.walk_plain ?_ ?_ ?_); (rfl); (rfl); (intro K hK))
    | ((with_reducible apply Ro.walk_late); (rfl); (intro w'; kernel_rfl); (focus (first | (with_reducible assumption) | (simp only [World.cell?_drew, World.cell?_drewN]; with_reducible assumption) | (go_simp; exact rfl) | (go_simp; done))); (intro K hK))
    | ((with_reducible apply Ro.walk_nilCheck); (rfl); (rfl); (intro K hK))
    | ((with_reducible apply Ro.walk_bin); (rfl); (rfl); (rfl); (intro K hK))
    | ((with_reducible refine Ro.walk_loud ?_ ?_); (rfl); (intro K hK))
    | ((with_reducible refine Ro.Then.mk ?_ ?_))
    | ((with_reducible exact Ro.keeps_nil))
    | ((with_reducible refine Ro.keeps_skip ?_ ?_); (rfl))
    | ((with_reducible refine Ro.keeps_here ?_ ?_ ?_); (rfl); (focus (first | (with_reducible assumption) | (simp only [World.cell?_drew, World.cell?_drewN]; with_reducible assumption) | (go_simp; exact rfl) | (go_simp; done))))
    | ((with_reducible refine Reg.wp_region_text ?_ ?_ ?_); (kernel_rfl); (kernel_rfl))
    | ((with_reducible refine Reg.text_nil ?_))
    | ((with_reducible refine Reg.text_plain ?_ ?_); (rfl); (intro K hK))
    | ((with_reducible apply Reg.text_nilCheck); (rfl); (intro K hK))
    | ((with_reducible apply Reg.text_bin); (rfl); (rfl); (intro K hK))
    | ((with_reducible refine Reg.text_loud ?_ ?_); (rfl); (intro K hK))
    | ((with_reducible refine Reg.text_skipG ?_ ?_); (rfl); (intro K hK)))
          rintro e w10 ⟨rfl, HO9⟩
          have HD2 : Hid (Doc (wokenBy nn x)) := rel_doc HR2.out (ow_ids HO9.out) (ow_ok HO9.out)
          obtain ⟨pa, hpv, hpa⟩ := rel_pick HR2.out (fun r hr => (ow_ok HO9.out r hr).id0)
          obtain ⟨m, hm⟩ : ∃ m, Hid (bestId (wokenBy nn x) = m) := ⟨_, rfl⟩
          rw [hm.out] at hpv hpa
          rw [hpv]
          have HO10 := Lib.hid HO9.out.swap
          have HRE : Hid (readyIds (wokenBy nn x) = readyIds (wokeBy nn l)) := (rel_ready HR2.out).symm
          have HRL : Hid ((readyIds (wokenBy nn x)).length < 9223372036854775807) := by
            have h1 := ready_le (wokenBy nn x)
            have h2 := HD2.out.len
            show (readyIds (wokenBy nn x)).length < 9223372036854775807
            omega
          clear hpv HO9
          by_cases hp : 0 ≤ m
          · obtain rfl := hpa hp
            rw [decide_eq_true hp]
            go_wp2_with (first
    | ((go_at_call 27; refine (od_pick_m HO10 HD2 hm.out).mono ?_; rintro e w11 ⟨rfl, HO11⟩; have HO12 := Lib.hid HO11.out.swap; clear HO10 HO11))
    | ((go_at_call 20; refine (ow_ready HO12).mono ?_; rintro e w12 ⟨v1, rfl, HO13⟩; have HO14 := Lib.hid HO13.out.third; clear HO12 HO13))
    | ((go_at_call 28; refine (od_ready HO14 HD2).mono ?_; rintro e w13 ⟨v2, rfl, HO15⟩; clear HO14))
    | ((go_at_call 19; refine (ow_same_ints HO15 HRE.out HRL.out).mono ?_; rintro e w14 ⟨rfl, HO16⟩; have HO17 := Lib.hid HO16.out.third; clear HO15 HO16))
    | ((go_at_call 20; refine (oi_ready_q HO17 hq.out).mono ?_; rintro e w15 ⟨ar2, cr2, rfl, HO18⟩; have HO19 := Lib.hid HO18.out.drop.third.drop; clear HO17 HO18))
    | ((with_reducible refine Reg.wp_region_text ?_ ?_ ?_); (kernel_rfl); (kernel_rfl))
    | ((with_reducible refine Reg.text_nil ?_))
    | ((with_reducible refine Reg.text_plain ?_ ?_); (rfl); (intro K hK))
    | ((with_reducible apply Reg.text_nilCheck); (rfl); (intro K hK))
    | ((with_reducible apply Reg.text_bin); (rfl); (rfl); (intro K hK))
    | ((with_reducible refine Reg.text_loud ?_ ?_); (rfl); (intro K hK))
    | ((with_reducible refine Reg.text_skipG ?_ ?_); (rfl); (intro K hK)))
            go_roundw
            case rel => exact ⟨k + 1, _, _, by simp, by omega, HR2, HO19⟩
            case measure => simp [intOf]; omega
          · rw [decide_eq_false hp]
            clear hpa
            go_wp2_with (first
    | ((go_at_call 27; refine (od_pick_m HO10 HD2 hm.out).mono ?_; rintro e w11 ⟨rfl, HO11⟩; have HO12 := Lib.hid HO11.out.swap; clear HO10 HO11))
    | ((go_at_call 20; refine (ow_ready HO12).mono ?_; rintro e w12 ⟨v1, rfl, HO13⟩; have HO14 := Lib.hid HO13.out.third; clear HO12 HO13))
    | ((go_at_call 28; refine (od_ready HO14 HD2).mono ?_; rintro e w13 ⟨v2, rfl, HO15⟩; clear HO14))
    | ((go_at_call 19; refine (ow_same_ints HO15 HRE.out HRL.out).mono ?_; rintro e w14 ⟨rfl, HO16⟩; have HO17 := Lib.hid HO16.out.third; clear HO15 HO16))
    | ((go_at_call 20; refine (oi_ready_q HO17 hq.out).mono ?_; rintro e w15 ⟨ar2, cr2, rfl, HO18⟩; have HO19 := Lib.hid HO18.out.drop.third.drop; clear HO17 HO18))
    | ((with_reducible refine Reg.wp_region_text ?_ ?_ ?_); (kernel_rfl); (kernel_rfl))
    | ((with_reducible refine Reg.text_nil ?_))
    | ((with_reducible refine Reg.text_plain ?_ ?_); (rfl); (intro K hK))
    | ((with_reducible apply Reg.text_nilCheck); (rfl); (intro K hK))
    | ((with_reducible apply Reg.text_bin); (rfl); (rfl); (intro K hK))
    | ((with_reducible refine Reg.text_loud ?_ ?_); (rfl); (intro K hK))
    | ((with_reducible refine Reg.text_skipG ?_ ?_); (rfl); (intro K hK)))
            go_roundw
            case rel => exact ⟨k + 1, _, _, by simp, by omega, HR2, HO19⟩
            case measure => simp [intOf]; omega
        by_cases hk1 : kd = 1
        · subst hk1
          go_wp2_with (first
    | ((go_at_call 21; refine (ow_clone HO1).mono ?_; rintro e w5 ⟨bc, rfl, HO2⟩; clear HO1))
    | ((go_at_call 20; refine (oi_ready_q HO2 hq.out).mono ?_; rintro e w6 ⟨ar, cr, rfl, HOz⟩; have HO3 := Lib.hid HOz.out.swap; have HB3 := Lib.hid (own_blk3 HO3.out); have d0 := HB3.out.cell_some (o := 0) rfl; have d1 := HB3.out.cell_some (o := 1) rfl; have d2 := HB3.out.cell_some (o := 2) rfl; have d3 := HB3.out.cell_some (o := 3) rfl; have HO3d := Lib.hid (HO3.out.drewN 1); clear HO2 HOz HB3))
    | ((with_reducible refine Ro.wp_region_walk (id := 18) [(57, 54), (59, 54)] [0,1,2,3,4,6,7,8,9,10,5,11,12,13] _ ?_ ?_ (by simp only [Reg.opsOf, List.map_cons, List.map_nil, Array.getD_eq_getD_getElem?, List.getElem?_toArray, List.getElem?_cons_zero, List.getElem?_cons_succ, Option.getD_some]; rfl) ?_); (kernel_rfl); (kernel_rfl))
    | ((go_at_call 11; refine (oi_add HO3d HS.out _ _).mono ?_; rintro e w7 ⟨y, cc, l', rfl, HC, HA, HO4⟩; have HB4 := Lib.hid (own_blk3 HO4.out); have f1 := HB4.out.cell_some (o := 1) rfl; have f2 := HB4.out.cell_some (o := 2) rfl; have f3 := HB4.out.cell_some (o := 3) rfl; have HO5 := Lib.hid HO4.out.fourth; clear HO3 HO3d HO4 HB4))
    | ((go_at_call 22; refine (od_add HO5 HD _ _).mono ?_; rintro e w8 ⟨c2, x', rfl, HA2, HO6⟩; obtain ⟨rfl, hl'⟩ := rel_add hR.out HA.out HA2.out; have HR2 := Lib.hid hl'; clear HO5 HA HA2 hl'))
    | ((go_at_call 15; refine (ow_is HO6 HS.out HC).mono ?_; rintro e w9 ⟨rfl, HO7⟩; rw [beq_self_eq_true]; have HO8 := Lib.hid HO7.out.swap; clear HO6 HO7))
    | ((go_at_call 17; refine (ow_pick HO8).mono ?_))
    | ((with_reducible refine Ro.walk_nil ?_))
    | ((with_reducible refine Ro.walk_plain ?_ ?_ ?_); (rfl); (rfl); (intro K hK))
    | ((with_reducible apply Ro.walk_late); (rfl); (intro w'; kernel_rfl); (focus (first | (with_reducible assumption) | (simp only [World.cell?_drew, World.cell?_drewN]; with_reducible assumption) | (go_simp; exact rfl) | (go_simp; done))); (intro K hK))
    | ((with_reducible apply Ro.walk_nilCheck); (rfl); (rfl); (intro K hK))
    | ((with_reducible apply Ro.walk_bin); (rfl); (rfl); (rfl); (intro K hK))
    | ((with_reducible refine Ro.walk_loud ?_ ?_); (rfl); (intro K hK))
    | ((with_reducible refine Ro.Then.mk ?_ ?_))
    | ((with_reducible exact Ro.keeps_nil))
    | ((with_reducible refine Ro.keeps_skip ?_ ?_); (rfl))
    | ((with_reducible refine Ro.keeps_here ?_ ?_ ?_); (rfl); (focus (first | (with_reducible assumption) | (simp only [World.cell?_drew, World.cell?_drewN]; with_reducible assumption) | (go_simp; exact rfl) | (go_simp; done))))
    | ((with_reducible refine Reg.wp_region_text ?_ ?_ ?_); (kernel_rfl); (kernel_rfl))
    | ((with_reducible refine Reg.text_nil ?_))
    | ((with_reducible refine Reg.text_plain ?_ ?_); (rfl); (intro K hK))
    | ((with_reducible apply Reg.text_nilCheck); (rfl); (intro K hK))
    | ((with_reducible apply Reg.text_bin); (rfl); (rfl); (intro K hK))
    | ((with_reducible refine Reg.text_loud ?_ ?_); (rfl); (intro K hK))
    | ((with_reducible refine Reg.text_skipG ?_ ?_); (rfl); (intro K hK)))
          rintro e w10 ⟨rfl, HO9⟩
          have HD2 : Hid (Doc (x')) := rel_doc HR2.out (ow_ids HO9.out) (ow_ok HO9.out)
          obtain ⟨pa, hpv, hpa⟩ := rel_pick HR2.out (fun r hr => (ow_ok HO9.out r hr).id0)
          obtain ⟨m, hm⟩ : ∃ m, Hid (bestId (x') = m) := ⟨_, rfl⟩
          rw [hm.out] at hpv hpa
          rw [hpv]
          have HO10 := Lib.hid HO9.out.swap
          have HRE : Hid (readyIds (x') = readyIds (l')) := (rel_ready HR2.out).symm
          have HRL : Hid ((readyIds (x')).length < 9223372036854775807) := by
            have h1 := ready_le (x')
            have h2 := HD2.out.len
            show (readyIds (x')).length < 9223372036854775807
            omega
          clear hpv HO9
          by_cases hp : 0 ≤ m
          · obtain rfl := hpa hp
            rw [decide_eq_true hp]
            go_wp2_with (first
    | ((go_at_call 27; refine (od_pick_m HO10 HD2 hm.out).mono ?_; rintro e w11 ⟨rfl, HO11⟩; have HO12 := Lib.hid HO11.out.swap; clear HO10 HO11))
    | ((go_at_call 20; refine (ow_ready HO12).mono ?_; rintro e w12 ⟨v1, rfl, HO13⟩; have HO14 := Lib.hid HO13.out.third; clear HO12 HO13))
    | ((go_at_call 28; refine (od_ready HO14 HD2).mono ?_; rintro e w13 ⟨v2, rfl, HO15⟩; clear HO14))
    | ((go_at_call 19; refine (ow_same_ints HO15 HRE.out HRL.out).mono ?_; rintro e w14 ⟨rfl, HO16⟩; have HO17 := Lib.hid HO16.out.third; clear HO15 HO16))
    | ((go_at_call 20; refine (oi_ready_q HO17 hq.out).mono ?_; rintro e w15 ⟨ar2, cr2, rfl, HO18⟩; have HO19 := Lib.hid HO18.out.drop.third.drop; clear HO17 HO18))
    | ((with_reducible refine Reg.wp_region_text ?_ ?_ ?_); (kernel_rfl); (kernel_rfl))
    | ((with_reducible refine Reg.text_nil ?_))
    | ((with_reducible refine Reg.text_plain ?_ ?_); (rfl); (intro K hK))
    | ((with_reducible apply Reg.text_nilCheck); (rfl); (intro K hK))
    | ((with_reducible apply Reg.text_bin); (rfl); (rfl); (intro K hK))
    | ((with_reducible refine Reg.text_loud ?_ ?_); (rfl); (intro K hK))
    | ((with_reducible refine Reg.text_skipG ?_ ?_); (rfl); (intro K hK)))
            go_roundw
            case rel => exact ⟨k + 1, _, _, by simp, by omega, HR2, HO19⟩
            case measure => simp [intOf]; omega
          · rw [decide_eq_false hp]
            clear hpa
            go_wp2_with (first
    | ((go_at_call 27; refine (od_pick_m HO10 HD2 hm.out).mono ?_; rintro e w11 ⟨rfl, HO11⟩; have HO12 := Lib.hid HO11.out.swap; clear HO10 HO11))
    | ((go_at_call 20; refine (ow_ready HO12).mono ?_; rintro e w12 ⟨v1, rfl, HO13⟩; have HO14 := Lib.hid HO13.out.third; clear HO12 HO13))
    | ((go_at_call 28; refine (od_ready HO14 HD2).mono ?_; rintro e w13 ⟨v2, rfl, HO15⟩; clear HO14))
    | ((go_at_call 19; refine (ow_same_ints HO15 HRE.out HRL.out).mono ?_; rintro e w14 ⟨rfl, HO16⟩; have HO17 := Lib.hid HO16.out.third; clear HO15 HO16))
    | ((go_at_call 20; refine (oi_ready_q HO17 hq.out).mono ?_; rintro e w15 ⟨ar2, cr2, rfl, HO18⟩; have HO19 := Lib.hid HO18.out.drop.third.drop; clear HO17 HO18))
    | ((with_reducible refine Reg.wp_region_text ?_ ?_ ?_); (kernel_rfl); (kernel_rfl))
    | ((with_reducible refine Reg.text_nil ?_))
    | ((with_reducible refine Reg.text_plain ?_ ?_); (rfl); (intro K hK))
    | ((with_reducible apply Reg.text_nilCheck); (rfl); (intro K hK))
    | ((with_reducible apply Reg.text_bin); (rfl); (rfl); (intro K hK))
    | ((with_reducible refine Reg.text_loud ?_ ?_); (rfl); (intro K hK))
    | ((with_reducible refine Reg.text_skipG ?_ ?_); (rfl); (intro K hK)))
            go_roundw
            case rel => exact ⟨k + 1, _, _, by simp, by omega, HR2, HO19⟩
            case measure => simp [intOf]; omega
        by_cases hk2 : kd = 2
        · subst hk2
          go_wp2_with (first
    | ((go_at_call 21; refine (ow_clone HO1).mono ?_; rintro e w5 ⟨bc, rfl, HO2⟩; clear HO1))
    | ((go_at_call 20; refine (oi_ready_q HO2 hq.out).mono ?_; rintro e w6 ⟨ar, cr, rfl, HOz⟩; have HO3 := Lib.hid HOz.out.swap; have HB3 := Lib.hid (own_blk3 HO3.out); have d0 := HB3.out.cell_some (o := 0) rfl; have d1 := HB3.out.cell_some (o := 1) rfl; have d2 := HB3.out.cell_some (o := 2) rfl; have d3 := HB3.out.cell_some (o := 3) rfl; have HO3d := Lib.hid (HO3.out.drewN 1); clear HO2 HOz HB3))
    | ((with_reducible refine Ro.wp_region_walk (id := 21) [(71, 68)] [0,1,2,4,5,6,3,7,8,9] _ ?_ ?_ (by simp only [Reg.opsOf, List.map_cons, List.map_nil, Array.getD_eq_getD_getElem?, List.getElem?_toArray, List.getElem?_cons_zero, List.getElem?_cons_succ, Option.getD_some]; rfl) ?_); (kernel_rfl); (kernel_rfl))
    | ((go_at_call 14; refine (oi_del HO3d HS.out _).mono ?_; rintro e w7 ⟨y, cc, l', rfl, HC, HA, HO4⟩; have HB4 := Lib.hid (own_blk3 HO4.out); have f1 := HB4.out.cell_some (o := 1) rfl; have f2 := HB4.out.cell_some (o := 2) rfl; have f3 := HB4.out.cell_some (o := 3) rfl; have HO5 := Lib.hid HO4.out.fourth; clear HO3 HO3d HO4 HB4))
    | ((go_at_call 23; refine (od_del HO5 HD _).mono ?_; rintro e w8 ⟨c2, x', rfl, HA2, HO6⟩; obtain ⟨rfl, hl'⟩ := rel_del hR.out HA.out HA2.out; have HR2 := Lib.hid hl'; clear HO5 HA HA2 hl'))
    | ((go_at_call 15; refine (ow_is HO6 HS.out HC).mono ?_; rintro e w9 ⟨rfl, HO7⟩; rw [beq_self_eq_true]; have HO8 := Lib.hid HO7.out.swap; clear HO6 HO7))
    | ((go_at_call 17; refine (ow_pick HO8).mono ?_))
    | ((with_reducible refine Ro.walk_nil ?_))
    | ((with_reducible refine Ro.walk_plain ?_ ?_ ?_); (rfl); (rfl); (intro K hK))
    | ((with_reducible apply Ro.walk_late); (rfl); (intro w'; kernel_rfl); (focus (first | (with_reducible assumption) | (simp only [World.cell?_drew, World.cell?_drewN]; with_reducible assumption) | (go_simp; exact rfl) | (go_simp; done))); (intro K hK))
    | ((with_reducible apply Ro.walk_nilCheck); (rfl); (rfl); (intro K hK))
    | ((with_reducible apply Ro.walk_bin); (rfl); (rfl); (rfl); (intro K hK))
    | ((with_reducible refine Ro.walk_loud ?_ ?_); (rfl); (intro K hK))
    | ((with_reducible refine Ro.Then.mk ?_ ?_))
    | ((with_reducible exact Ro.keeps_nil))
    | ((with_reducible refine Ro.keeps_skip ?_ ?_); (rfl))
    | ((with_reducible refine Ro.keeps_here ?_ ?_ ?_); (rfl); (focus (first | (with_reducible assumption) | (simp only [World.cell?_drew, World.cell?_drewN]; with_reducible assumption) | (go_simp; exact rfl) | (go_simp; done))))
    | ((with_reducible refine Reg.wp_region_text ?_ ?_ ?_); (kernel_rfl); (kernel_rfl))
    | ((with_reducible refine Reg.text_nil ?_))
    | ((with_reducible refine Reg.text_plain ?_ ?_); (rfl); (intro K hK))
    | ((with_reducible apply Reg.text_nilCheck); (rfl); (intro K hK))
    | ((with_reducible apply Reg.text_bin); (rfl); (rfl); (intro K hK))
    | ((with_reducible refine Reg.text_loud ?_ ?_); (rfl); (intro K hK))
    | ((with_reducible refine Reg.text_skipG ?_ ?_); (rfl); (intro K hK)))
          rintro e w10 ⟨rfl, HO9⟩
          have HD2 : Hid (Doc (x')) := rel_doc HR2.out (ow_ids HO9.out) (ow_ok HO9.out)
          obtain ⟨pa, hpv, hpa⟩ := rel_pick HR2.out (fun r hr => (ow_ok HO9.out r hr).id0)
          obtain ⟨m, hm⟩ : ∃ m, Hid (bestId (x') = m) := ⟨_, rfl⟩
          rw [hm.out] at hpv hpa
          rw [hpv]
          have HO10 := Lib.hid HO9.out.swap
          have HRE : Hid (readyIds (x') = readyIds (l')) := (rel_ready HR2.out).symm
          have HRL : Hid ((readyIds (x')).length < 9223372036854775807) := by
            have h1 := ready_le (x')
            have h2 := HD2.out.len
            show (readyIds (x')).length < 9223372036854775807
            omega
          clear hpv HO9
          by_cases hp : 0 ≤ m
          · obtain rfl := hpa hp
            rw [decide_eq_true hp]
            go_wp2_with (first
    | ((go_at_call 27; refine (od_pick_m HO10 HD2 hm.out).mono ?_; rintro e w11 ⟨rfl, HO11⟩; have HO12 := Lib.hid HO11.out.swap; clear HO10 HO11))
    | ((go_at_call 20; refine (ow_ready HO12).mono ?_; rintro e w12 ⟨v1, rfl, HO13⟩; have HO14 := Lib.hid HO13.out.third; clear HO12 HO13))
    | ((go_at_call 28; refine (od_ready HO14 HD2).mono ?_; rintro e w13 ⟨v2, rfl, HO15⟩; clear HO14))
    | ((go_at_call 19; refine (ow_same_ints HO15 HRE.out HRL.out).mono ?_; rintro e w14 ⟨rfl, HO16⟩; have HO17 := Lib.hid HO16.out.third; clear HO15 HO16))
    | ((go_at_call 20; refine (oi_ready_q HO17 hq.out).mono ?_; rintro e w15 ⟨ar2, cr2, rfl, HO18⟩; have HO19 := Lib.hid HO18.out.drop.third.drop; clear HO17 HO18))
    | ((with_reducible refine Reg.wp_region_text ?_ ?_ ?_); (kernel_rfl); (kernel_rfl))
    | ((with_reducible refine Reg.text_nil ?_))
    | ((with_reducible refine Reg.text_plain ?_ ?_); (rfl); (intro K hK))
    | ((with_reducible apply Reg.text_nilCheck); (rfl); (intro K hK))
    | ((with_reducible apply Reg.text_bin); (rfl); (rfl); (intro K hK))
    | ((with_reducible refine Reg.text_loud ?_ ?_); (rfl); (intro K hK))
    | ((with_reducible refine Reg.text_skipG ?_ ?_); (rfl); (intro K hK)))
            go_roundw
            case rel => exact ⟨k + 1, _, _, by simp, by omega, HR2, HO19⟩
            case measure => simp [intOf]; omega
          · rw [decide_eq_false hp]
            clear hpa
            go_wp2_with (first
    | ((go_at_call 27; refine (od_pick_m HO10 HD2 hm.out).mono ?_; rintro e w11 ⟨rfl, HO11⟩; have HO12 := Lib.hid HO11.out.swap; clear HO10 HO11))
    | ((go_at_call 20; refine (ow_ready HO12).mono ?_; rintro e w12 ⟨v1, rfl, HO13⟩; have HO14 := Lib.hid HO13.out.third; clear HO12 HO13))
    | ((go_at_call 28; refine (od_ready HO14 HD2).mono ?_; rintro e w13 ⟨v2, rfl, HO15⟩; clear HO14))
    | ((go_at_call 19; refine (ow_same_ints HO15 HRE.out HRL.out).mono ?_; rintro e w14 ⟨rfl, HO16⟩; have HO17 := Lib.hid HO16.out.third; clear HO15 HO16))
    | ((go_at_call 20; refine (oi_ready_q HO17 hq.out).mono ?_; rintro e w15 ⟨ar2, cr2, rfl, HO18⟩; have HO19 := Lib.hid HO18.out.drop.third.drop; clear HO17 HO18))
    | ((with_reducible refine Reg.wp_region_text ?_ ?_ ?_); (kernel_rfl); (kernel_rfl))
    | ((with_reducible refine Reg.text_nil ?_))
    | ((with_reducible refine Reg.text_plain ?_ ?_); (rfl); (intro K hK))
    | ((with_reducible apply Reg.text_nilCheck); (rfl); (intro K hK))
    | ((with_reducible apply Reg.text_bin); (rfl); (rfl); (intro K hK))
    | ((with_reducible refine Reg.text_loud ?_ ?_); (rfl); (intro K hK))
    | ((with_reducible refine Reg.text_skipG ?_ ?_); (rfl); (intro K hK)))
            go_roundw
            case rel => exact ⟨k + 1, _, _, by simp, by omega, HR2, HO19⟩
            case measure => simp [intOf]; omega
        by_cases hk3 : kd = 3
        · subst hk3
          go_wp2_with (first
    | ((go_at_call 21; refine (ow_clone HO1).mono ?_; rintro e w5 ⟨bc, rfl, HO2⟩; clear HO1))
    | ((go_at_call 20; refine (oi_ready_q HO2 hq.out).mono ?_; rintro e w6 ⟨ar, cr, rfl, HOz⟩; have HO3 := Lib.hid HOz.out.swap; have HB3 := Lib.hid (own_blk3 HO3.out); have d0 := HB3.out.cell_some (o := 0) rfl; have d1 := HB3.out.cell_some (o := 1) rfl; have d2 := HB3.out.cell_some (o := 2) rfl; have d3 := HB3.out.cell_some (o := 3) rfl; have HO3d := Lib.hid (HO3.out.drewN 1); clear HO2 HOz HB3))
    | ((with_reducible refine Ro.wp_region_walk (id := 24) [(85, 82), (87, 82)] [0,1,2,3,4,6,7,8,9,10,5,11,12,13] _ ?_ ?_ (by simp only [Reg.opsOf, List.map_cons, List.map_nil, Array.getD_eq_getD_getElem?, List.getElem?_toArray, List.getElem?_cons_zero, List.getElem?_cons_succ, Option.getD_some]; rfl) ?_); (kernel_rfl); (kernel_rfl))
    | ((go_at_call 12; refine (oi_ran HO3d HS.out _ _).mono ?_; rintro e w7 ⟨y, cc, l', rfl, HC, HA, HO4⟩; have HB4 := Lib.hid (own_blk3 HO4.out); have f1 := HB4.out.cell_some (o := 1) rfl; have f2 := HB4.out.cell_some (o := 2) rfl; have f3 := HB4.out.cell_some (o := 3) rfl; have HO5 := Lib.hid HO4.out.fourth; clear HO3 HO3d HO4 HB4))
    | ((go_at_call 24; refine (od_ran HO5 HD _ _).mono ?_; rintro e w8 ⟨c2, x', rfl, HA2, HO6⟩; obtain ⟨rfl, hl'⟩ := rel_ran hR.out HA.out HA2.out; have HR2 := Lib.hid hl'; clear HO5 HA HA2 hl'))
    | ((go_at_call 15; refine (ow_is HO6 HS.out HC).mono ?_; rintro e w9 ⟨rfl, HO7⟩; rw [beq_self_eq_true]; have HO8 := Lib.hid HO7.out.swap; clear HO6 HO7))
    | ((go_at_call 17; refine (ow_pick HO8).mono ?_))
    | ((with_reducible refine Ro.walk_nil ?_))
    | ((with_reducible refine Ro.walk_plain ?_ ?_ ?_); (rfl); (rfl); (intro K hK))
    | ((with_reducible apply Ro.walk_late); (rfl); (intro w'; kernel_rfl); (focus (first | (with_reducible assumption) | (simp only [World.cell?_drew, World.cell?_drewN]; with_reducible assumption) | (go_simp; exact rfl) | (go_simp; done))); (intro K hK))
    | ((with_reducible apply Ro.walk_nilCheck); (rfl); (rfl); (intro K hK))
    | ((with_reducible apply Ro.walk_bin); (rfl); (rfl); (rfl); (intro K hK))
    | ((with_reducible refine Ro.walk_loud ?_ ?_); (rfl); (intro K hK))
    | ((with_reducible refine Ro.Then.mk ?_ ?_))
    | ((with_reducible exact Ro.keeps_nil))
    | ((with_reducible refine Ro.keeps_skip ?_ ?_); (rfl))
    | ((with_reducible refine Ro.keeps_here ?_ ?_ ?_); (rfl); (focus (first | (with_reducible assumption) | (simp only [World.cell?_drew, World.cell?_drewN]; with_reducible assumption) | (go_simp; exact rfl) | (go_simp; done))))
    | ((with_reducible refine Reg.wp_region_text ?_ ?_ ?_); (kernel_rfl); (kernel_rfl))
    | ((with_reducible refine Reg.text_nil ?_))
    | ((with_reducible refine Reg.text_plain ?_ ?_); (rfl); (intro K hK))
    | ((with_reducible apply Reg.text_nilCheck); (rfl); (intro K hK))
    | ((with_reducible apply Reg.text_bin); (rfl); (rfl); (intro K hK))
    | ((with_reducible refine Reg.text_loud ?_ ?_); (rfl); (intro K hK))
    | ((with_reducible refine Reg.text_skipG ?_ ?_); (rfl); (intro K hK)))
          rintro e w10 ⟨rfl, HO9⟩
          have HD2 : Hid (Doc (x')) := rel_doc HR2.out (ow_ids HO9.out) (ow_ok HO9.out)
          obtain ⟨pa, hpv, hpa⟩ := rel_pick HR2.out (fun r hr => (ow_ok HO9.out r hr).id0)
          obtain ⟨m, hm⟩ : ∃ m, Hid (bestId (x') = m) := ⟨_, rfl⟩
          rw [hm.out] at hpv hpa
          rw [hpv]
          have HO10 := Lib.hid HO9.out.swap
          have HRE : Hid (readyIds (x') = readyIds (l')) := (rel_ready HR2.out).symm
          have HRL : Hid ((readyIds (x')).length < 9223372036854775807) := by
            have h1 := ready_le (x')
            have h2 := HD2.out.len
            show (readyIds (x')).length < 9223372036854775807
            omega
          clear hpv HO9
          by_cases hp : 0 ≤ m
          · obtain rfl := hpa hp
            rw [decide_eq_true hp]
            go_wp2_with (first
    | ((go_at_call 27; refine (od_pick_m HO10 HD2 hm.out).mono ?_; rintro e w11 ⟨rfl, HO11⟩; have HO12 := Lib.hid HO11.out.swap; clear HO10 HO11))
    | ((go_at_call 20; refine (ow_ready HO12).mono ?_; rintro e w12 ⟨v1, rfl, HO13⟩; have HO14 := Lib.hid HO13.out.third; clear HO12 HO13))
    | ((go_at_call 28; refine (od_ready HO14 HD2).mono ?_; rintro e w13 ⟨v2, rfl, HO15⟩; clear HO14))
    | ((go_at_call 19; refine (ow_same_ints HO15 HRE.out HRL.out).mono ?_; rintro e w14 ⟨rfl, HO16⟩; have HO17 := Lib.hid HO16.out.third; clear HO15 HO16))
    | ((go_at_call 20; refine (oi_ready_q HO17 hq.out).mono ?_; rintro e w15 ⟨ar2, cr2, rfl, HO18⟩; have HO19 := Lib.hid HO18.out.drop.third.drop; clear HO17 HO18))
    | ((with_reducible refine Reg.wp_region_text ?_ ?_ ?_); (kernel_rfl); (kernel_rfl))
    | ((with_reducible refine Reg.text_nil ?_))
    | ((with_reducible refine Reg.text_plain ?_ ?_); (rfl); (intro K hK))
    | ((with_reducible apply Reg.text_nilCheck); (rfl); (intro K hK))
    | ((with_reducible apply Reg.text_bin); (rfl); (rfl); (intro K hK))
    | ((with_reducible refine Reg.text_loud ?_ ?_); (rfl); (intro K hK))
    | ((with_reducible refine Reg.text_skipG ?_ ?_); (rfl); (intro K hK)))
            go_roundw
            case rel => exact ⟨k + 1, _, _, by simp, by omega, HR2, HO19⟩
            case measure => simp [intOf]; omega
          · rw [decide_eq_false hp]
            clear hpa
            go_wp2_with (first
    | ((go_at_call 27; refine (od_pick_m HO10 HD2 hm.out).mono ?_; rintro e w11 ⟨rfl, HO11⟩; have HO12 := Lib.hid HO11.out.swap; clear HO10 HO11))
    | ((go_at_call 20; refine (ow_ready HO12).mono ?_; rintro e w12 ⟨v1, rfl, HO13⟩; have HO14 := Lib.hid HO13.out.third; clear HO12 HO13))
    | ((go_at_call 28; refine (od_ready HO14 HD2).mono ?_; rintro e w13 ⟨v2, rfl, HO15⟩; clear HO14))
    | ((go_at_call 19; refine (ow_same_ints HO15 HRE.out HRL.out).mono ?_; rintro e w14 ⟨rfl, HO16⟩; have HO17 := Lib.hid HO16.out.third; clear HO15 HO16))
    | ((go_at_call 20; refine (oi_ready_q HO17 hq.out).mono ?_; rintro e w15 ⟨ar2, cr2, rfl, HO18⟩; have HO19 := Lib.hid HO18.out.drop.third.drop; clear HO17 HO18))
    | ((with_reducible refine Reg.wp_region_text ?_ ?_ ?_); (kernel_rfl); (kernel_rfl))
    | ((with_reducible refine Reg.text_nil ?_))
    | ((with_reducible refine Reg.text_plain ?_ ?_); (rfl); (intro K hK))
    | ((with_reducible apply Reg.text_nilCheck); (rfl); (intro K hK))
    | ((with_reducible apply Reg.text_bin); (rfl); (rfl); (intro K hK))
    | ((with_reducible refine Reg.text_loud ?_ ?_); (rfl); (intro K hK))
    | ((with_reducible refine Reg.text_skipG ?_ ?_); (rfl); (intro K hK)))
            go_roundw
            case rel => exact ⟨k + 1, _, _, by simp, by omega, HR2, HO19⟩
            case measure => simp [intOf]; omega
        by_cases hk4 : kd = 4
        · subst hk4
          go_wp2_with (first
    | ((go_at_call 21; refine (ow_clone HO1).mono ?_; rintro e w5 ⟨bc, rfl, HO2⟩; clear HO1))
    | ((go_at_call 20; refine (oi_ready_q HO2 hq.out).mono ?_; rintro e w6 ⟨ar, cr, rfl, HOz⟩; have HO3 := Lib.hid HOz.out.swap; have HB3 := Lib.hid (own_blk3 HO3.out); have d0 := HB3.out.cell_some (o := 0) rfl; have d1 := HB3.out.cell_some (o := 1) rfl; have d2 := HB3.out.cell_some (o := 2) rfl; have d3 := HB3.out.cell_some (o := 3) rfl; have HO3d := Lib.hid (HO3.out.drewN 1); clear HO2 HOz HB3))
    | ((with_reducible refine Ro.wp_region_walk (id := 27) [(101, 98), (103, 98)] [0,1,2,3,4,6,7,8,9,10,5,11,12,13] _ ?_ ?_ (by simp only [Reg.opsOf, List.map_cons, List.map_nil, Array.getD_eq_getD_getElem?, List.getElem?_toArray, List.getElem?_cons_zero, List.getElem?_cons_succ, Option.getD_some]; rfl) ?_); (kernel_rfl); (kernel_rfl))
    | ((go_at_call 16; refine (oi_sleep HO3d HS.out _ _ HBN.out.1 HBN.out.2).mono ?_; rintro e w7 ⟨y, cc, l', rfl, HC, HA, HO4⟩; have HB4 := Lib.hid (own_blk3 HO4.out); have f1 := HB4.out.cell_some (o := 1) rfl; have f2 := HB4.out.cell_some (o := 2) rfl; have f3 := HB4.out.cell_some (o := 3) rfl; have HO5 := Lib.hid HO4.out.fourth; clear HO3 HO3d HO4 HB4))
    | ((go_at_call 25; refine (od_sleep HO5 HD _ _).mono ?_; rintro e w8 ⟨c2, x', rfl, HA2, HO6⟩; obtain ⟨rfl, hl'⟩ := rel_sleep hR.out HA.out HA2.out; have HR2 := Lib.hid hl'; clear HO5 HA HA2 hl'))
    | ((go_at_call 15; refine (ow_is HO6 HS.out HC).mono ?_; rintro e w9 ⟨rfl, HO7⟩; rw [beq_self_eq_true]; have HO8 := Lib.hid HO7.out.swap; clear HO6 HO7))
    | ((go_at_call 17; refine (ow_pick HO8).mono ?_))
    | ((with_reducible refine Ro.walk_nil ?_))
    | ((with_reducible refine Ro.walk_plain ?_ ?_ ?_); (rfl); (rfl); (intro K hK))
    | ((with_reducible apply Ro.walk_late); (rfl); (intro w'; kernel_rfl); (focus (first | (with_reducible assumption) | (simp only [World.cell?_drew, World.cell?_drewN]; with_reducible assumption) | (go_simp; exact rfl) | (go_simp; done))); (intro K hK))
    | ((with_reducible apply Ro.walk_nilCheck); (rfl); (rfl); (intro K hK))
    | ((with_reducible apply Ro.walk_bin); (rfl); (rfl); (rfl); (intro K hK))
    | ((with_reducible refine Ro.walk_loud ?_ ?_); (rfl); (intro K hK))
    | ((with_reducible refine Ro.Then.mk ?_ ?_))
    | ((with_reducible exact Ro.keeps_nil))
    | ((with_reducible refine Ro.keeps_skip ?_ ?_); (rfl))
    | ((with_reducible refine Ro.keeps_here ?_ ?_ ?_); (rfl); (focus (first | (with_reducible assumption) | (simp only [World.cell?_drew, World.cell?_drewN]; with_reducible assumption) | (go_simp; exact rfl) | (go_simp; done))))
    | ((with_reducible refine Reg.wp_region_text ?_ ?_ ?_); (kernel_rfl); (kernel_rfl))
    | ((with_reducible refine Reg.text_nil ?_))
    | ((with_reducible refine Reg.text_plain ?_ ?_); (rfl); (intro K hK))
    | ((with_reducible apply Reg.text_nilCheck); (rfl); (intro K hK))
    | ((with_reducible apply Reg.text_bin); (rfl); (rfl); (intro K hK))
    | ((with_reducible refine Reg.text_loud ?_ ?_); (rfl); (intro K hK))
    | ((with_reducible refine Reg.text_skipG ?_ ?_); (rfl); (intro K hK)))
          rintro e w10 ⟨rfl, HO9⟩
          have HD2 : Hid (Doc (x')) := rel_doc HR2.out (ow_ids HO9.out) (ow_ok HO9.out)
          obtain ⟨pa, hpv, hpa⟩ := rel_pick HR2.out (fun r hr => (ow_ok HO9.out r hr).id0)
          obtain ⟨m, hm⟩ : ∃ m, Hid (bestId (x') = m) := ⟨_, rfl⟩
          rw [hm.out] at hpv hpa
          rw [hpv]
          have HO10 := Lib.hid HO9.out.swap
          have HRE : Hid (readyIds (x') = readyIds (l')) := (rel_ready HR2.out).symm
          have HRL : Hid ((readyIds (x')).length < 9223372036854775807) := by
            have h1 := ready_le (x')
            have h2 := HD2.out.len
            show (readyIds (x')).length < 9223372036854775807
            omega
          clear hpv HO9
          by_cases hp : 0 ≤ m
          · obtain rfl := hpa hp
            rw [decide_eq_true hp]
            go_wp2_with (first
    | ((go_at_call 27; refine (od_pick_m HO10 HD2 hm.out).mono ?_; rintro e w11 ⟨rfl, HO11⟩; have HO12 := Lib.hid HO11.out.swap; clear HO10 HO11))
    | ((go_at_call 20; refine (ow_ready HO12).mono ?_; rintro e w12 ⟨v1, rfl, HO13⟩; have HO14 := Lib.hid HO13.out.third; clear HO12 HO13))
    | ((go_at_call 28; refine (od_ready HO14 HD2).mono ?_; rintro e w13 ⟨v2, rfl, HO15⟩; clear HO14))
    | ((go_at_call 19; refine (ow_same_ints HO15 HRE.out HRL.out).mono ?_; rintro e w14 ⟨rfl, HO16⟩; have HO17 := Lib.hid HO16.out.third; clear HO15 HO16))
    | ((go_at_call 20; refine (oi_ready_q HO17 hq.out).mono ?_; rintro e w15 ⟨ar2, cr2, rfl, HO18⟩; have HO19 := Lib.hid HO18.out.drop.third.drop; clear HO17 HO18))
    | ((with_reducible refine Reg.wp_region_text ?_ ?_ ?_); (kernel_rfl); (kernel_rfl))
    | ((with_reducible refine Reg.text_nil ?_))
    | ((with_reducible refine Reg.text_plain ?_ ?_); (rfl); (intro K hK))
    | ((with_reducible apply Reg.text_nilCheck); (rfl); (intro K hK))
    | ((with_reducible apply Reg.text_bin); (rfl); (rfl); (intro K hK))
    | ((with_reducible refine Reg.text_loud ?_ ?_); (rfl); (intro K hK))
    | ((with_reducible refine Reg.text_skipG ?_ ?_); (rfl); (intro K hK)))
            go_roundw
            case rel => exact ⟨k + 1, _, _, by simp, by omega, HR2, HO19⟩
            case measure => simp [intOf]; omega
          · rw [decide_eq_false hp]
            clear hpa
            go_wp2_with (first
    | ((go_at_call 27; refine (od_pick_m HO10 HD2 hm.out).mono ?_; rintro e w11 ⟨rfl, HO11⟩; have HO12 := Lib.hid HO11.out.swap; clear HO10 HO11))
    | ((go_at_call 20; refine (ow_ready HO12).mono ?_; rintro e w12 ⟨v1, rfl, HO13⟩; have HO14 := Lib.hid HO13.out.third; clear HO12 HO13))
    | ((go_at_call 28; refine (od_ready HO14 HD2).mono ?_; rintro e w13 ⟨v2, rfl, HO15⟩; clear HO14))
    | ((go_at_call 19; refine (ow_same_ints HO15 HRE.out HRL.out).mono ?_; rintro e w14 ⟨rfl, HO16⟩; have HO17 := Lib.hid HO16.out.third; clear HO15 HO16))
    | ((go_at_call 20; refine (oi_ready_q HO17 hq.out).mono ?_; rintro e w15 ⟨ar2, cr2, rfl, HO18⟩; have HO19 := Lib.hid HO18.out.drop.third.drop; clear HO17 HO18))
    | ((with_reducible refine Reg.wp_region_text ?_ ?_ ?_); (kernel_rfl); (kernel_rfl))
    | ((with_reducible refine Reg.text_nil ?_))
    | ((with_reducible refine Reg.text_plain ?_ ?_); (rfl); (intro K hK))
    | ((with_reducible apply Reg.text_nilCheck); (rfl); (intro K hK))
    | ((with_reducible apply Reg.text_bin); (rfl); (rfl); (intro K hK))
    | ((with_reducible refine Reg.text_loud ?_ ?_); (rfl); (intro K hK))
    | ((with_reducible refine Reg.text_skipG ?_ ?_); (rfl); (intro K hK)))
            go_roundw
            case rel => exact ⟨k + 1, _, _, by simp, by omega, HR2, HO19⟩
            case measure => simp [intOf]; omega
        have hn1 : (kd == 1) = false := by simpa using hk1
        have hn2 : (kd == 2) = false := by simpa using hk2
        have hn3 : (kd == 3) = false := by simpa using hk3
        have hn4 : (kd == 4) = false := by simpa using hk4
        have hn5 : (kd == 5) = false := by simpa using hk5
        go_wp2_with (first
    | ((go_at_call 21; refine (ow_clone HO1).mono ?_; rintro e w5 ⟨bc, rfl, HO2⟩; clear HO1))
    | ((go_at_call 20; refine (oi_ready_q HO2 hq.out).mono ?_; rintro e w6 ⟨ar, cr, rfl, HOz⟩; have HO3 := Lib.hid HOz.out.swap; have HB3 := Lib.hid (own_blk3 HO3.out); have d0 := HB3.out.cell_some (o := 0) rfl; have d1 := HB3.out.cell_some (o := 1) rfl; have d2 := HB3.out.cell_some (o := 2) rfl; have d3 := HB3.out.cell_some (o := 3) rfl; have HO8 := Lib.hid HO3.out.fourth.swap; clear HO2 HO3 HOz HB3))
    | ((go_at_call 17; refine (ow_pick HO8).mono ?_))
    | ((with_reducible refine Reg.wp_region_text ?_ ?_ ?_); (kernel_rfl); (kernel_rfl))
    | ((with_reducible refine Reg.text_nil ?_))
    | ((with_reducible refine Reg.text_plain ?_ ?_); (rfl); (intro K hK))
    | ((with_reducible apply Reg.text_nilCheck); (rfl); (intro K hK))
    | ((with_reducible apply Reg.text_bin); (rfl); (rfl); (intro K hK))
    | ((with_reducible refine Reg.text_loud ?_ ?_); (rfl); (intro K hK))
    | ((with_reducible refine Reg.text_skipG ?_ ?_); (rfl); (intro K hK)))
        rintro e w10 ⟨rfl, HO9⟩
        have HD2 : Hid (Doc (x)) := rel_doc hR.out (ow_ids HO9.out) (ow_ok HO9.out)
        obtain ⟨pa, hpv, hpa⟩ := rel_pick hR.out (fun r hr => (ow_ok HO9.out r hr).id0)
        obtain ⟨m, hm⟩ : ∃ m, Hid (bestId (x) = m) := ⟨_, rfl⟩
        rw [hm.out] at hpv hpa
        rw [hpv]
        have HO10 := Lib.hid HO9.out.swap
        have HRE : Hid (readyIds (x) = readyIds (l)) := (rel_ready hR.out).symm
        have HRL : Hid ((readyIds (x)).length < 9223372036854775807) := by
          have h1 := ready_le (x)
          have h2 := HD2.out.len
          show (readyIds (x)).length < 9223372036854775807
          omega
        clear hpv HO9
        by_cases hp : 0 ≤ m
        · obtain rfl := hpa hp
          rw [decide_eq_true hp]
          go_wp2_with (first
    | ((go_at_call 27; refine (od_pick_m HO10 HD2 hm.out).mono ?_; rintro e w11 ⟨rfl, HO11⟩; have HO12 := Lib.hid HO11.out.swap; clear HO10 HO11))
    | ((go_at_call 20; refine (ow_ready HO12).mono ?_; rintro e w12 ⟨v1, rfl, HO13⟩; have HO14 := Lib.hid HO13.out.third; clear HO12 HO13))
    | ((go_at_call 28; refine (od_ready HO14 HD2).mono ?_; rintro e w13 ⟨v2, rfl, HO15⟩; clear HO14))
    | ((go_at_call 19; refine (ow_same_ints HO15 HRE.out HRL.out).mono ?_; rintro e w14 ⟨rfl, HO16⟩; have HO17 := Lib.hid HO16.out.third; clear HO15 HO16))
    | ((go_at_call 20; refine (oi_ready_q HO17 hq.out).mono ?_; rintro e w15 ⟨ar2, cr2, rfl, HO18⟩; have HO19 := Lib.hid HO18.out.drop.third.drop; clear HO17 HO18))
    | ((with_reducible refine Reg.wp_region_text ?_ ?_ ?_); (kernel_rfl); (kernel_rfl))
    | ((with_reducible refine Reg.text_nil ?_))
    | ((with_reducible refine Reg.text_plain ?_ ?_); (rfl); (intro K hK))
    | ((with_reducible apply Reg.text_nilCheck); (rfl); (intro K hK))
    | ((with_reducible apply Reg.text_bin); (rfl); (rfl); (intro K hK))
    | ((with_reducible refine Reg.text_loud ?_ ?_); (rfl); (intro K hK))
    | ((with_reducible refine Reg.text_skipG ?_ ?_); (rfl); (intro K hK)))
          go_roundw
          case rel => exact ⟨k + 1, _, _, by simp, by omega, hR, HO19⟩
          case measure => simp [intOf]; omega
        · rw [decide_eq_false hp]
          clear hpa
          go_wp2_with (first
    | ((go_at_call 27; refine (od_pick_m HO10 HD2 hm.out).mono ?_; rintro e w11 ⟨rfl, HO11⟩; have HO12 := Lib.hid HO11.out.swap; clear HO10 HO11))
    | ((go_at_call 20; refine (ow_ready HO12).mono ?_; rintro e w12 ⟨v1, rfl, HO13⟩; have HO14 := Lib.hid HO13.out.third; clear HO12 HO13))
    | ((go_at_call 28; refine (od_ready HO14 HD2).mono ?_; rintro e w13 ⟨v2, rfl, HO15⟩; clear HO14))
    | ((go_at_call 19; refine (ow_same_ints HO15 HRE.out HRL.out).mono ?_; rintro e w14 ⟨rfl, HO16⟩; have HO17 := Lib.hid HO16.out.third; clear HO15 HO16))
    | ((go_at_call 20; refine (oi_ready_q HO17 hq.out).mono ?_; rintro e w15 ⟨ar2, cr2, rfl, HO18⟩; have HO19 := Lib.hid HO18.out.drop.third.drop; clear HO17 HO18))
    | ((with_reducible refine Reg.wp_region_text ?_ ?_ ?_); (kernel_rfl); (kernel_rfl))
    | ((with_reducible refine Reg.text_nil ?_))
    | ((with_reducible refine Reg.text_plain ?_ ?_); (rfl); (intro K hK))
    | ((with_reducible apply Reg.text_nilCheck); (rfl); (intro K hK))
    | ((with_reducible apply Reg.text_bin); (rfl); (rfl); (intro K hK))
    | ((with_reducible refine Reg.text_loud ?_ ?_); (rfl); (intro K hK))
    | ((with_reducible refine Reg.text_skipG ?_ ?_); (rfl); (intro K hK)))
          go_roundw
          case rel => exact ⟨k + 1, _, _, by simp, by omega, hR, HO19⟩
          case measure => simp [intOf]; omega
    · obtain rfl : k = n := by omega
      have HOs : Hid (Owns W wr ((sch bs l).sep ((docS bd x).sep nothing))) := HO.out.swap
      have HD : Hid (Doc x) := rel_doc hR.out (ow_ids HOs.out) (ow_ok HOs.out)
      obtain ⟨N, hN⟩ : ∃ N, Hid (x.length = N) := ⟨_, rfl⟩
      have hN8 : N ≤ 8 := by rw [← hN.out]; exact HD.out.len
      clear HO hlt hk
      go_wp2
      go_loopw [13] (fun i wr => ∃ z : Int, i = .int .i64 z ∧ -1 ≤ z ∧ z ≤ 9 ∧ Hid (Owns W wr ((sch bs l).sep ((docS bd x).sep nothing)))) (fun i _ => (9 - intOf i).toNat)
      case atStart => exact ⟨-1, rfl, by omega, by omega, HOs⟩
      case round =>
        obtain ⟨z, rfl, hz1, hz2, HO⟩ := hrel
        by_cases hz : z ≤ 8
        · clear HOs
          go_wp2_with (first
    | ((go_at_call 13; refine (oi_used HO z).mono ?_; rintro e w6 ⟨u, bb, rfl, HU, HO2⟩; clear HO))
    | ((with_reducible refine Reg.wp_region_text ?_ ?_ ?_); (kernel_rfl); (kernel_rfl))
    | ((with_reducible refine Reg.text_nil ?_))
    | ((with_reducible refine Reg.text_plain ?_ ?_); (rfl); (intro K hK))
    | ((with_reducible apply Reg.text_nilCheck); (rfl); (intro K hK))
    | ((with_reducible apply Reg.text_bin); (rfl); (rfl); (intro K hK))
    | ((with_reducible refine Reg.text_loud ?_ ?_); (rfl); (intro K hK))
    | ((with_reducible refine Reg.text_skipG ?_ ?_); (rfl); (intro K hK)))
          have HUU := Lib.hid (rel_used hR.out HU.out)
          have HO3 : Hid (Owns W w6 ((docS bd x).sep ((sch bs l).sep nothing))) := HO2.out.swap
          obtain ⟨Bd, h5, _, _⟩ := HO3.out.open_
          obtain ⟨ad, capd, c0, f0, hel⟩ := docS_read h5
          rw [hN.out] at c0
          have HEL := Lib.hid hel
          clear h5 hel f0
          go_loop [16, 17] (fun f j => ∃ (m : Nat) (ff : Bool), f = .bool ff ∧ j = .int .i64 m ∧ m ≤ N ∧ Hid (ff = true ↔ ∃ r ∈ x.take m, r.id = z)) (fun _ j => N - (intOf j).toNat)
          case atStart => exact ⟨0, false, rfl, rfl, by omega, by simp [Hid]⟩
          case round =>
            obtain ⟨m, ff, rfl, rfl, hm, hF⟩ := hrel
            by_cases hmN : m < N
            · obtain ⟨r, hr⟩ : ∃ r, x[m]? = some r := ⟨_, List.getElem?_eq_getElem (by rw [hN.out]; exact hmN)⟩
              obtain ⟨g, rfl, _, _, d0, _, d2, _⟩ := HEL.out m r hr
              by_cases hrz : r.id = z
              · have hu : r.used = u := by
                  rcases HUU.out with ⟨r', hr', e1, e2, _⟩ | ⟨h1, _⟩
                  · have := ids_eq HD.out.ids hr' (List.mem_of_getElem? hr) (e1.trans hrz.symm)
                    rw [← this]; exact e2
                  · exact absurd hrz (h1 r (List.mem_of_getElem? hr))
                rw [hrz] at d0
                rw [hu] at d2
                have HF2 : Hid (true = true ↔ ∃ r ∈ x.take (m + 1), r.id = z) := by
                  rw [take_snoc' hr]
                  exact ⟨fun _ => ⟨r, by simp, hrz⟩, fun _ => rfl⟩
                clear hrz hu hr
                go_wp2
                go_round
                case rel => exact ⟨m + 1, true, rfl, by simp, by omega, HF2⟩
                case measure => simp [intOf]; omega
              · have hne : (r.id == z) = false := by simpa using hrz
                have HF2 : Hid (ff = true ↔ ∃ r ∈ x.take (m + 1), r.id = z) := by
                  rw [take_snoc' hr]
                  refine hF.out.trans ⟨fun ⟨y, hy, e⟩ => ⟨y, by simp [hy], e⟩, fun ⟨y, hy, e⟩ => ?_⟩
                  rcases List.mem_append.1 hy with hy | hy
                  · exact ⟨y, hy, e⟩
                  · simp at hy; subst hy; exact absurd e hrz
                obtain ⟨i0, hi0⟩ : ∃ i0, Hid (r.id = i0) := ⟨_, rfl⟩
                rw [hi0.out] at hne d0
                clear hrz hr d2 hF
                go_wp2
                go_round
                case rel => exact ⟨m + 1, ff, rfl, by simp, by omega, HF2⟩
                case measure => simp [intOf]; omega
            · obtain rfl : m = N := by omega
              have hbf : bb = ff := by
                have h1 := hF.out
                rw [← hN.out, List.take_length] at h1
                rcases HUU.out with ⟨r', hr', e1, _, e2⟩ | ⟨h2, e2⟩
                · rw [e2]; exact (h1.2 ⟨r', hr', e1⟩).symm
                · rw [e2]
                  cases ff with
                  | false => rfl
                  | true =>
                    obtain ⟨y, hy, e⟩ := h1.1 rfl
                    exact absurd e (h2 y hy)
              subst hbf
              clear hmN hm HUU HU hF
              cases bb
              all_goals go_wp2
              all_goals go_roundw
              all_goals first
                | (simp [intOf]; omega)
                | exact ⟨z + 1, by simp, by omega, by omega, HO2⟩
        · obtain rfl : z = 9 := by omega
          clear hz hz1 hz2
          go_wp2
          go_ret
          exact ⟨rfl, HO.out.start⟩
end Go.Proofs.YtjchfkpcglpgdaaDoor
