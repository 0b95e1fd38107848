/-
  SchedSleeps' walk.
-/
import Derived.Test.YtjchfkpcglpgdaaDoorSdSp
set_option linter.unusedSimpArgs false
set_option linter.unusedVariables false
namespace Go.Proofs.YtjchfkpcglpgdaaDoor
open Go.RowKit Go.Hp

theorem least_exists : ∀ l : List Int, ∃ x, LeastOf l x
  | [] => ⟨-1, .inl ⟨rfl, rfl⟩⟩
  | a :: l => by
    obtain ⟨x, hx⟩ := least_exists l
    rcases hx with ⟨rfl, _⟩ | ⟨h1, h2⟩
    · exact ⟨a, .inr ⟨by simp, by simp⟩⟩
    · rcases Int.le_total a x with h | h
      · exact ⟨a, .inr ⟨by simp, fun y hy => by
          rcases List.mem_cons.1 hy with rfl | hy
          · omega
          · have := h2 y hy; omega⟩⟩
      · exact ⟨x, .inr ⟨by simp [h1], fun y hy => by
          rcases List.mem_cons.1 hy with rfl | hy
          · omega
          · exact h2 y hy⟩⟩
theorem LeastOf.one {l : List Int} {x y : Int} (hx : LeastOf l x) (hy : LeastOf l y) : x = y := by
  rcases hx with ⟨rfl, rfl⟩ | ⟨h1, h2⟩
  · rcases hy with ⟨_, rfl⟩ | ⟨h1, _⟩
    · rfl
    · cases h1
  · rcases hy with ⟨rfl, rfl⟩ | ⟨h3, h4⟩
    · cases h1
    · have := h2 y h3
      have := h4 x h1
      omega
theorem sl_best (zs : List Int) : best (sl zs) = none := by
  cases h : best (sl zs) with
  | none => rfl
  | some r =>
    obtain ⟨h1, h2, _⟩ := best_some h
    obtain ⟨k, x, _, _, rfl⟩ := sl_mem h1
    cases h2

set_option maxRecDepth 100000 in
set_option maxHeartbeats 4000000 in
theorem sleeps_core {W : World} {ads : List Addr} (hs : Sents W ads) {zs : List Int} {ao : Option Addr} {cap n : Nat} (HV : Hid (IntsAt W (.slice ao n cap) zs)) (hn : Hid (zs.length = n)) (hn8 : n ≤ 8) (nw : Int) :
    Calls Tryd.prog 5 #[.slice ao n cap, .int .i64 nw] W fun e w' => e = .returned (.bool true) ∧ Ext W w' := by
  have HS := Lib.hid hs
  clear hs
  have ht1 := Int.emod_nonneg nw (show (20 : Int) ≠ 0 by decide)
  have ht2 := Int.emod_lt_of_pos nw (show (0 : Int) < 20 by decide)
  have HN1 := Lib.hid (number_calls (x := nw) (m := 20))
  generalize nw % 20 = now at *
  have HC := Lib.hid (intsAt_cell HV.out)
  obtain ⟨L, hL⟩ : ∃ L, Hid (L = sl zs) := ⟨_, rfl⟩
  go_enter Tryd.func5, Tryd.ntmps5
  go_wp2_with (first
    | ((go_at_call 8; refine (first_calls W).mono ?_; rintro e w1 ⟨rfl, hw1⟩; have HW1 := Lib.hid (Owns.begin_ hw1); clear hw1))
    | ((go_at_call 9; refine (HN1.out _ (by decide) (by decide)).mono ?_; rintro e w2 ⟨rfl, m, rfl⟩; have HW2 := Lib.hid (HW1.out.drewN m); clear HW1))
    | ((go_at_call 10; refine (ow_new HW2).mono ?_; rintro e w3 ⟨bs, rfl, HO⟩; clear HW2))
    | ((with_reducible refine Reg.wp_region_text ?_ ?_ ?_); (kernel_rfl); (kernel_rfl))
    | ((with_reducible refine Reg.text_nil ?_))
    | ((with_reducible refine Reg.text_plain ?_ ?_); (rfl); (intro K hK))
    | ((with_reducible apply Reg.text_nilCheck); (rfl); (intro K hK))
    | ((with_reducible apply Reg.text_bin); (rfl); (rfl); (intro K hK))
    | ((with_reducible refine Reg.text_loud ?_ ?_); (rfl); (intro K hK))
    | ((with_reducible refine Reg.text_skipG ?_ ?_); (rfl); (intro K hK)))
  go_loopw [8] (fun i wr => ∃ k : Nat, i = .int .i64 k ∧ k ≤ n ∧ Hid (Owns W wr ((sch bs (sl (zs.take k))).sep nothing))) (fun i _ => n - (intOf i).toNat)
  case atStart => exact ⟨0, rfl, by omega, by simpa [sl] using HO⟩
  case round =>
    obtain ⟨k, rfl, hk, HO⟩ := hrel
    by_cases hlt : k < n
    · obtain ⟨x, hx⟩ : ∃ x, zs[k]? = some x := ⟨_, List.getElem?_eq_getElem (by rw [hn.out]; exact hlt)⟩
      obtain ⟨ao', cap', e1, hcell⟩ := HC.out
      cases e1
      obtain ⟨b0, off0, rfl, c0⟩ := hcell k x hx
      have c0' := fun (w : World) (h : Ext W w) => Hp.Ext.cell h c0
      have HSN := Lib.hid (sl_snoc hx)
      have HCX := Lib.hid c0'
      have HNW := Lib.hid (sl_new (zs := zs.take k) (k := k) (List.length_take_le _ _))
      have hx1 := Int.emod_nonneg x (show (20 : Int) ≠ 0 by decide)
      have hx2 := Int.emod_lt_of_pos x (show (0 : Int) < 20 by decide)
      have HNx := Lib.hid (number_calls (x := x) (m := 20))
      generalize x % 20 = y at *
      clear hcell hx c0 c0'
      go_wp2_with (first
    | ((go_at_call 11; ((with_reducible refine (ow_add HO k 10 (by omega) (by omega) (by decide) (by decide) HNW.out).mono ?_)); rintro e w5 ⟨rfl, u, hu, HO5⟩; obtain rfl := least_zero hu.out; clear hu))
    | ((go_at_call 16; ((with_reducible refine (ow_sleep HO5 (r := ⟨k, 10, 0, false, 0⟩) (by simp) 1000 (by decide) (by decide) rfl).mono ?_)); rintro e w6 ⟨rfl, HO6⟩; rw [updR_last _ HNW.out rfl] at HO6; clear HO5; have c6 := HCX.out _ HO6.out.start))
    | ((go_at_call 9; refine (HNx.out _ (by decide) (by decide)).mono ?_; rintro e w7 ⟨rfl, m7, rfl⟩; have HO7 := Lib.hid (HO6.out.drewN m7); clear HO6))
    | ((go_at_call 16; ((with_reducible refine (ow_sleep HO7 (r := ⟨k, 10, 0, true, 1000⟩) (by simp) y (by omega) (by omega) rfl).mono ?_)); rintro e w8 ⟨rfl, HO8⟩; rw [updR_last _ HNW.out rfl, ← HSN.out] at HO8; clear HO7))
    | ((with_reducible refine Reg.wp_region_text ?_ ?_ ?_); (kernel_rfl); (kernel_rfl))
    | ((with_reducible refine Reg.text_nil ?_))
    | ((with_reducible refine Reg.text_plain ?_ ?_); (rfl); (intro K hK))
    | ((with_reducible apply Reg.text_nilCheck); (rfl); (intro K hK))
    | ((with_reducible apply Reg.text_bin); (rfl); (rfl); (intro K hK))
    | ((with_reducible refine Reg.text_loud ?_ ?_); (rfl); (intro K hK))
    | ((with_reducible refine Reg.text_skipG ?_ ?_); (rfl); (intro K hK)))
      go_roundw
      case rel => exact ⟨k + 1, by simp, by omega, HO8⟩
      case measure => simp [intOf]; omega
    · obtain rfl : k = n := by omega
      clear hlt hk HN1
      have HO2 : Hid (Owns W wr ((ints (.slice none 0 0) ((upTo L 0).map (·.id))).sep ((sch bs L).sep nothing))) := by
        have h1 := HO.out
        rw [List.take_of_length_le (by rw [hn.out]; exact Nat.le_refl _), ← hL.out] at h1
        exact h1.add (Q := ints (.slice none 0 0) []) (Only.refl _ _) (ints_nil _ _) (by simp)
      clear HO
      go_wp2
      go_loopw [7, 9] (fun v c wr => ∃ t : Nat, c = .int .i64 t ∧ (t : Int) ≤ now + 1 ∧ Hid (Owns W wr ((ints v ((upTo L t).map (·.id))).sep ((sch bs L).sep nothing)))) (fun _ c _ => (now + 1).toNat - (intOf c).toNat)
      case atStart => exact ⟨0, rfl, by omega, HO2⟩
      case round =>
        obtain ⟨t, rfl, ht, HO⟩ := hrel
        by_cases htn : (t : Int) ≤ now
        · go_wp2
          go_loopw [7, 10] (fun v c wr => ∃ j : Nat, c = .int .i64 j ∧ j ≤ k ∧ Hid (Owns W wr ((ints v ((upTo L t ++ at_ (L.take j) t).map (·.id))).sep ((sch bs L).sep nothing)))) (fun _ c _ => k - (intOf c).toNat)
          case atStart => exact ⟨0, rfl, by omega, by simpa [at_] using HO⟩
          case round =>
            obtain ⟨j, rfl, hj, HO⟩ := hrel
            have hlen : ((upTo L t ++ at_ (L.take j) t).map (·.id)).length ≤ 8 := by
              rw [List.length_map]
              refine Nat.le_trans (upTo_len ?_ ?_ t j) ?_
              · rw [hL.out]; exact sl_sorted zs
              · intro r hr
                rw [hL.out] at hr
                obtain ⟨_, x, _, _, rfl⟩ := sl_mem hr
                exact Int.emod_nonneg x (by decide)
              · rw [hL.out, sl_len, hn.out]; exact hn8
            obtain ⟨wl, hwl⟩ : ∃ wl, Hid ((upTo L t ++ at_ (L.take j) t).map (·.id) = wl) := ⟨_, rfl⟩
            rw [hwl.out] at HO hlen
            obtain ⟨ao3, cap3, hv3⟩ := (ow_ints HO.out).len
            obtain ⟨q, hq⟩ : ∃ q, Hid (wl.length = q) := ⟨_, rfl⟩
            rw [hq.out] at hv3 hlen
            subst hv3
            by_cases hjk : j < k
            · obtain ⟨x, hx⟩ : ∃ x, zs[j]? = some x := ⟨_, List.getElem?_eq_getElem (by rw [hn.out]; exact hjk)⟩
              obtain ⟨ao', cap', e1, hcell⟩ := HC.out
              cases e1
              obtain ⟨b0, off0, rfl, c0⟩ := hcell j x hx
              have c0' := Hp.Ext.cell HO.out.start c0
              have HLJ : Hid (L[j]? = some ⟨j, 10, 0, true, x % 20⟩) := by
                unfold Hid
                rw [hL.out, sl_get, hx]
                rfl
              have hx1 := Int.emod_nonneg x (show (20 : Int) ≠ 0 by decide)
              have hx2 := Int.emod_lt_of_pos x (show (0 : Int) < 20 by decide)
              have HNx := Lib.hid (number_calls (x := x) (m := 20))
              generalize x % 20 = y at *
              clear hcell hx c0
              by_cases hyt : y = (t : Int)
              · have hbe : (y == (t : Int)) = true := by simpa using hyt
                have HAT := Lib.hid (at_snoc_yes (t := t) HLJ.out hyt)
                clear hyt
                go_wp2_with (first
    | ((go_at_call 9; refine (HNx.out _ (by decide) (by decide)).mono ?_; rintro e w7 ⟨rfl, m7, rfl⟩; have HO7 := Lib.hid (HO.out.drewN m7); clear HO; obtain ⟨arr, tail, hrow, hbk⟩ := ow_row HO7.out; rw [hq.out] at hrow hbk; have HR := Lib.hid (hrow.of_only ((Only.refl (fun _ => False) _).alloc (.cells #[.int .i64 j] 3)) (fun _ _ h => h)); have HBK := Lib.hid hbk; clear hrow hbk))
    | ((at_builtin; refine wpList_append_row ty_ints rfl _ _ rfl rfl HR.out ⟨wr.heap.size, 0, none⟩ 1 1 [.int .i64 j] rfl rfl (by decide) ?_ ?_ ?_ ?_ ?_; (exact one_new _ _ _ (by simp)); (simp [Value.oneCell']); (unfold maxLen; omega); (omega)))
    | ((with_reducible refine Reg.wp_region_text ?_ ?_ ?_); (kernel_rfl); (kernel_rfl))
    | ((with_reducible refine Reg.text_nil ?_))
    | ((with_reducible refine Reg.text_plain ?_ ?_); (rfl); (intro K hK))
    | ((with_reducible apply Reg.text_nilCheck); (rfl); (intro K hK))
    | ((with_reducible apply Reg.text_bin); (rfl); (rfl); (intro K hK))
    | ((with_reducible refine Reg.text_loud ?_ ?_); (rfl); (intro K hK))
    | ((with_reducible refine Reg.text_skipG ?_ ?_); (rfl); (intro K hK)))
                intro g' cap' w4 tail' q1 q2 q4
                have HO8 := Lib.hid (HBK.out (.cells #[.int .i64 j] 3) w4 g' cap' j tail' q1 (by simpa using q2) q4)
                clear q1 q2 q4 HR HBK
                go_wp2
                go_roundw
                case rel =>
                  refine ⟨j + 1, by simp, by omega, ?_⟩
                  have e : ((upTo L t ++ at_ (L.take (j + 1)) t).map (·.id)) = wl ++ [(j : Int)] := by
                    rw [HAT.out, ← List.append_assoc, List.map_append, hwl.out]
                    rfl
                  rw [e]
                  exact HO8
                case measure => simp [intOf]; omega
              · have hbe : (y == (t : Int)) = false := by simpa using hyt
                have HAT := Lib.hid (at_snoc_no (t := t) HLJ.out hyt)
                clear hyt
                go_wp2_with (first
    | ((go_at_call 9; refine (HNx.out _ (by decide) (by decide)).mono ?_; rintro e w7 ⟨rfl, m7, rfl⟩; have HO7 := Lib.hid (HO.out.drewN m7); clear HO))
    | ((with_reducible refine Reg.wp_region_text ?_ ?_ ?_); (kernel_rfl); (kernel_rfl))
    | ((with_reducible refine Reg.text_nil ?_))
    | ((with_reducible refine Reg.text_plain ?_ ?_); (rfl); (intro K hK))
    | ((with_reducible apply Reg.text_nilCheck); (rfl); (intro K hK))
    | ((with_reducible apply Reg.text_bin); (rfl); (rfl); (intro K hK))
    | ((with_reducible refine Reg.text_loud ?_ ?_); (rfl); (intro K hK))
    | ((with_reducible refine Reg.text_skipG ?_ ?_); (rfl); (intro K hK)))
                go_roundw
                case rel =>
                  refine ⟨j + 1, by simp, by omega, ?_⟩
                  rw [HAT.out, hwl.out]
                  exact HO7
                case measure => simp [intOf]; omega
            · obtain rfl : j = k := by omega
              go_wp2_with (first
    | ((with_reducible refine Reg.wp_region_text ?_ ?_ ?_); (kernel_rfl); (kernel_rfl))
    | ((with_reducible refine Reg.text_nil ?_))
    | ((with_reducible refine Reg.text_plain ?_ ?_); (rfl); (intro K hK))
    | ((with_reducible apply Reg.text_nilCheck); (rfl); (intro K hK))
    | ((with_reducible apply Reg.text_bin); (rfl); (rfl); (intro K hK))
    | ((with_reducible refine Reg.text_loud ?_ ?_); (rfl); (intro K hK))
    | ((with_reducible refine Reg.text_skipG ?_ ?_); (rfl); (intro K hK)))
              go_roundw
              case rel =>
                refine ⟨t + 1, by simp, by omega, ?_⟩
                rw [upTo_succ]
                have h1 : L.take j = L := List.take_of_length_le (by rw [hL.out, sl_len, hn.out]; exact Nat.le_refl _)
                have h2 := hwl.out
                rw [h1] at h2
                rw [h2]
                exact HO
              case measure => simp [intOf]; omega
        · have htn' : (t : Int) = now + 1 := by omega
          have HT : Hid (now.toNat + 1 = t) := by unfold Hid; omega
          have htn2 : now + 1 ≤ (t : Int) := by omega
          clear htn htn' ht HO2
          have HOs := Lib.hid HO.out.swap
          have HIDS := Lib.hid (fun (l : List Rec) (w : World) (R : Thing) (h : Owns W w ((sch bs l).sep R)) => ow_ids h)
          clear HO
          go_wp2_with (first
    | ((go_at_call 17; ((with_reducible refine (ow_pick_none HOs (by rw [hL.out]; exact sl_best zs)).mono ?_)); rintro e w4 ⟨rfl, HO4⟩; clear HOs))
    | ((go_at_call 18; ((with_reducible refine (ow_wake HO4 now).mono ?_)); rintro e w5 ⟨v2, ws, rfl, hw, HO5⟩; clear HO4; rw [hL.out] at hw HO5; have HBH := Lib.hid (sl_behind hw.out); have HWS := Lib.hid (sl_woke ht1 hw.out); have HW1 := hw; clear hw; have HO5' := Lib.hid HO5.out.swap; clear HO5))
    | ((go_at_call 18; ((with_reducible refine (ow_wake HO5' now).mono ?_)); rintro e w6 ⟨v3, ws3, rfl, hw3, HO6⟩; obtain ⟨rfl, hwk⟩ := HBH.out.again now ws3 HW1.out hw3.out; clear hw3 HO5'; rw [hwk] at HO6; clear hwk))
    | ((with_reducible refine Reg.wp_region_text ?_ ?_ ?_); (kernel_rfl); (kernel_rfl))
    | ((with_reducible refine Reg.text_nil ?_))
    | ((with_reducible refine Reg.text_plain ?_ ?_); (rfl); (intro K hK))
    | ((with_reducible apply Reg.text_nilCheck); (rfl); (intro K hK))
    | ((with_reducible apply Reg.text_bin); (rfl); (rfl); (intro K hK))
    | ((with_reducible refine Reg.text_loud ?_ ?_); (rfl); (intro K hK))
    | ((with_reducible refine Reg.text_skipG ?_ ?_); (rfl); (intro K hK)))
          have hwant : (upTo (sl zs) t).map (·.id) = ws.map (·.id) := by rw [← HT.out, ← HWS.out]
          rw [hwant] at HO6
          have HLEN := HBH.out.len
          obtain ⟨wl, hwl⟩ : ∃ wl, Hid (ws.map (·.id) = wl) := ⟨_, rfl⟩
          obtain ⟨q, hq⟩ : ∃ q, Hid (wl.length = q) := ⟨_, rfl⟩
          have hwq : ws.length = q := by rw [← hq.out, ← hwl.out, List.length_map]
          rw [hwq] at HLEN
          rw [hwl.out] at HO6
          have hq8 : q ≤ 8 := by
            rw [← hwq, HWS.out]
            have h1 : (sl zs).length ≤ 8 := by rw [sl_len, hn.out]; exact hn8
            have := upTo_len (sl_sorted zs) (fun r hr => by obtain ⟨_, x, _, _, rfl⟩ := sl_mem hr; exact Int.emod_nonneg x (by decide)) (now.toNat + 1) 0
            simp only [List.take_zero, at_, List.filter_nil, List.append_nil] at this
            omega
          have hpos : ∀ z ∈ wl, 0 ≤ z := fun z hz => by
            rw [← hwl.out] at hz
            obtain ⟨r, hr, rfl⟩ := List.mem_map.1 hz
            rw [HWS.out] at hr
            obtain ⟨_, x, _, _, rfl⟩ := sl_mem (upTo_mem.1 hr).1
            simp
          have HPOS := Lib.hid hpos
          have HQL := Lib.hid HLEN
          obtain ⟨x, hx⟩ := least_exists wl
          have hids := ow_ids HO6.out.drop
          have hbest := behind_best HBH.out (by rw [hwl.out]; exact hx) hids
          have hnew9 : ∀ r ∈ wokeBy now (sl zs), r.id ≠ 9 := fun r hr e => by
            obtain ⟨z, hz, rfl⟩ := List.mem_map.1 hr
            obtain ⟨a, b, hab, hal, rfl⟩ := sl_mem hz
            have : ((a : Nat) : Int) = 9 := by
              revert e
              split
              · exact fun e => e
              · exact fun e => e
            have h1 := hn.out
            omega
          have HN9 := Lib.hid hnew9
          have HX := Lib.hid hx
          obtain ⟨l2, hl2⟩ : ∃ l2, Hid (wokeBy now (sl zs) = l2) := ⟨_, rfl⟩
          rw [hl2.out] at hbest HQL HO6 HN9
          obtain ⟨ao3, cap3, rfl⟩ := ow_ints_len (n := 0) HO6.out rfl
          have HAT2 := Lib.hid (ow_ints HO6.out.third)
          have HATw := Lib.hid (ow_ints HO6.out.fourth)
          obtain ⟨ao7, cap7, hu7⟩ := HATw.out.len
          rw [hq.out] at hu7
          subst hu7
          have HO7 := Lib.hid HO6.out.drop
          have hwe : ws = [] ↔ q = 0 := by rw [← hwq]; exact List.length_eq_zero_iff.symm
          rw [ne_eq, hwe] at hbest
          clear hwant HLEN hids hnew9 hx HO6 hwq hpos hwe
          rcases hbest with ⟨h0, hb⟩ | ⟨h0, r, hb, hri⟩
          · subst h0
            go_wp2_with (first
    | ((go_at_call 19; ((with_reducible refine (sameInts_true HAT2.out HATw.out ?_).mono ?_)); (focus (rw [hq.out]; omega)); rintro e w7 ⟨rfl, m7, rfl⟩; have HO8 := Lib.hid (HO7.out.drewN m7)))
    | ((go_at_call 20; ((with_reducible refine (ow_ready HO8).mono ?_)); rintro e w8 ⟨v4, rfl, HO9⟩; obtain ⟨ao4, cap4, rfl⟩ := ow_ints_len HO9.out HQL.out; have HO10 := Lib.hid HO9.out.drop; clear HO8 HO9))
    | ((go_at_call 17; ((with_reducible refine (ow_pick_none HO10 hb).mono ?_)); rintro e w9 ⟨rfl, HO11⟩; clear HO10))
    | ((with_reducible refine Reg.wp_region_text ?_ ?_ ?_); (kernel_rfl); (kernel_rfl))
    | ((with_reducible refine Reg.text_nil ?_))
    | ((with_reducible refine Reg.text_plain ?_ ?_); (rfl); (intro K hK))
    | ((with_reducible apply Reg.text_nilCheck); (rfl); (intro K hK))
    | ((with_reducible apply Reg.text_bin); (rfl); (rfl); (intro K hK))
    | ((with_reducible refine Reg.text_loud ?_ ?_); (rfl); (intro K hK))
    | ((with_reducible refine Reg.text_skipG ?_ ?_); (rfl); (intro K hK)))
            go_loopw [17, 18] (fun a c wr => ∃ (j : Nat) (least : Int), a = .int .i64 least ∧ c = .int .i64 j ∧ j ≤ 0 ∧ Hid (LeastOf (wl.take j) least) ∧ Hid (Owns W wr ((sch bs l2).sep ((ints v2 wl).sep ((ints (.slice ao7 0 cap7) wl).sep nothing))))) (fun _ c _ => 0 - (intOf c).toNat)
            case atStart => exact ⟨0, -1, rfl, rfl, by omega, .inl ⟨rfl, rfl⟩, HO11⟩
            case round =>
              obtain ⟨j, least, rfl, rfl, hj, hL, HO⟩ := hrel
              by_cases hjq : j < 0
              · omega
              · have hlx : least = x := by
                  have h1 := hL.out
                  rw [List.take_of_length_le (by rw [hq.out]; omega)] at h1
                  exact h1.one HX.out
                subst hlx
                have hjq' : 0 ≤ j := by omega
                clear hjq
                go_wp2_with (first
    | ((go_at_call 14; ((with_reducible refine (ow_del_no HO HN9.out HS.out).mono ?_)); rintro e w10 ⟨v10, rfl, hv10, HO12⟩))
    | ((go_at_call 15; ((with_reducible refine (ow_is HO12 HS.out hv10).mono ?_)); rintro e w11 ⟨rfl, HO13⟩))
    | ((with_reducible refine Reg.wp_region_text ?_ ?_ ?_); (kernel_rfl); (kernel_rfl))
    | ((with_reducible refine Reg.text_nil ?_))
    | ((with_reducible refine Reg.text_plain ?_ ?_); (rfl); (intro K hK))
    | ((with_reducible apply Reg.text_nilCheck); (rfl); (intro K hK))
    | ((with_reducible apply Reg.text_bin); (rfl); (rfl); (intro K hK))
    | ((with_reducible refine Reg.text_loud ?_ ?_); (rfl); (intro K hK))
    | ((with_reducible refine Reg.text_skipG ?_ ?_); (rfl); (intro K hK)))
                all_goals (try (exfalso; omega))
                all_goals go_ret
                all_goals exact ⟨by first | rfl | simp, HO13.out.start⟩
          · have h0q : 0 < q := by omega
            go_wp2_with (first
    | ((go_at_call 19; ((with_reducible refine (sameInts_true HAT2.out HATw.out ?_).mono ?_)); (focus (rw [hq.out]; omega)); rintro e w7 ⟨rfl, m7, rfl⟩; have HO8 := Lib.hid (HO7.out.drewN m7)))
    | ((go_at_call 20; ((with_reducible refine (ow_ready HO8).mono ?_)); rintro e w8 ⟨v4, rfl, HO9⟩; obtain ⟨ao4, cap4, rfl⟩ := ow_ints_len HO9.out HQL.out; have HO10 := Lib.hid HO9.out.drop; clear HO8 HO9))
    | ((go_at_call 17; ((with_reducible refine (ow_pick_some HO10 hb hri).mono ?_)); rintro e w9 ⟨rfl, HO11⟩; clear HO10))
    | ((with_reducible refine Reg.wp_region_text ?_ ?_ ?_); (kernel_rfl); (kernel_rfl))
    | ((with_reducible refine Reg.text_nil ?_))
    | ((with_reducible refine Reg.text_plain ?_ ?_); (rfl); (intro K hK))
    | ((with_reducible apply Reg.text_nilCheck); (rfl); (intro K hK))
    | ((with_reducible apply Reg.text_bin); (rfl); (rfl); (intro K hK))
    | ((with_reducible refine Reg.text_loud ?_ ?_); (rfl); (intro K hK))
    | ((with_reducible refine Reg.text_skipG ?_ ?_); (rfl); (intro K hK)))
            go_loopw [17, 18] (fun a c wr => ∃ (j : Nat) (least : Int), a = .int .i64 least ∧ c = .int .i64 j ∧ j ≤ q ∧ Hid (LeastOf (wl.take j) least) ∧ Hid (Owns W wr ((sch bs l2).sep ((ints v2 wl).sep ((ints (.slice ao7 q cap7) wl).sep nothing))))) (fun _ c _ => q - (intOf c).toNat)
            case atStart => exact ⟨0, -1, rfl, rfl, by omega, .inl ⟨rfl, rfl⟩, HO11⟩
            case round =>
              obtain ⟨j, least, rfl, rfl, hj, hL, HO⟩ := hrel
              by_cases hjq : j < q
              · obtain ⟨y, hy⟩ : ∃ y, wl[j]? = some y := ⟨_, List.getElem?_eq_getElem (by rw [hq.out]; exact hjq)⟩
                obtain ⟨ao', cap', e1, hcell⟩ := intsAt_cell (ow_ints HO.out.third)
                cases e1
                obtain ⟨b7, off7, rfl, c7⟩ := hcell j y hy
                have hst := hL.out.snoc hy HPOS.out
                have hy0 := HPOS.out y (List.mem_of_getElem? hy)
                have HA : Hid (least < 0 ∨ y < least → LeastOf (wl.take (j + 1)) y) := fun h => by rwa [if_pos h] at hst
                have HB : Hid (¬ (least < 0 ∨ y < least) → LeastOf (wl.take (j + 1)) least) := fun h => by rwa [if_neg h] at hst
                clear hcell hst hy
                go_wp2
                all_goals go_roundw
                all_goals first
                  | (simp [intOf]; omega)
                  | exact ⟨j + 1, y, rfl, by simp, by omega, HA.out (by omega), HO⟩
                  | exact ⟨j + 1, least, rfl, by simp, by omega, HB.out (by omega), HO⟩
              · have hlx : least = x := by
                  have h1 := hL.out
                  rw [List.take_of_length_le (by rw [hq.out]; omega)] at h1
                  exact h1.one HX.out
                subst hlx
                have hjq' : q ≤ j := by omega
                clear hjq
                go_wp2_with (first
    | ((go_at_call 14; ((with_reducible refine (ow_del_no HO HN9.out HS.out).mono ?_)); rintro e w10 ⟨v10, rfl, hv10, HO12⟩))
    | ((go_at_call 15; ((with_reducible refine (ow_is HO12 HS.out hv10).mono ?_)); rintro e w11 ⟨rfl, HO13⟩))
    | ((with_reducible refine Reg.wp_region_text ?_ ?_ ?_); (kernel_rfl); (kernel_rfl))
    | ((with_reducible refine Reg.text_nil ?_))
    | ((with_reducible refine Reg.text_plain ?_ ?_); (rfl); (intro K hK))
    | ((with_reducible apply Reg.text_nilCheck); (rfl); (intro K hK))
    | ((with_reducible apply Reg.text_bin); (rfl); (rfl); (intro K hK))
    | ((with_reducible refine Reg.text_loud ?_ ?_); (rfl); (intro K hK))
    | ((with_reducible refine Reg.text_skipG ?_ ?_); (rfl); (intro K hK)))
                all_goals (try (exfalso; omega))
                all_goals go_ret
                all_goals exact ⟨by first | rfl | simp, HO13.out.start⟩

set_option maxRecDepth 100000 in
set_option maxHeartbeats 1000000 in
theorem sleeps_calls {W : World} {ads : List Addr} (hs : Sents W ads) {v : Value} {zs : List Int} (hv : IntsAt W v zs) (hz : zs.length ≤ maxLen) (nw : Int) :
    Calls Tryd.prog 5 #[v, .int .i64 nw] W fun e w' => e = .returned (.bool true) ∧ Ext W w' := by
  obtain ⟨ao, cap, rfl, hc⟩ := intsAt_cell hv
  unfold maxLen at hz
  have HV := Lib.hid hv
  clear hc hv
  obtain ⟨n, hn⟩ : ∃ n, Hid (zs.length = n) := ⟨_, rfl⟩
  rw [hn.out] at hz HV ⊢
  by_cases h8 : 8 < n
  · clear hs
    go_enter Tryd.func5, Tryd.ntmps5
    go_wp2_with (first
    | ((go_at_call 8; refine (first_calls W).mono ?_; rintro e w1 ⟨rfl, hw1⟩; have HW1 := Lib.hid hw1; clear hw1))
    | ((with_reducible refine Reg.wp_region_text ?_ ?_ ?_); (kernel_rfl); (kernel_rfl))
    | ((with_reducible refine Reg.text_nil ?_))
    | ((with_reducible refine Reg.text_plain ?_ ?_); (rfl); (intro K hK))
    | ((with_reducible apply Reg.text_nilCheck); (rfl); (intro K hK))
    | ((with_reducible apply Reg.text_bin); (rfl); (rfl); (intro K hK))
    | ((with_reducible refine Reg.text_loud ?_ ?_); (rfl); (intro K hK))
    | ((with_reducible refine Reg.text_skipG ?_ ?_); (rfl); (intro K hK)))
    all_goals (try (exfalso; omega))
    go_ret
    exact ⟨rfl, HW1.out⟩
  · exact sleeps_core hs HV hn (by omega) nw
end Go.Proofs.YtjchfkpcglpgdaaDoor
