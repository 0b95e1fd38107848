/-
  The statement SchedLate.
-/
import Derived.Test.YtjchfkpcglpgdaaDoorSdN
namespace Go.Proofs.YtjchfkpcglpgdaaDoor
open Go.RowKit Go.Hp

theorem least_nil {u : Int} (h : Least u []) : u = 0 := by
  rcases h with ⟨_, h⟩ | ⟨⟨r, hr, _⟩, _⟩
  · exact h
  · cases hr
theorem least_one {u : Int} {r : Rec} (h : Least u ([] ++ [r])) : u = r.used := by
  rcases h with ⟨h, _⟩ | ⟨⟨r', hr, hu⟩, _⟩
  · simp at h
  · simp at hr; subst hr; exact hu.symm
theorem least_two {u : Int} {r s : Rec} (h : Least u [r, s]) : u = min r.used s.used := by
  rcases h with ⟨h, _⟩ | ⟨⟨r', hr, hu⟩, hm⟩
  · simp at h
  · have h1 := hm r (by simp)
    have h2 := hm s (by simp)
    simp at hr
    rcases hr with rfl | rfl <;> omega
theorem late1 {x : Int} (h1 : 0 ≤ x) (h2 : x < 1000) : updR ([] ++ [(⟨0, 100, 0, false, 0⟩ : Rec)] ++ [(⟨1, 100, 0, false, 0⟩ : Rec)]) 0 (fun r => { r with used := usedBy r x }) = [⟨0, 100, x, false, 0⟩, ⟨1, 100, 0, false, 0⟩] := by
  simp [updR, usedBy]
  omega
theorem late2 {x y : Int} (h1 : 0 ≤ y) (h2 : y < 1000) : updR [(⟨0, 100, x, false, 0⟩ : Rec), ⟨1, 100, 0, false, 0⟩] 1 (fun r => { r with used := usedBy r y }) = [⟨0, 100, x, false, 0⟩, ⟨1, 100, y, false, 0⟩] := by
  simp [updR, usedBy]
  omega

set_option maxRecDepth 100000 in
theorem late3 {x y z m q : Int} (a1 : 0 ≤ m) (a2 : m < 1000) (hq : 700 / (z + 1) = q) (h1 : 0 ≤ q) (h2 : q ≤ 700) :
    updR ([(⟨0, 100, x, false, 0⟩ : Rec), ⟨1, 100, y, false, 0⟩] ++ [(⟨2, z + 1, m, false, 0⟩ : Rec)]) 2 (fun r => { r with used := usedBy r 7 }) = [⟨0, 100, x, false, 0⟩, ⟨1, 100, y, false, 0⟩] ++ [⟨2, z + 1, m + q, false, 0⟩] := by
  simp [updR, usedBy, hq]
  omega
set_option maxRecDepth 100000 in
theorem late4 {x y z u : Int} : ([(⟨0, 100, x, false, 0⟩ : Rec), ⟨1, 100, y, false, 0⟩] ++ [(⟨2, z, u, false, 0⟩ : Rec)]).filter (fun r => r.id ≠ 2) = [⟨0, 100, x, false, 0⟩, ⟨1, 100, y, false, 0⟩] := by
  simp

set_option maxRecDepth 100000 in
set_option maxHeartbeats 2000000 in
theorem late_calls {W : World} {ads : List Addr} (hs : Sents W ads) (a b we : Int) :
    Calls Tryd.prog 3 #[.int .i64 a, .int .i64 b, .int .i64 we] W fun e w' => e = .returned (.bool true) ∧ Ext W w' := by
  have HS := Lib.hid hs
  clear hs
  have hn1 : ∀ (w : World) (p q : Int), p = a → q = 1000 → Calls Tryd.prog 9 #[.int .i64 p, .int .i64 q] w (Same w (.int .i64 (a % 1000))) := fun w p q hp hq => by subst hp hq; exact number_calls p 1000 w (by decide) (by decide)
  have hn2 : ∀ (w : World) (p q : Int), p = b → q = 1000 → Calls Tryd.prog 9 #[.int .i64 p, .int .i64 q] w (Same w (.int .i64 (b % 1000))) := fun w p q hp hq => by subst hp hq; exact number_calls p 1000 w (by decide) (by decide)
  have hn3 : ∀ (w : World) (p q : Int), p = we → q = 100 → Calls Tryd.prog 9 #[.int .i64 p, .int .i64 q] w (Same w (.int .i64 (we % 100))) := fun w p q hp hq => by subst hp hq; exact number_calls p 100 w (by decide) (by decide)
  have HN1 := Lib.hid hn1
  have HN2 := Lib.hid hn2
  have HN3 := Lib.hid hn3
  clear hn1 hn2 hn3
  have ba1 := Int.emod_nonneg a (show (1000 : Int) ≠ 0 by decide)
  have ba2 := Int.emod_lt_of_pos a (show (0 : Int) < 1000 by decide)
  have bb1 := Int.emod_nonneg b (show (1000 : Int) ≠ 0 by decide)
  have bb2 := Int.emod_lt_of_pos b (show (0 : Int) < 1000 by decide)
  have bw1 := Int.emod_nonneg we (show (100 : Int) ≠ 0 by decide)
  have bw2 := Int.emod_lt_of_pos we (show (0 : Int) < 100 by decide)
  go_enter Tryd.func3, Tryd.ntmps3
  generalize a % 1000 = x at *
  generalize b % 1000 = y at *
  generalize we % 100 = z at *
  obtain ⟨m, hm⟩ : ∃ m, Hid (min x y = m) := ⟨_, rfl⟩
  obtain ⟨q, hq0⟩ : ∃ q, 700 / (z + 1) = q := ⟨_, rfl⟩
  have hq := Lib.hid hq0
  have hm1 : 0 ≤ m := by have := hm.out; omega
  have hm2 : m < 1000 := by have := hm.out; omega
  have hmx : x ≤ y → m = x := by have := hm.out; omega
  have hmy : y ≤ x → m = y := by have := hm.out; omega
  have hq1 : 0 ≤ q := by rw [← hq.out]; exact Int.ediv_nonneg (by omega) (by omega)
  have hq2 : q ≤ 700 := by rw [← hq.out]; exact Int.ediv_le_self _ (by omega)
  go_wp2_with (first
    | ((go_at_call 8; refine (first_calls W).mono ?_; rintro e w1 ⟨rfl, hw1⟩; have HW1 := Lib.hid hw1; clear hw1))
    | ((go_at_call 9; refine (HN1.out _ _ _ ?_ ?_).mono ?_; (focus (with_reducible rfl)); (focus rfl); rintro e w2 ⟨rfl, n, rfl⟩))
    | ((go_at_call 9; refine (HN2.out _ _ _ ?_ ?_).mono ?_; (focus (with_reducible rfl)); (focus rfl); rintro e w2 ⟨rfl, n, rfl⟩))
    | ((go_at_call 9; refine (HN3.out _ _ _ ?_ ?_).mono ?_; (focus (with_reducible rfl)); (focus rfl); rintro e w2 ⟨rfl, n, rfl⟩))
    | ((go_at_call 10; refine (own_new (w0 := W) (HW1.out.drewN _)).mono ?_; rintro e w3 ⟨bs, rfl, H1⟩))
    | ((go_at_call 11; refine (own_add H1 0 100 (by decide) (by decide) (by decide) (by decide) (by simp)).mono ?_; rintro e w4 ⟨rfl, u0, hu0, H2⟩; obtain rfl := least_nil hu0.out; clear H1 hu0))
    | ((go_at_call 11; refine (own_add H2 1 100 (by decide) (by decide) (by decide) (by decide) (by simp)).mono ?_; rintro e w5 ⟨rfl, u1, hu1, H3⟩; obtain rfl := least_one hu1.out; clear H2 hu1))
    | ((go_at_call 12; refine (own_ran H3 (r := ⟨0, 100, 0, false, 0⟩) (by simp) x ba1 (by omega) rfl).mono ?_; rintro e w6 ⟨rfl, H4⟩; rw [late1 ba1 ba2] at H4; clear H3))
    | ((go_at_call 12; refine (own_ran H4 (r := ⟨1, 100, 0, false, 0⟩) (by simp) y bb1 (by omega) rfl).mono ?_; rintro e w7 ⟨rfl, H5⟩; rw [late2 bb1 bb2] at H5; clear H4))
    | ((go_at_call 11; refine (own_add H5 2 (z + 1) (by decide) (by decide) (by omega) (by omega) (by simp)).mono ?_; rintro e w8 ⟨rfl, u2, hu2, H6⟩; obtain rfl : m = u2 := ((least_two hu2.out).trans hm.out).symm; clear H5 hu2))
    | ((go_at_call 13; refine (own_used H6 (r := ⟨2, z + 1, m, false, 0⟩) (u := m) (by simp) rfl rfl).mono ?_; rintro e w9 ⟨rfl, H7⟩; clear H6))
    | ((go_at_call 12; refine (own_ran H7 (r := ⟨2, z + 1, m, false, 0⟩) (by simp) 7 (by decide) (by decide) rfl).mono ?_; rintro e w10 ⟨rfl, H8⟩; rw [late3 (x := x) (y := y) hm1 hm2 hq.out hq1 hq2] at H8; clear H7))
    | ((go_at_call 13; refine (own_used H8 (r := ⟨2, z + 1, m + q, false, 0⟩) (u := m + q) (by simp) rfl rfl).mono ?_; rintro e w11 ⟨rfl, H9⟩; clear H8))
    | ((go_at_call 14; refine (own_del H9 (r := ⟨2, z + 1, m + q, false, 0⟩) (by simp) rfl).mono ?_; rintro e w12 ⟨rfl, H10⟩; rw [late4] at H10; clear H9))
    | ((go_at_call 13; refine (own_used_no H10 (by simp)).mono ?_; rintro e w13 ⟨rfl, H11⟩; clear H10))
    | ((go_at_call 11; refine (own_add_twice H11 (r := ⟨1, 100, y, false, 0⟩) (by simp) 5 (by decide) (by decide) rfl HS.out).mono ?_; rintro e w14 ⟨v1, rfl, hv1, H12⟩; clear H11))
    | ((go_at_call 15; refine (own_is H12 HS.out hv1).mono ?_; rintro e w15 ⟨rfl, H13⟩; clear H12))
    | ((go_at_call 11; refine (own_add_bad H13 3 101 (by decide) HS.out).mono ?_; rintro e w16 ⟨v2, rfl, hv2, H14⟩; clear H13))
    | ((go_at_call 15; refine (own_is H14 HS.out hv2).mono ?_; rintro e w17 ⟨rfl, H15⟩; clear H14))
    | ((go_at_call 12; refine (own_ran_bad H15 (r := ⟨1, 100, y, false, 0⟩) (by simp) (-1) (by decide) rfl HS.out).mono ?_; rintro e w18 ⟨v3, rfl, hv3, H16⟩; clear H15))
    | ((go_at_call 15; refine (own_is H16 HS.out hv3).mono ?_; rintro e w19 ⟨rfl, H17⟩; clear H16))
    | ((go_at_call 12; refine (own_ran_no H17 (by simp) 0 HS.out).mono ?_; rintro e w20 ⟨v4, rfl, hv4, H18⟩; clear H17))
    | ((go_at_call 15; refine (own_is H18 HS.out hv4).mono ?_; rintro e w21 ⟨rfl, H19⟩; clear H18))
    | ((with_reducible refine Reg.wp_region_text ?_ ?_ ?_); (kernel_rfl); (kernel_rfl))
    | ((with_reducible refine Reg.text_nil ?_))
    | ((with_reducible refine Reg.text_plain ?_ ?_); (rfl); (intro K hK))
    | ((with_reducible apply Reg.text_nilCheck); (rfl); (intro K hK))
    | ((with_reducible apply Reg.text_bin); (rfl); (rfl); (intro K hK))
    | ((with_reducible refine Reg.text_loud ?_ ?_); (rfl); (intro K hK))
    | ((with_reducible refine Reg.text_skipG ?_ ?_); (rfl); (intro K hK)))
  all_goals go_ret
  all_goals exact ⟨rfl, H19.out.start⟩
end Go.Proofs.YtjchfkpcglpgdaaDoor
