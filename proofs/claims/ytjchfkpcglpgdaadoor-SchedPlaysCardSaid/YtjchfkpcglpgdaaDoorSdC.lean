/-
  container/heap over the scheduler's heaps: up, down.
-/
import Derived.Test.YtjchfkpcglpgdaaDoorSdB
set_option linter.unusedSimpArgs false
set_option linter.unusedVariables false
namespace Go.Proofs.YtjchfkpcglpgdaaDoor
open Go.RowKit Go.Hp

def lessAt (L : List One) (j i : Nat) : Bool :=
  match L[j]?, L[i]? with
  | some a, some c => lessB a c
  | _, _ => false

/-- container/heap's 'up', over a list. -/
def upL : Nat → List One → Nat → List One
  | 0, L, _ => L
  | f + 1, L, j => if (j - 1) / 2 = j ∨ lessAt L j ((j - 1) / 2) = false then L else upL f (swp L ((j - 1) / 2) j) ((j - 1) / 2)

theorem upL_stop (f : Nat) (L : List One) (j : Nat) (h : (j - 1) / 2 = j ∨ lessAt L j ((j - 1) / 2) = false) : upL f L j = L := by
  cases f with
  | zero => rfl
  | succ f => rw [upL, if_pos h]

theorem less_callsI {w : World} {T : Turns} {i k : Nat} {x y : Int} (h : TurnsAt w T) (hi : i < T.L.length) (hk : k < T.L.length) (hx : x = i) (hy : y = k) :
    Calls Tryd.prog 86 #[.pointer (some ⟨T.bt, 0, none⟩), .int .i64 x, .int .i64 y] w fun e w' => e = .returned (.bool (lessAt T.L i k)) ∧ ∃ n, w' = w.drewN n := by
  subst hx
  subst hy
  have h1 : T.L[i]? = some T.L[i] := List.getElem?_eq_getElem hi
  have h2 : T.L[k]? = some T.L[k] := List.getElem?_eq_getElem hk
  have := less_calls h h1 h2
  unfold lessAt
  rw [h1, h2]
  exact this

theorem less_callsB {w : World} {T : Turns} {i k : Nat} {x y : Int} {b : Bool} (h : TurnsAt w T) (hi : i < T.L.length) (hk : k < T.L.length) (hb : lessAt T.L i k = b) (hx : x = i) (hy : y = k) :
    Calls Tryd.prog 86 #[.pointer (some ⟨T.bt, 0, none⟩), .int .i64 x, .int .i64 y] w fun e w' => e = .returned (.bool b) ∧ ∃ n, w' = w.drewN n := by
  subst hb
  exact less_callsI h hi hk hx hy

theorem swap_callsI {w : World} {T : Turns} {i k : Nat} {x y : Int} (h : TurnsAt w T) (hi : i < T.L.length) (hk : k < T.L.length) (hik : i ≠ k) (hx : x = i) (hy : y = k) :
    Calls Tryd.prog 89 #[.pointer (some ⟨T.bt, 0, none⟩), .int .i64 x, .int .i64 y] w fun e w' => e = .returned (.tuple #[]) ∧ TurnsAt w' { T with L := swp T.L i k } ∧ Only T.fp w w' := by
  subst hx
  subst hy
  exact swap_calls h hi hk hik

theorem fp_swp (T : Turns) (i k : Nat) (b : Nat) : ({ T with L := swp T.L i k } : Turns).fp b ↔ T.fp b := by
  have hp : ({ T with L := swp T.L i k } : Turns).blocks.Perm T.blocks := ((swp_perm.map _).append_left _).cons _
  exact hp.mem_iff

set_option maxRecDepth 100000 in
set_option maxHeartbeats 1000000 in
theorem up_calls {w : World} {T : Turns} {j0 : Nat} {x : Int} (h : TurnsAt w T) (hj : j0 < T.L.length) (hx : x = j0) :
    Calls Tryd.prog 40 #[.iface 57 (.pointer (some ⟨T.bt, 0, none⟩)), .int .i64 x] w fun e w' => e = .returned (.tuple #[]) ∧ TurnsAt w' { T with L := upL j0 T.L j0 } ∧ Only T.fp w w' := by
  subst hx
  have H := Lib.hid h
  clear h
  go_enter Tryd.func40, Tryd.ntmps40
  go_wp2_with (first
    | ((with_reducible refine Reg.wp_region_text ?_ ?_ ?_); (kernel_rfl); (kernel_rfl))
    | ((with_reducible refine Reg.text_nil ?_))
    | ((with_reducible refine Reg.text_plain ?_ ?_); (rfl); (intro K hK))
    | ((with_reducible apply Reg.text_nilCheck); (rfl); (intro K hK))
    | ((with_reducible apply Reg.text_bin); (rfl); (rfl); (intro K hK))
    | ((with_reducible refine Reg.text_loud ?_ ?_); (rfl); (intro K hK))
    | ((with_reducible refine Reg.text_skipG ?_ ?_); (rfl); (intro K hK)))
  go_loopw [1] (fun t wr => ∃ (j f : Nat) (L : List One), t = .int .i64 j ∧ j < L.length ∧ L.length ≤ 8 ∧ j ≤ f ∧ Hid (TurnsAt wr { T with L := L }) ∧ Hid (upL j0 T.L j0 = upL f L j) ∧ Hid (Only T.fp w wr) ∧ Hid (∀ b, ({ T with L := L } : Turns).fp b ↔ T.fp b)) (fun t _ => (intOf t).toNat)
  case atStart => exact ⟨j0, j0, T.L, rfl, hj, H.out.len, Nat.le_refl _, H, rfl, Only.refl _ _, fun _ => Iff.rfl⟩
  case round =>
    obtain ⟨j, f, L, rfl, hjl, hl8, hf, hT, hu, ho, hfp⟩ := hrel
    by_cases h0 : j = 0
    · subst h0
      go_wp2
      go_end0
      have e : upL f L 0 = L := upL_stop _ _ _ (.inl rfl)
      exact ⟨rfl, by rw [hu.out, e]; exact hT.out, ho.out⟩
    · obtain ⟨i, hi1, hi2, hi3⟩ : ∃ i, 2 * i < j ∧ j ≤ 2 * i + 2 ∧ Hid (i = (j - 1) / 2) := ⟨(j - 1) / 2, by omega, by omega, rfl⟩
      have hq : ((j : Int) - 1).tdiv 2 = (i : Int) := by rw [Int.tdiv_eq_ediv_of_nonneg (by omega)]; omega
      have hij : ((i : Int) == (j : Int)) = false := beq_eq_false_iff_ne.2 (by omega)
      obtain ⟨f, rfl⟩ : ∃ g, f = g + 1 := ⟨f - 1, by omega⟩
      have hil : i < L.length := by omega
      have hne : i ≠ j := by omega
      clear h0
      go_wp2_with (first
    | ((go_at_call 86; refine (less_callsI (i := j) (k := i) hT.out hjl hil rfl rfl).mono ?_; rintro e w' ⟨rfl, n, rfl⟩))
    | ((go_at_call 89; refine (swap_callsI (i := i) (k := j) (hT.out.drewN _) hil hjl hne rfl rfl).mono ?_; rintro e w' ⟨rfl, hT2, ho2⟩))
    | ((with_reducible refine Reg.wp_region_text ?_ ?_ ?_); (kernel_rfl); (kernel_rfl))
    | ((with_reducible refine Reg.text_nil ?_))
    | ((with_reducible refine Reg.text_plain ?_ ?_); (rfl); (intro K hK))
    | ((with_reducible apply Reg.text_nilCheck); (rfl); (intro K hK))
    | ((with_reducible apply Reg.text_bin); (rfl); (rfl); (intro K hK))
    | ((with_reducible refine Reg.text_loud ?_ ?_); (rfl); (intro K hK))
    | ((with_reducible refine Reg.text_skipG ?_ ?_); (rfl); (intro K hK)))
      · rename_i hb
        go_end0
        have e : upL (f + 1) L j = L := upL_stop _ _ _ (.inr (by rw [← hi3.out]; simpa using hb))
        exact ⟨rfl, by rw [hu.out, e]; exact hT.out.drewN _, ho.out.drewN _⟩
      · rename_i hb
        have hb' : lessAt L j i = true := by simpa using hb
        go_roundw
        case rel =>
          refine ⟨i, f, swp L i j, rfl, by rw [swp_length]; exact hil, by rw [swp_length]; exact hl8, by omega, hT2, ?_, ?_, ?_⟩
          · show Hid _
            unfold Hid
            rw [hu.out, upL, if_neg (by rw [← hi3.out, hb']; simp; omega), ← hi3.out]
          · exact (ho.out.drewN _).trans ho2 (fun b _ hb => (hfp.out b).1 hb)
          · exact fun b => (fp_swp { T with L := L } i j b).trans (hfp.out b)
        case measure => simp [intOf]; omega

/-- container/heap's 'down', over a list: how far it went, and the list. -/
def downL : Nat → List One → Nat → Nat → Nat × List One
  | 0, L, i, _ => (i, L)
  | f + 1, L, i, n =>
    if n ≤ 2 * i + 1 then (i, L)
    else
      let j := if 2 * i + 2 < n ∧ lessAt L (2 * i + 2) (2 * i + 1) = true then 2 * i + 2 else 2 * i + 1
      if lessAt L j i = false then (i, L) else downL f (swp L i j) j n

/-- Which of the two below goes up. -/
def kid (L : List One) (i n : Nat) : Nat := if 2 * i + 2 < n ∧ lessAt L (2 * i + 2) (2 * i + 1) = true then 2 * i + 2 else 2 * i + 1

theorem downL_stop (f : Nat) (L : List One) (i n : Nat) (h : n ≤ 2 * i + 1 ∨ lessAt L (kid L i n) i = false) : downL f L i n = (i, L) := by
  cases f with
  | zero => rfl
  | succ f =>
    rw [downL]
    rcases h with h | h
    · rw [if_pos h]
    · split
      · rfl
      · show (if lessAt L (kid L i n) i = false then _ else _) = _
        rw [if_pos h]

theorem downL_go (f : Nat) (L : List One) (i n : Nat) (h : 2 * i + 1 < n) (hl : lessAt L (kid L i n) i = true) : downL (f + 1) L i n = downL f (swp L i (kid L i n)) (kid L i n) n := by
  rw [downL, if_neg (by omega)]
  show (if lessAt L (kid L i n) i = false then _ else _) = _
  rw [if_neg (by rw [hl]; simp)]
  rfl

theorem swap_callsI' {w : World} {T : Turns} {i k : Nat} {x y : Int} (h : TurnsAt w T) (hi : i < T.L.length) (hk : k < T.L.length) (hik : i ≠ k) (hx : x = i) (hy : y = k) :
    Calls Tryd.prog 89 #[.pointer (some ⟨T.bt, 0, none⟩), .int .i64 x, .int .i64 y] w fun e w' => e = .returned (.tuple #[]) ∧ TurnsAt w' { T with L := swp T.L i k } ∧ Only T.fp w w' := swap_callsI h hi hk hik hx hy

set_option maxRecDepth 100000 in
set_option maxHeartbeats 2000000 in
theorem down_calls {w : World} {T : Turns} {i0 n : Nat} {x y : Int} (h : TurnsAt w T) (hi : i0 < T.L.length) (hn : n ≤ T.L.length) (hx : x = i0) (hy : y = n) :
    Calls Tryd.prog 41 #[.iface 57 (.pointer (some ⟨T.bt, 0, none⟩)), .int .i64 x, .int .i64 y] w fun e w' =>
      e = .returned (.bool (decide (i0 < (downL n T.L i0 n).1))) ∧ TurnsAt w' { T with L := (downL n T.L i0 n).2 } ∧ Only T.fp w w' := by
  subst hx
  subst hy
  have H := Lib.hid h
  have hn8 : n ≤ 8 := Nat.le_trans hn h.len
  have hi8 : i0 < 8 := Nat.lt_of_lt_of_le hi h.len
  clear h
  go_enter Tryd.func41, Tryd.ntmps41
  go_wp2
  go_loopw [7] (fun t wr => ∃ (i f : Nat) (L : List One), t = .int .i64 i ∧ i < L.length ∧ i0 ≤ i ∧ n ≤ L.length ∧ L.length ≤ 8 ∧ n ≤ i + f ∧ Hid (TurnsAt wr { T with L := L }) ∧ Hid (downL n T.L i0 n = downL f L i n) ∧ Hid (Only T.fp w wr) ∧ Hid (∀ b, ({ T with L := L } : Turns).fp b ↔ T.fp b)) (fun t _ => n - (intOf t).toNat)
  case atStart => exact ⟨i0, n, T.L, rfl, hi, Nat.le_refl _, hn, H.out.len, by omega, H, rfl, Only.refl _ _, fun _ => Iff.rfl⟩
  case round =>
    obtain ⟨i, f, L, rfl, hil, hii, hnl, hl8, hf, hT, hu, ho, hfp⟩ := hrel
    by_cases h1 : n ≤ 2 * i + 1
    · have e : downL f L i n = (i, L) := downL_stop _ _ _ _ (.inl h1)
      have HU := Lib.hid (hu.out.trans e)
      clear e hu
      go_wp2
      go_ret
      exact ⟨by rw [HU.out]; congr 2, by rw [HU.out]; exact hT.out, ho.out⟩
    · obtain ⟨f, rfl⟩ : ∃ g, f = g + 1 := ⟨f - 1, by omega⟩
      have h1l : 2 * i + 1 < L.length := by omega
      have d1 : decide ((n : Int) ≤ 2 * (i : Int) + 1) = false := decide_eq_false (by omega)
      have d2 : decide (2 * (i : Int) + 1 < 0) = false := decide_eq_false (by omega)
      by_cases h2 : 2 * i + 2 < n
      · have h2l : 2 * i + 2 < L.length := by omega
        have d3 : decide (2 * (i : Int) + 1 + 1 < (n : Int)) = true := decide_eq_true (by omega)
        obtain ⟨b2, HB2⟩ : ∃ b, Hid (lessAt L (2 * i + 2) (2 * i + 1) = b) := ⟨_, rfl⟩
        cases b2 with
        | true =>
          have hk : Hid (kid L i n = 2 * i + 2) := by unfold Hid kid; rw [if_pos ⟨h2, HB2.out⟩]
          have hjl := h2l
          have hne : i ≠ 2 * i + 2 := by omega
          obtain ⟨b1, HB1⟩ : ∃ b, Hid (lessAt L (2 * i + 2) i = b) := ⟨_, rfl⟩
          cases b1 with
          | false =>
            have e : downL (f + 1) L i n = (i, L) := downL_stop _ _ _ _ (.inr (by rw [hk.out]; exact HB1.out))
            have HU := Lib.hid (hu.out.trans e)
            clear e hu hk
            go_wp2_with (first
    | ((go_at_call 86; refine (less_callsB (i := 2 * i + 2) (k := 2 * i + 1) hT.out h2l h1l HB2.out ?_ ?_).mono ?_; (omega); (omega); rintro e w' ⟨rfl, n1, rfl⟩))
    | ((go_at_call 86; refine (less_callsB (i := 2 * i + 2) (k := i) (hT.out.drewN _) hjl hil HB1.out ?_ rfl).mono ?_; (omega); rintro e w' ⟨rfl, n2, rfl⟩))
    | ((go_at_call 89; refine (swap_callsI (i := i) (k := 2 * i + 2) (hT.out.drewN _) hil hjl hne rfl ?_).mono ?_; (omega); rintro e w' ⟨rfl, hT2, ho2⟩))
    | ((with_reducible refine Reg.wp_region_text ?_ ?_ ?_); (kernel_rfl); (kernel_rfl))
    | ((with_reducible refine Reg.text_nil ?_))
    | ((with_reducible refine Reg.text_plain ?_ ?_); (rfl); (intro K hK))
    | ((with_reducible apply Reg.text_nilCheck); (rfl); (intro K hK))
    | ((with_reducible apply Reg.text_bin); (rfl); (rfl); (intro K hK))
    | ((with_reducible refine Reg.text_loud ?_ ?_); (rfl); (intro K hK))
    | ((with_reducible refine Reg.text_skipG ?_ ?_); (rfl); (intro K hK)))
            go_ret
            exact ⟨by rw [HU.out]; congr 2, by rw [HU.out]; exact hT.out.drewN _, ho.out.drewN _⟩
          | true =>
            have HU := Lib.hid (hu.out.trans (downL_go f L i n (by omega) (by rw [hk.out]; exact HB1.out)))
            clear hu
            go_wp2_with (first
    | ((go_at_call 86; refine (less_callsB (i := 2 * i + 2) (k := 2 * i + 1) hT.out h2l h1l HB2.out ?_ ?_).mono ?_; (omega); (omega); rintro e w' ⟨rfl, n1, rfl⟩))
    | ((go_at_call 86; refine (less_callsB (i := 2 * i + 2) (k := i) (hT.out.drewN _) hjl hil HB1.out ?_ rfl).mono ?_; (omega); rintro e w' ⟨rfl, n2, rfl⟩))
    | ((go_at_call 89; refine (swap_callsI (i := i) (k := 2 * i + 2) (hT.out.drewN _) hil hjl hne rfl ?_).mono ?_; (omega); rintro e w' ⟨rfl, hT2, ho2⟩))
    | ((with_reducible refine Reg.wp_region_text ?_ ?_ ?_); (kernel_rfl); (kernel_rfl))
    | ((with_reducible refine Reg.text_nil ?_))
    | ((with_reducible refine Reg.text_plain ?_ ?_); (rfl); (intro K hK))
    | ((with_reducible apply Reg.text_nilCheck); (rfl); (intro K hK))
    | ((with_reducible apply Reg.text_bin); (rfl); (rfl); (intro K hK))
    | ((with_reducible refine Reg.text_loud ?_ ?_); (rfl); (intro K hK))
    | ((with_reducible refine Reg.text_skipG ?_ ?_); (rfl); (intro K hK)))
            go_roundw
            case rel =>
              refine ⟨2 * i + 2, f, swp L i (2 * i + 2), by go_num, by rw [swp_length]; omega, by omega, by rw [swp_length]; exact hnl, by rw [swp_length]; exact hl8, by omega, hT2, ?_, ?_, ?_⟩
              · show Hid _
                unfold Hid
                rw [HU.out, hk.out]
              · exact (ho.out.drewN _).trans ho2 (fun b _ hb => (hfp.out b).1 hb)
              · exact fun b => (fp_swp { T with L := L } i (2 * i + 2) b).trans (hfp.out b)
            case measure => simp [intOf]; omega
        | false =>
          have hk : Hid (kid L i n = 2 * i + 1) := by unfold Hid kid; rw [if_neg (by rw [HB2.out]; simp)]
          have hjl := h1l
          have hne : i ≠ 2 * i + 1 := by omega
          obtain ⟨b1, HB1⟩ : ∃ b, Hid (lessAt L (2 * i + 1) i = b) := ⟨_, rfl⟩
          cases b1 with
          | false =>
            have e : downL (f + 1) L i n = (i, L) := downL_stop _ _ _ _ (.inr (by rw [hk.out]; exact HB1.out))
            have HU := Lib.hid (hu.out.trans e)
            clear e hu hk
            go_wp2_with (first
    | ((go_at_call 86; refine (less_callsB (i := 2 * i + 2) (k := 2 * i + 1) hT.out h2l h1l HB2.out ?_ ?_).mono ?_; (omega); (omega); rintro e w' ⟨rfl, n1, rfl⟩))
    | ((go_at_call 86; refine (less_callsB (i := 2 * i + 1) (k := i) (hT.out.drewN _) hjl hil HB1.out ?_ rfl).mono ?_; (omega); rintro e w' ⟨rfl, n2, rfl⟩))
    | ((go_at_call 89; refine (swap_callsI (i := i) (k := 2 * i + 1) (hT.out.drewN _) hil hjl hne rfl ?_).mono ?_; (omega); rintro e w' ⟨rfl, hT2, ho2⟩))
    | ((with_reducible refine Reg.wp_region_text ?_ ?_ ?_); (kernel_rfl); (kernel_rfl))
    | ((with_reducible refine Reg.text_nil ?_))
    | ((with_reducible refine Reg.text_plain ?_ ?_); (rfl); (intro K hK))
    | ((with_reducible apply Reg.text_nilCheck); (rfl); (intro K hK))
    | ((with_reducible apply Reg.text_bin); (rfl); (rfl); (intro K hK))
    | ((with_reducible refine Reg.text_loud ?_ ?_); (rfl); (intro K hK))
    | ((with_reducible refine Reg.text_skipG ?_ ?_); (rfl); (intro K hK)))
            go_ret
            exact ⟨by rw [HU.out]; congr 2, by rw [HU.out]; exact hT.out.drewN _, ho.out.drewN _⟩
          | true =>
            have HU := Lib.hid (hu.out.trans (downL_go f L i n (by omega) (by rw [hk.out]; exact HB1.out)))
            clear hu
            go_wp2_with (first
    | ((go_at_call 86; refine (less_callsB (i := 2 * i + 2) (k := 2 * i + 1) hT.out h2l h1l HB2.out ?_ ?_).mono ?_; (omega); (omega); rintro e w' ⟨rfl, n1, rfl⟩))
    | ((go_at_call 86; refine (less_callsB (i := 2 * i + 1) (k := i) (hT.out.drewN _) hjl hil HB1.out ?_ rfl).mono ?_; (omega); rintro e w' ⟨rfl, n2, rfl⟩))
    | ((go_at_call 89; refine (swap_callsI (i := i) (k := 2 * i + 1) (hT.out.drewN _) hil hjl hne rfl ?_).mono ?_; (omega); rintro e w' ⟨rfl, hT2, ho2⟩))
    | ((with_reducible refine Reg.wp_region_text ?_ ?_ ?_); (kernel_rfl); (kernel_rfl))
    | ((with_reducible refine Reg.text_nil ?_))
    | ((with_reducible refine Reg.text_plain ?_ ?_); (rfl); (intro K hK))
    | ((with_reducible apply Reg.text_nilCheck); (rfl); (intro K hK))
    | ((with_reducible apply Reg.text_bin); (rfl); (rfl); (intro K hK))
    | ((with_reducible refine Reg.text_loud ?_ ?_); (rfl); (intro K hK))
    | ((with_reducible refine Reg.text_skipG ?_ ?_); (rfl); (intro K hK)))
            go_roundw
            case rel =>
              refine ⟨2 * i + 1, f, swp L i (2 * i + 1), by go_num, by rw [swp_length]; omega, by omega, by rw [swp_length]; exact hnl, by rw [swp_length]; exact hl8, by omega, hT2, ?_, ?_, ?_⟩
              · show Hid _
                unfold Hid
                rw [HU.out, hk.out]
              · exact (ho.out.drewN _).trans ho2 (fun b _ hb => (hfp.out b).1 hb)
              · exact fun b => (fp_swp { T with L := L } i (2 * i + 1) b).trans (hfp.out b)
            case measure => simp [intOf]; omega
      · have d3 : decide (2 * (i : Int) + 1 + 1 < (n : Int)) = false := decide_eq_false (by omega)
        have hk : Hid (kid L i n = 2 * i + 1) := by unfold Hid kid; rw [if_neg (by omega)]
        have hjl := h1l
        have hne : i ≠ 2 * i + 1 := by omega
        obtain ⟨b1, HB1⟩ : ∃ b, Hid (lessAt L (2 * i + 1) i = b) := ⟨_, rfl⟩
        cases b1 with
        | false =>
          have e : downL (f + 1) L i n = (i, L) := downL_stop _ _ _ _ (.inr (by rw [hk.out]; exact HB1.out))
          have HU := Lib.hid (hu.out.trans e)
          clear e hu hk
          go_wp2_with (first
    | ((go_at_call 86; refine (less_callsB (i := 2 * i + 1) (k := i) hT.out hjl hil HB1.out ?_ rfl).mono ?_; (omega); rintro e w' ⟨rfl, n2, rfl⟩))
    | ((go_at_call 89; refine (swap_callsI (i := i) (k := 2 * i + 1) (hT.out.drewN _) hil hjl hne rfl ?_).mono ?_; (omega); rintro e w' ⟨rfl, hT2, ho2⟩))
    | ((with_reducible refine Reg.wp_region_text ?_ ?_ ?_); (kernel_rfl); (kernel_rfl))
    | ((with_reducible refine Reg.text_nil ?_))
    | ((with_reducible refine Reg.text_plain ?_ ?_); (rfl); (intro K hK))
    | ((with_reducible apply Reg.text_nilCheck); (rfl); (intro K hK))
    | ((with_reducible apply Reg.text_bin); (rfl); (rfl); (intro K hK))
    | ((with_reducible refine Reg.text_loud ?_ ?_); (rfl); (intro K hK))
    | ((with_reducible refine Reg.text_skipG ?_ ?_); (rfl); (intro K hK)))
          go_ret
          exact ⟨by rw [HU.out]; congr 2, by rw [HU.out]; exact hT.out.drewN _, ho.out.drewN _⟩
        | true =>
          have HU := Lib.hid (hu.out.trans (downL_go f L i n (by omega) (by rw [hk.out]; exact HB1.out)))
          clear hu
          go_wp2_with (first
    | ((go_at_call 86; refine (less_callsB (i := 2 * i + 1) (k := i) hT.out hjl hil HB1.out ?_ rfl).mono ?_; (omega); rintro e w' ⟨rfl, n2, rfl⟩))
    | ((go_at_call 89; refine (swap_callsI (i := i) (k := 2 * i + 1) (hT.out.drewN _) hil hjl hne rfl ?_).mono ?_; (omega); rintro e w' ⟨rfl, hT2, ho2⟩))
    | ((with_reducible refine Reg.wp_region_text ?_ ?_ ?_); (kernel_rfl); (kernel_rfl))
    | ((with_reducible refine Reg.text_nil ?_))
    | ((with_reducible refine Reg.text_plain ?_ ?_); (rfl); (intro K hK))
    | ((with_reducible apply Reg.text_nilCheck); (rfl); (intro K hK))
    | ((with_reducible apply Reg.text_bin); (rfl); (rfl); (intro K hK))
    | ((with_reducible refine Reg.text_loud ?_ ?_); (rfl); (intro K hK))
    | ((with_reducible refine Reg.text_skipG ?_ ?_); (rfl); (intro K hK)))
          go_roundw
          case rel =>
            refine ⟨2 * i + 1, f, swp L i (2 * i + 1), by go_num, by rw [swp_length]; omega, by omega, by rw [swp_length]; exact hnl, by rw [swp_length]; exact hl8, by omega, hT2, ?_, ?_, ?_⟩
            · show Hid _
              unfold Hid
              rw [HU.out, hk.out]
            · exact (ho.out.drewN _).trans ho2 (fun b _ hb => (hfp.out b).1 hb)
            · exact fun b => (fp_swp { T with L := L } i (2 * i + 1) b).trans (hfp.out b)
          case measure => simp [intOf]; omega
end Go.Proofs.YtjchfkpcglpgdaaDoor
