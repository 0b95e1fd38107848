/-
  container/heap over the scheduler's heaps: Push, Remove, Fix.
-/
import Derived.Test.YtjchfkpcglpgdaaDoorSdC
set_option linter.unusedSimpArgs false
set_option linter.unusedVariables false
namespace Go.Proofs.YtjchfkpcglpgdaaDoor
open Go.RowKit Go.Hp

theorem upL_length (f : Nat) : ∀ (L : List One) (j : Nat), (upL f L j).length = L.length := by
  induction f with
  | zero => intro L j; rfl
  | succ f ih => intro L j; rw [upL]; split
                 · rfl
                 · rw [ih, swp_length]
theorem downL_cases (f : Nat) (L : List One) (i n : Nat) : downL (f + 1) L i n = (i, L) ∨ (2 * i + 1 < n ∧ lessAt L (kid L i n) i = true ∧ downL (f + 1) L i n = downL f (swp L i (kid L i n)) (kid L i n) n) := by
  by_cases h1 : n ≤ 2 * i + 1
  · exact .inl (downL_stop _ _ _ _ (.inl h1))
  · cases h2 : lessAt L (kid L i n) i with
    | false => exact .inl (downL_stop _ _ _ _ (.inr h2))
    | true => exact .inr ⟨by omega, rfl, downL_go _ _ _ _ (by omega) h2⟩
theorem downL_length (f : Nat) : ∀ (L : List One) (i n : Nat), (downL f L i n).2.length = L.length := by
  induction f with
  | zero => intro L i n; rfl
  | succ f ih =>
    intro L i n
    rcases downL_cases f L i n with h | ⟨_, _, h⟩
    · rw [h]
    · rw [h, ih, swp_length]
theorem upL_perm (f : Nat) : ∀ (L : List One) (j : Nat), (upL f L j).Perm L := by
  induction f with
  | zero => intro L j; exact .refl _
  | succ f ih => intro L j; rw [upL]; split
                 · exact .refl _
                 · exact (ih _ _).trans swp_perm
theorem downL_perm (f : Nat) : ∀ (L : List One) (i n : Nat), (downL f L i n).2.Perm L := by
  induction f with
  | zero => intro L i n; exact .refl _
  | succ f ih =>
    intro L i n
    rcases downL_cases f L i n with h | ⟨_, _, h⟩
    · rw [h]
    · rw [h]; exact (ih _ _ _).trans swp_perm
theorem fp_perm {T : Turns} {L : List One} (h : L.Perm T.L) (b : Nat) : ({ T with L := L } : Turns).fp b ↔ T.fp b := by
  have hp : ({ T with L := L } : Turns).blocks.Perm T.blocks := ((h.map _).append_left _).cons _
  exact hp.mem_iff

theorem lenI {w : World} {T : Turns} (h : TurnsAt w T) :
    Calls Tryd.prog 35 #[.pointer (some ⟨T.bt, 0, none⟩)] w fun e w' => e = .returned (.int .i64 T.L.length) ∧ w = w' := len_calls h

theorem downB {w : World} {T : Turns} {i0 n : Nat} {x y : Int} {b : Bool} (h : TurnsAt w T) (hi : i0 < T.L.length) (hn : n ≤ T.L.length) (hb : decide (i0 < (downL n T.L i0 n).1) = b) (hx : x = i0) (hy : y = n) :
    Calls Tryd.prog 41 #[.iface 57 (.pointer (some ⟨T.bt, 0, none⟩)), .int .i64 x, .int .i64 y] w fun e w' =>
      e = .returned (.bool b) ∧ TurnsAt w' { T with L := (downL n T.L i0 n).2 } ∧ Only T.fp w w' := by
  subst hb
  exact down_calls h hi hn hx hy

set_option maxRecDepth 100000 in
set_option maxHeartbeats 1000000 in
theorem hpush_calls {w : World} {T : Turns} {o : One} {p : Nat} (h : TurnsAt w T) (ho : Blk w o.b (o.cells p) 65) (hno : o.b ∉ T.blocks) (hl : T.L.length < 8) :
    Calls Tryd.prog 29 #[.iface 57 (.pointer (some ⟨T.bt, 0, none⟩)), .iface 63 (.pointer (some ⟨o.b, 0, none⟩))] w fun e w' => e = .returned (.tuple #[]) ∧
      ∃ T' : Turns, T'.bt = T.bt ∧ T'.L = upL T.L.length (T.L ++ [o]) T.L.length ∧ TurnsAt w' T' ∧ (T'.arr = T.arr ∨ ∃ g, T'.arr = some g ∧ w.heap.size ≤ g) ∧ Only (fun b => b ∈ T.blocks ∨ b = o.b) w w' := by
  have HP := Lib.hid (push_calls h ho hno hl)
  clear h ho hno
  go_enter Tryd.func29, Tryd.ntmps29
  go_wp2_with fail
  refine HP.out.mono ?_
  rintro e w1 ⟨rfl, T1, hbt, hL, hT1, harr, ho1⟩
  have HT := Lib.hid hT1
  have HL := Lib.hid hL
  have HB := Lib.hid hbt
  have HA := Lib.hid harr
  have HO := Lib.hid ho1
  clear hT1 hL hbt harr ho1 HP
  obtain ⟨bt, arr, tail, L⟩ := T1
  obtain rfl : bt = T.bt := HB.out
  obtain rfl : L = T.L ++ [o] := HL.out
  clear HB HL
  go_wp2_with (first
    | ((go_at_call 35; refine (lenI HT.out).mono ?_; rintro e w' ⟨rfl, rfl⟩))
    | ((go_at_call 40; refine (up_calls (j0 := T.L.length) HT.out ?_ ?_).mono ?_; (simp); (simp); rintro e w2 ⟨rfl, hT2, ho2⟩))
    | ((with_reducible refine Reg.wp_region_text ?_ ?_ ?_); (kernel_rfl); (kernel_rfl))
    | ((with_reducible refine Reg.text_nil ?_))
    | ((with_reducible refine Reg.text_plain ?_ ?_); (rfl); (intro K hK))
    | ((with_reducible apply Reg.text_nilCheck); (rfl); (intro K hK))
    | ((with_reducible apply Reg.text_bin); (rfl); (rfl); (intro K hK))
    | ((with_reducible refine Reg.text_loud ?_ ?_); (rfl); (intro K hK))
    | ((with_reducible refine Reg.text_skipG ?_ ?_); (rfl); (intro K hK)))
  go_end0
  refine ⟨rfl, _, ?_, ?_, hT2, HA.out, ?_⟩
  · rfl
  · rfl
  · refine HO.out.trans ho2 ?_
    intro b hb hf
    simp only [Turns.fp, Turns.blocks, List.mem_cons, List.mem_append, List.map_append, List.map_cons, List.map_nil, List.not_mem_nil, or_false] at hf ⊢
    rcases hf with hf | hf | hf | hf
    · exact .inl (.inl hf)
    · rcases HA.out with ha | ⟨g, hg, hge⟩
      · have ha : arr = T.arr := ha
        rw [ha] at hf; exact .inl (.inr (.inl hf))
      · have hg : arr = some g := hg
        subst hg; simp at hf; omega
    · exact .inl (.inr (.inr hf))
    · exact .inr hf

/-- container/heap's 'Fix', over a list. -/
def fixL (L : List One) (i : Nat) : List One :=
  if i < (downL L.length L i L.length).1 then (downL L.length L i L.length).2 else upL i (downL L.length L i L.length).2 i

/-- The list ahead of the last step of container/heap's 'Remove'. -/
def remL (L : List One) (i : Nat) : List One :=
  if L.length - 1 = i then L
  else if i < (downL (L.length - 1) (swp L i (L.length - 1)) i (L.length - 1)).1 then (downL (L.length - 1) (swp L i (L.length - 1)) i (L.length - 1)).2
    else upL i (downL (L.length - 1) (swp L i (L.length - 1)) i (L.length - 1)).2 i

theorem fixL_perm (L : List One) (i : Nat) : (fixL L i).Perm L := by
  unfold fixL
  split
  · exact downL_perm _ _ _ _
  · exact (upL_perm _ _ _).trans (downL_perm _ _ _ _)
theorem remL_perm (L : List One) (i : Nat) : (remL L i).Perm L := by
  unfold remL
  split
  · exact .refl _
  · split
    · exact (downL_perm _ _ _ _).trans swp_perm
    · exact (upL_perm _ _ _).trans ((downL_perm _ _ _ _).trans swp_perm)

set_option maxRecDepth 100000 in
set_option maxHeartbeats 1000000 in
theorem hfix_calls {w : World} {T : Turns} {i : Nat} {x : Int} (h : TurnsAt w T) (hi : i < T.L.length) (hx : x = i) :
    Calls Tryd.prog 30 #[.iface 57 (.pointer (some ⟨T.bt, 0, none⟩)), .int .i64 x] w fun e w' => e = .returned (.tuple #[]) ∧ TurnsAt w' { T with L := fixL T.L i } ∧ Only T.fp w w' := by
  have HT := Lib.hid h
  clear h
  obtain ⟨b, hb⟩ : ∃ b, decide (i < (downL T.L.length T.L i T.L.length).1) = b := ⟨_, rfl⟩
  have HB := Lib.hid hb
  clear hb
  subst hx
  have hfp := fun b => fp_perm (T := T) (downL_perm T.L.length T.L i T.L.length) b
  have HF := Lib.hid hfp
  clear hfp
  cases b with
  | true =>
    have e : fixL T.L i = (downL T.L.length T.L i T.L.length).2 := by unfold fixL; rw [if_pos (of_decide_eq_true HB.out)]
    have HE := Lib.hid e
    clear e
    go_enter Tryd.func30, Tryd.ntmps30
    go_wp2_with (first
    | ((go_at_call 35; refine (lenI HT.out).mono ?_; rintro e w' ⟨rfl, rfl⟩))
    | ((go_at_call 41; refine (downB HT.out hi (Nat.le_refl _) HB.out rfl rfl).mono ?_; rintro e w2 ⟨rfl, hT2, ho2⟩))
    | ((with_reducible refine Reg.wp_region_text ?_ ?_ ?_); (kernel_rfl); (kernel_rfl))
    | ((with_reducible refine Reg.text_nil ?_))
    | ((with_reducible refine Reg.text_plain ?_ ?_); (rfl); (intro K hK))
    | ((with_reducible apply Reg.text_nilCheck); (rfl); (intro K hK))
    | ((with_reducible apply Reg.text_bin); (rfl); (rfl); (intro K hK))
    | ((with_reducible refine Reg.text_loud ?_ ?_); (rfl); (intro K hK))
    | ((with_reducible refine Reg.text_skipG ?_ ?_); (rfl); (intro K hK)))
    go_end0
    exact ⟨rfl, by rw [HE.out]; exact hT2, ho2⟩
  | false =>
    have e : fixL T.L i = upL i (downL T.L.length T.L i T.L.length).2 i := by unfold fixL; rw [if_neg (of_decide_eq_false HB.out)]
    have HE := Lib.hid e
    clear e
    go_enter Tryd.func30, Tryd.ntmps30
    go_wp2_with (first
    | ((go_at_call 35; refine (lenI HT.out).mono ?_; rintro e w' ⟨rfl, rfl⟩))
    | ((go_at_call 41; refine (downB HT.out hi (Nat.le_refl _) HB.out rfl rfl).mono ?_; rintro e w2 ⟨rfl, hT2, ho2⟩))
    | ((go_at_call 40; refine (up_calls (j0 := i) hT2 ?_ rfl).mono ?_; (rw [downL_length]; exact hi); rintro e w3 ⟨rfl, hT3, ho3⟩))
    | ((with_reducible refine Reg.wp_region_text ?_ ?_ ?_); (kernel_rfl); (kernel_rfl))
    | ((with_reducible refine Reg.text_nil ?_))
    | ((with_reducible refine Reg.text_plain ?_ ?_); (rfl); (intro K hK))
    | ((with_reducible apply Reg.text_nilCheck); (rfl); (intro K hK))
    | ((with_reducible apply Reg.text_bin); (rfl); (rfl); (intro K hK))
    | ((with_reducible refine Reg.text_loud ?_ ?_); (rfl); (intro K hK))
    | ((with_reducible refine Reg.text_skipG ?_ ?_); (rfl); (intro K hK)))
    go_end0
    exact ⟨rfl, by rw [HE.out]; exact hT3, ho2.trans ho3 (fun b _ hf => (HF.out b).1 hf)⟩

theorem popI {w : World} {T : Turns} {L : List One} {o : One} (h : TurnsAt w T) (hL : T.L = L ++ [o]) :
    Calls Tryd.prog 87 #[.pointer (some ⟨T.bt, 0, none⟩)] w fun e w' => e = .returned (.iface 63 (.pointer (some ⟨o.b, 0, none⟩))) ∧
      TurnsAt w' { T with L := L, tail := o.val :: T.tail } ∧ Only T.fp w w' ∧ Blk w' o.b (o.cells L.length) 65 := pop_calls h hL

set_option maxRecDepth 100000 in
set_option maxHeartbeats 1000000 in
theorem hremove_calls {w : World} {T : Turns} {i : Nat} {x : Int} {L : List One} {o : One} (h : TurnsAt w T) (hi : i < T.L.length) (hx : x = i) (hL : remL T.L i = L ++ [o]) :
    Calls Tryd.prog 32 #[.iface 57 (.pointer (some ⟨T.bt, 0, none⟩)), .int .i64 x] w fun e w' => e = .returned (.iface 63 (.pointer (some ⟨o.b, 0, none⟩))) ∧
      TurnsAt w' { T with L := L, tail := o.val :: T.tail } ∧ Only T.fp w w' ∧ Blk w' o.b (o.cells L.length) 65 := by
  have HT := Lib.hid h
  have HL := Lib.hid hL
  have hl8 := h.len
  clear h hL
  subst hx
  by_cases h1 : T.L.length - 1 = i
  · have e : remL T.L i = T.L := by unfold remL; rw [if_pos h1]
    have HE := Lib.hid (e.symm.trans HL.out)
    have hne : ((T.L.length : Int) - 1 != (i : Int)) = false := by rw [bne_eq_false_iff_eq]; omega
    clear e HL h1
    go_enter Tryd.func32, Tryd.ntmps32
    go_wp2_with (first
    | ((go_at_call 35; refine (lenI HT.out).mono ?_; rintro e w' ⟨rfl, rfl⟩))
    | ((go_at_call 87; refine (popI HT.out HE.out).mono ?_; rintro e w2 ⟨rfl, hT2, ho2, hb2⟩))
    | ((with_reducible refine Reg.wp_region_text ?_ ?_ ?_); (kernel_rfl); (kernel_rfl))
    | ((with_reducible refine Reg.text_nil ?_))
    | ((with_reducible refine Reg.text_plain ?_ ?_); (rfl); (intro K hK))
    | ((with_reducible apply Reg.text_nilCheck); (rfl); (intro K hK))
    | ((with_reducible apply Reg.text_bin); (rfl); (rfl); (intro K hK))
    | ((with_reducible refine Reg.text_loud ?_ ?_); (rfl); (intro K hK))
    | ((with_reducible refine Reg.text_skipG ?_ ?_); (rfl); (intro K hK)))
    go_ret
    exact ⟨rfl, hT2, ho2, hb2⟩
  · have hil : i < T.L.length - 1 := by omega
    have hne : ((T.L.length : Int) - 1 != (i : Int)) = true := by rw [bne_iff_ne]; omega
    obtain ⟨n, hn⟩ : ∃ n, n = T.L.length - 1 := ⟨_, rfl⟩
    have hn1 : T.L.length ≤ n + 1 := by omega
    have hn2 : n + 1 ≤ T.L.length := by omega
    have HN := Lib.hid hn
    have hin : i < n := by omega
    clear hn hil
    obtain ⟨b, hb⟩ : ∃ b, decide (i < (downL n (swp T.L i n) i n).1) = b := ⟨_, rfl⟩
    have HB := Lib.hid hb
    clear hb
    have HF := Lib.hid (fun b => (fp_perm (T := { T with L := swp T.L i n }) (downL_perm n (swp T.L i n) i n) b).trans (fp_swp T i n b))
    have l2 : (swp T.L i n).length = T.L.length := swp_length _ _ _
    have HL2 := Lib.hid l2
    clear l2
    cases b with
    | true =>
      have e : remL T.L i = (downL n (swp T.L i n) i n).2 := by unfold remL; rw [if_neg h1, ← HN.out, if_pos (of_decide_eq_true HB.out)]
      have HE := Lib.hid (e.symm.trans HL.out)
      clear e HL h1
      go_enter Tryd.func32, Tryd.ntmps32
      go_wp2_with (first
    | ((go_at_call 35; refine (lenI HT.out).mono ?_; rintro e w' ⟨rfl, rfl⟩))
    | ((go_at_call 89; refine (swap_callsI (i := i) (k := n) HT.out hi ?_ ?_ rfl ?_).mono ?_; (omega); (omega); (omega); rintro e w2 ⟨rfl, hT2, ho2⟩))
    | ((go_at_call 41; refine (downB (i0 := i) (n := n) hT2 ?_ ?_ HB.out rfl ?_).mono ?_; (rw [HL2.out]; exact hi); (rw [HL2.out]; omega); (omega); rintro e w3 ⟨rfl, hT3, ho3⟩))
    | ((go_at_call 87; refine (popI hT3 HE.out).mono ?_; rintro e w4 ⟨rfl, hT4, ho4, hb4⟩))
    | ((with_reducible refine Reg.wp_region_text ?_ ?_ ?_); (kernel_rfl); (kernel_rfl))
    | ((with_reducible refine Reg.text_nil ?_))
    | ((with_reducible refine Reg.text_plain ?_ ?_); (rfl); (intro K hK))
    | ((with_reducible apply Reg.text_nilCheck); (rfl); (intro K hK))
    | ((with_reducible apply Reg.text_bin); (rfl); (rfl); (intro K hK))
    | ((with_reducible refine Reg.text_loud ?_ ?_); (rfl); (intro K hK))
    | ((with_reducible refine Reg.text_skipG ?_ ?_); (rfl); (intro K hK)))
      go_ret
      exact ⟨rfl, hT4, (ho2.trans ho3 (fun b _ hf => (fp_swp T i n b).1 hf)).trans ho4 (fun b _ hf => (HF.out b).1 hf), hb4⟩
    | false =>
      have e : remL T.L i = upL i (downL n (swp T.L i n) i n).2 i := by unfold remL; rw [if_neg h1, ← HN.out, if_neg (of_decide_eq_false HB.out)]
      have HE := Lib.hid (e.symm.trans HL.out)
      have HF2 := Lib.hid (fun b => (fp_perm (T := { T with L := (downL n (swp T.L i n) i n).2 }) (upL_perm i (downL n (swp T.L i n) i n).2 i) b).trans (HF.out b))
      clear e HL h1
      go_enter Tryd.func32, Tryd.ntmps32
      go_wp2_with (first
    | ((go_at_call 35; refine (lenI HT.out).mono ?_; rintro e w' ⟨rfl, rfl⟩))
    | ((go_at_call 89; refine (swap_callsI (i := i) (k := n) HT.out hi ?_ ?_ rfl ?_).mono ?_; (omega); (omega); (omega); rintro e w2 ⟨rfl, hT2, ho2⟩))
    | ((go_at_call 41; refine (downB (i0 := i) (n := n) hT2 ?_ ?_ HB.out rfl ?_).mono ?_; (rw [HL2.out]; exact hi); (rw [HL2.out]; omega); (omega); rintro e w3 ⟨rfl, hT3, ho3⟩))
    | ((go_at_call 40; refine (up_calls (j0 := i) hT3 ?_ rfl).mono ?_; (rw [downL_length, HL2.out]; exact hi); rintro e w3b ⟨rfl, hT3b, ho3b⟩))
    | ((go_at_call 87; refine (popI hT3b HE.out).mono ?_; rintro e w4 ⟨rfl, hT4, ho4, hb4⟩))
    | ((with_reducible refine Reg.wp_region_text ?_ ?_ ?_); (kernel_rfl); (kernel_rfl))
    | ((with_reducible refine Reg.text_nil ?_))
    | ((with_reducible refine Reg.text_plain ?_ ?_); (rfl); (intro K hK))
    | ((with_reducible apply Reg.text_nilCheck); (rfl); (intro K hK))
    | ((with_reducible apply Reg.text_bin); (rfl); (rfl); (intro K hK))
    | ((with_reducible refine Reg.text_loud ?_ ?_); (rfl); (intro K hK))
    | ((with_reducible refine Reg.text_skipG ?_ ?_); (rfl); (intro K hK)))
      go_ret
      exact ⟨rfl, hT4, ((ho2.trans ho3 (fun b _ hf => (fp_swp T i n b).1 hf)).trans ho3b (fun b _ hf => (HF.out b).1 hf)).trans ho4 (fun b _ hf => (HF2.out b).1 hf), hb4⟩
end Go.Proofs.YtjchfkpcglpgdaaDoor
