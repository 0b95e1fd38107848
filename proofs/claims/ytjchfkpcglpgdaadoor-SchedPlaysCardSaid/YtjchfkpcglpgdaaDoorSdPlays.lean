/-
  SchedPlays returns true, for all its arguments, whatever memory holds beside the listed error variables, which read as the program's text lays them; its arguments are as they were. Condition: the row's list, which the card ties.
-/
import Derived.Test.YtjchfkpcglpgdaaDoorSdPl
import Derived.Test.YtjchfkpcglpgdaaDoorSdW
set_option linter.unusedSimpArgs false
set_option linter.unusedVariables false
namespace Go.Proofs.YtjchfkpcglpgdaaDoor.lawPlays
open Go.ChangeShapes Go.WideShapes Go.ChangeAt Go.RowKit Go.Hp

theorem sents {W : World} (h : laidMetH Tryd.prog Rows.schedPlaysRow.laid W) : ∃ ads, Sents W ads :=
  errs_of_row Rows.schedPlaysRow.laid sentG h (by kernel_rfl) (by kernel_rfl) (by intro g hg; simp only [sentG, List.mem_cons, List.not_mem_nil, or_false] at hg; rcases hg with rfl | rfl | rfl | rfl | rfl | rfl | rfl | rfl | rfl | rfl | rfl | rfl | rfl | rfl | rfl | rfl <;> kernel_rfl)

set_option maxRecDepth 100000 in
theorem core (H : Type) (enc : TypeId × Value → H) (W : World) (base : Nat) (v0 : Value) (d0 : DataW H) (p0 : List MemPlace) (hL : laidMetH Tryd.prog Rows.schedPlaysRow.laid W)
    (o0 : Value.okWide Tryd.prog W .any base 43 v0)
    (h0 : DataW.Trod enc Tryd.prog W 0 (fun _ => true) true 43 v0 d0 p0) :
    Calls Tryd.prog 7 #[v0] W fun e w' => e = .returned (.bool true) ∧ Ext W w' := by
  obtain ⟨l, hl, hm⟩ := rows_arg Tryd.underlying43 Tryd.underlying49 (by kernel_rfl) (fun j f hj => by
    match j, hj with
    | 0, hj => obtain rfl := Option.some.inj hj; exact ⟨rfl, by kernel_rfl, Tryd.underlying3⟩
    | 1, hj => obtain rfl := Option.some.inj hj; exact ⟨rfl, by kernel_rfl, Tryd.underlying3⟩
    | 2, hj => obtain rfl := Option.some.inj hj; exact ⟨rfl, by kernel_rfl, Tryd.underlying3⟩
    | 3, hj => obtain rfl := Option.some.inj hj; exact ⟨rfl, by kernel_rfl, Tryd.underlying2⟩
    | n + 4, hj => simp at hj) (by decide) o0 h0
  obtain ⟨ads, hs⟩ := sents hL
  obtain ⟨ao, cap, rfl, hx⟩ := id hl
  exact plays_core hs hl rfl

set_option maxRecDepth 100000 in
theorem contract (H : Type) (enc : TypeId × Value → H) (W : World) (base : Nat) (args : Array Value) (ds gs : List (DataW H)) (before : List MemPlace)
    (hval : ∀ (j : Nat) t v, Tryd.f7.params[j]? = some t → args[j]? = some v → Value.okWide Tryd.prog W .any base t v)
    (hW : DataW.Whole enc Tryd.prog Tryd.f7.params.toList Rows.schedPlaysSpec.vars false W args.toList ds gs before) (hL : laidMetH Tryd.prog Rows.schedPlaysRow.laid W) :
    Calls Tryd.prog 7 args W fun e W' => ∃ v, e = .returned v ∧ Rows.schedPlaysSpec.post enc Tryd.prog Tryd.f7 false true false false W args v W' := by
  have hW' := hW
  obtain ⟨p, q, hA0, hV, rfl, hfz, hnd⟩ := hW
  have hA : DataW.TrodAll enc Tryd.prog W 0 (fun _ => true) true Tryd.f7.params.toList args.toList ds p := hA0
  rw [Tryd.params7] at hA hval
  obtain ⟨v0, vs0, d0, ds0, p0, q0, a0, rfl, rfl, h0, r0⟩ := trodAll_cons hA
  obtain ⟨rfl, rfl, rfl⟩ := trodAll_nil r0
  obtain rfl : args = #[v0] := by cases args; simp_all
  obtain ⟨rfl, rfl⟩ := trodVars_none hV
  refine (core H enc W base v0 d0 p0 hL (hval 0 43 v0 rfl rfl) h0).mono fun e W2 he => ?_
  exact ⟨_, he.1, law_post laidOut hW' rfl rfl (fun t ht => by
    rw [Tryd.params7] at ht
    simp only [List.mem_cons, List.not_mem_nil, or_false] at ht
    subst ht; exact ⟨by kernel_rfl, of_decide_eq_true (by kernel_rfl)⟩) (by kernel_rfl) Tryd.underlying4 he.2⟩

theorem laid_met (os : Os) : laidMet Tryd.prog Rows.schedPlaysRow.laid ((World.doorLaid Tryd.prog 313 os).forCall (fun _ _ => 0) ⟨#[], #[.slice none 0 0], []⟩).memory :=
  laidMet_of_run' 8 (by kernel_rfl) (by kernel_rfl)
theorem reads (os : Os) {H : Type} (enc : TypeId × Value → H) : ∃ places, DataW.whole enc Tryd.prog ((World.doorLaid Tryd.prog 313 os).forCall (fun _ _ => 0) ⟨#[], #[.slice none 0 0], []⟩).memory Tryd.f7.params.toList Rows.schedPlaysSpec.vars false (#[.slice none 0 0] : Array Value).toList 8 = some ([.nil], [], places) :=
  ⟨[], by kernel_rfl⟩

set_option maxRecDepth 100000 in
theorem lifted (os : Os) (started : os.Started) (H : Type) (enc : TypeId × Value → H) (F : Stop.Interp) :
    ReturnsInHanded {} Tryd.checked os 7 .any ((OpenSpec.ofChange Rows.schedPlaysSpec).preRow enc Tryd.prog Tryd.f7 Rows.schedPlaysRow.domain false Rows.schedPlaysRow.laid) (((OpenSpec.ofChange Rows.schedPlaysSpec).at F).post enc Tryd.prog Tryd.f7 false true false false) := by
  obtain ⟨places, hx⟩ := reads os enc
  refine returnsInHanded_of_row (C := Tryd.checked) (s := OpenSpec.ofChange Rows.schedPlaysSpec) own_knob started (by kernel_rfl) Tryd.func7
    (witness_row_atRef (enc := enc) (C := Tryd.checked) false (World.doorLaid Tryd.prog 313 os) #[.slice none 0 0] rfl (by kernel_rfl) (by kernel_rfl) (by kernel_rfl)
      (OpenSpec.preRow_of_cond 8 hx (by kernel_rfl) (fun k hk => by cases hk) (by kernel_rfl) (laid_met os))) ?_
  intro W base args ds gs before hval hW _ _ _ hL _ _
  exact contract H enc W base args ds gs before hval hW hL

theorem said : Rows.SchedPlaysSaid :=
  OpenClaim.holds_of_cond 7 Tryd.f7 rfl rfl rfl rfl rfl rfl rfl ⟨rfl, rfl, rfl, rfl, rfl⟩ rfl rfl rfl rfl rfl (by kernel_rfl) Tryd.func7 (by kernel_rfl)
    (of_decide_eq_true (by kernel_rfl)) (by unfold Func.isWrapper; first | (rw [if_pos (by decide +kernel)]; kernel_rfl) | (rw [if_neg (by decide +kernel)]; exact ⟨rfl, rfl⟩))
    (fun os started H enc _ F => by rw [OpenClaim.pre_eq_preRow]; exact lifted os started H enc F)

theorem plain (f : FuncId) (fn : Func) (hf : Tryd.pinned.checked.prog.funcNamed "facade/facadelaw24.SchedPlays" = some f) (hfn : Tryd.pinned.checked.prog.funcs[f]? = some fn) :
    true = Tryd.pinned.checked.prog.looks [] ∧ ∀ (j : Nat) t, fn.params[j]? = some t → Tryd.pinned.checked.prog.wantsStandIn t = false := by
  obtain rfl : f = 7 := Option.some.inj ((show Tryd.prog.funcNamed "facade/facadelaw24.SchedPlays" = some 7 by kernel_rfl).symm.trans hf) |>.symm
  obtain rfl : fn = Tryd.f7 := (Option.some.inj (Tryd.func7.symm.trans hfn)).symm
  refine ⟨by kernel_rfl, fun j t ht => ?_⟩
  rw [Tryd.params7] at ht
  have hm : t ∈ [43] := by simpa using Array.mem_of_getElem? ht
  simp only [List.mem_cons, List.not_mem_nil, or_false] at hm
  subst hm
  · exact (show Tryd.prog.wantsStandIn 43 = false by kernel_rfl)

theorem card : Rows.SchedPlaysCardSaid :=
  Claim7.holds_tied_plain_at .later [] _ _ _ _ said (fun _ h => by cases h) (by kernel_rfl) (fun _ h => by cases h) schedPlays_row_tie rfl ⟨rfl, rfl⟩ (by kernel_rfl) rfl plain (by kernel_rfl)
end Go.Proofs.YtjchfkpcglpgdaaDoor.lawPlays
