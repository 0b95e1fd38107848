/-
  facaderef's Put.
-/
import Derived.Test.YtjchfkpcglpgdaaDoorSdRi
set_option linter.unusedSimpArgs false
set_option linter.unusedVariables false
namespace Go.Proofs.YtjchfkpcglpgdaaDoor
open Go.RowKit Go.Hp

/-- The list with one more, in its place. -/
def PutPost (w : World) (l : List Int) (n : Int) (e : Ending) (w' : World) : Prop := ∃ l', l'.Pairwise (· < ·) ∧ l'.Perm (n :: l) ∧ NewInts w l' e w'

theorem put_plain {l : List Int} {n : Int} {k : Nat} (hs : l.Pairwise (· < ·)) (hlo : ∀ x ∈ l.take k, x < n) (hhi : ∀ x ∈ l.drop k, n < x) : (l.take k ++ [n] ++ l.drop k).Pairwise (· < ·) ∧ (l.take k ++ [n] ++ l.drop k).Perm (n :: l) := by
  have hs2 := hs
  rw [← List.take_append_drop k l, List.pairwise_append] at hs2
  refine ⟨?_, ?_⟩
  · rw [List.append_assoc, List.pairwise_append]
    refine ⟨hs2.1, ?_, fun a ha b hb => ?_⟩
    · rw [List.singleton_append, List.pairwise_cons]
      exact ⟨hhi, hs2.2.1⟩
    · rcases List.mem_append.1 hb with hb | hb
      · simp at hb; subst hb; exact hlo a ha
      · have := hlo a ha; have := hhi b hb; omega
  · rw [List.append_assoc, List.singleton_append]
    refine List.perm_middle.trans ?_
    rw [List.take_append_drop]

theorem drop_gt {l : List Int} {n : Int} {k : Nat} {x : Int} (hs : l.Pairwise (· < ·)) (hk : l[k]? = some x) (hx : n < x) : ∀ y ∈ l.drop k, n < y := by
  have hkl : k < l.length := (List.getElem?_eq_some_iff.1 hk).1
  have e : l.drop k = x :: l.drop (k + 1) := by
    rw [List.drop_eq_getElem_cons hkl, (List.getElem?_eq_some_iff.1 hk).2]
  intro y hy
  have hp : (l.drop k).Pairwise (· < ·) := hs.sublist (List.drop_sublist k l)
  rw [e] at hy hp
  rcases List.mem_cons.1 hy with rfl | hy
  · exact hx
  · have := (List.pairwise_cons.1 hp).1 y hy
    omega

set_option maxRecDepth 100000 in
set_option maxHeartbeats 4000000 in
theorem put_nil {w : World} (n : Int) : Calls Tryd.prog 39 #[.slice none 0 0, .int .i64 n] w (PutPost w [] n) := by
  have hic : ∀ w : World, Calls Tryd.prog 46 #[.slice none 0 0] w (NewInts w []) := fun w => intsCopy_calls (w := w) (v := .slice none 0 0) (l := []) ⟨none, 0, rfl, .inl rfl⟩ (by simp)
  have HIC := Lib.hid hic
  clear hic
  go_enter Tryd.func39, Tryd.ntmps39
  go_wp2
  go_loop [5] (fun i => i = .int .i64 0) (fun _ => 0)
  case atStart => rfl
  case round =>
    subst hrel
    go_wp2_with (first
    | ((go_at_call 46; refine (HIC.out _).mono ?_; rintro e w1 ⟨v1, B1, rfl, ⟨arr, tail, hr, hB⟩, h2, h3⟩; obtain ⟨ao1, cap1, rfl⟩ := hr.val; have HR := Lib.hid (hr.of_only ((Only.refl (fun _ => False) w1).alloc (.cells #[.int .i64 n] 3)) (fun _ _ h => h)); have H3 := Lib.hid h3; have H2 : Hid (∀ g, arr = some g → w.heap.size ≤ g) := (fun g hg => h2 g (by rw [hB]; simp [hg])); clear hr h2 h3 hB))
    | ((at_builtin; refine wpList_append_row ty_ints rfl _ _ rfl rfl HR.out ⟨w1.heap.size, 0, none⟩ 1 1 [.int .i64 n] rfl rfl (by decide) ?_ ?_ ?_ ?_ ?_; (exact one_new _ _ _ (by simp)); (simp [Value.oneCell']); (unfold maxLen; simp); (simp)))
    | ((with_reducible refine Reg.wp_region_text ?_ ?_ ?_); (kernel_rfl); (kernel_rfl))
    | ((with_reducible refine Reg.text_nil ?_))
    | ((with_reducible refine Reg.text_plain ?_ ?_); (rfl); (intro K hK))
    | ((with_reducible apply Reg.text_nilCheck); (rfl); (intro K hK))
    | ((with_reducible apply Reg.text_bin); (rfl); (rfl); (intro K hK))
    | ((with_reducible refine Reg.text_loud ?_ ?_); (rfl); (intro K hK))
    | ((with_reducible refine Reg.text_skipG ?_ ?_); (rfl); (intro K hK)))
    intro g' cap' w4 tail' q1 q2 q4
    have HX4 : Hid (Ext w w4) := (H3.out.alloc _).trans q4 (fun b hb h => by have := H2.out b h; omega)
    have hge : w.heap.size ≤ g' := by
      rcases q2 with h | h
      · exact H2.out _ h
      · rw [h]; have := H3.out.size; simp; omega
    have HQ1 := Lib.hid q1
    clear q1 q2 q4 HR
    go_wp2_with (first
    | ((at_builtin; refine wpList_append_any ty_ints rfl _ _ rfl rfl HQ1.out _ 0 _ [] rfl rfl ?_ ?_ ?_ ?_ ?_; (exact fun h => absurd h (by decide)); (simp); (unfold maxLen; omega); (omega)))
    | ((with_reducible refine Reg.wp_region_text ?_ ?_ ?_); (kernel_rfl); (kernel_rfl))
    | ((with_reducible refine Reg.text_nil ?_))
    | ((with_reducible refine Reg.text_plain ?_ ?_); (rfl); (intro K hK))
    | ((with_reducible apply Reg.text_nilCheck); (rfl); (intro K hK))
    | ((with_reducible apply Reg.text_bin); (rfl); (rfl); (intro K hK))
    | ((with_reducible refine Reg.text_loud ?_ ?_); (rfl); (intro K hK))
    | ((with_reducible refine Reg.text_skipG ?_ ?_); (rfl); (intro K hK)))
    intro base2 cap2 w5 arr2 tail2 p1 p2 p4
    have HX5 : Hid (Ext w w5) := HX4.out.trans p4 (fun b hb h => by have h : some g' = some b := (by first | exact h | exact congrArg some h); have := Option.some.inj h; omega)
    have HA2 : Hid (∀ b ∈ arr2.toList, w.heap.size ≤ b) := fun b hb => by
      have hb : arr2 = some b := by simpa using hb
      rcases p2 with h | h
      · rw [h] at hb; injection hb with hb; omega
      · rw [h] at hb; injection hb with hb; have := HX4.out.size; omega
    have HP1 := Lib.hid p1
    clear p1 p2 p4
    go_wp2
    go_ret
    refine ⟨[n], List.pairwise_singleton _ _, .refl _, _, _, rfl, ⟨arr2, tail2, ?_, rfl⟩, HA2.out, HX5.out⟩
    simpa using HP1.out

set_option maxRecDepth 100000 in
set_option maxHeartbeats 4000000 in
theorem put_some {w : World} {l : List Int} {g cap m : Nat} {tail : List Value} (h : Row w 3 1 (.slice (some ⟨g, 0, none⟩) m cap) m (l.map (Value.int .i64)) (some g) tail) (hm : l.length = m) (hm8 : m ≤ 1000) (hs : l.Pairwise (· < ·)) (n : Int) (hn : n ∉ l) :
    Calls Tryd.prog 39 #[.slice (some ⟨g, 0, none⟩) m cap, .int .i64 n] w (PutPost w l n) := by
  have hcell : ∀ (i : Nat) (x : Int), l[i]? = some x → w.cell? ⟨g, i, none⟩ = some (.int .i64 x) := fun i x hi => h.cell (by simp [hi])
  have hcm : m ≤ cap := by
    obtain ⟨_, cap', e, _, _, _, h2⟩ := h
    simp only [Value.slice.injEq, true_and] at e
    omega
  have hcb : cap ≤ maxLen := by
    obtain ⟨_, cap', e, _, _, h2, _⟩ := h
    simp only [Value.slice.injEq, true_and] at e
    omega
  unfold maxLen at hcb
  have HCL := Lib.hid hcell
  have HM := Lib.hid hm
  have HSR := Lib.hid hs
  have HNN := Lib.hid hn
  clear h hcell hm hs hn
  go_enter Tryd.func39, Tryd.ntmps39
  go_wp2
  go_loop [5] (fun i => ∃ k : Nat, i = .int .i64 k ∧ k ≤ m ∧ Hid (∀ x ∈ l.take k, x < n)) (fun i => m - (intOf i).toNat)
  case atStart => exact ⟨0, rfl, by omega, by simp [Hid]⟩
  case round =>
    obtain ⟨k, rfl, hk, hlo⟩ := hrel
    have hic : ∀ w' : World, Ext w w' → Calls Tryd.prog 46 #[.slice (some ⟨g, 0, none⟩) k cap] w' (NewInts w' (l.take k)) := fun w' hx => by
      refine intsCopy_calls (w := w') ⟨some ⟨g, 0, none⟩, cap, ?_, .inr ⟨g, 0, rfl, fun i x hi => ?_⟩⟩ ?_
      · rw [List.length_take, HM.out, Nat.min_eq_left hk]
      · rw [Nat.zero_add]
        refine Hp.Ext.cell hx (HCL.out i x ?_)
        rw [List.getElem?_take] at hi
        split at hi
        · exact hi
        · cases hi
      · rw [List.length_take]; omega
    have HIC := Lib.hid hic
    have htl : (l.take k).length = k := by rw [List.length_take, HM.out]; omega
    have HTL := Lib.hid htl
    have hdl : ((l.drop k).map (Value.int .i64)).length = (m - k) * 1 := by rw [List.length_map, List.length_drop, HM.out]; omega
    have HDL := Lib.hid hdl
    clear hic htl hdl
    have key : k = m ∨ ∃ x, l[k]? = some x := by
      by_cases e : k = m
      · exact .inl e
      · exact .inr ⟨_, List.getElem?_eq_getElem (by rw [HM.out]; omega)⟩
    have HGO : Hid ((k = m ∨ ∃ x, l[k]? = some x ∧ n < x) → (l.take k ++ [n] ++ l.drop k).Pairwise (· < ·) ∧ (l.take k ++ [n] ++ l.drop k).Perm (n :: l)) := fun h => by
      refine put_plain HSR.out hlo.out ?_
      rcases h with h | ⟨x, h1, h2⟩
      · rw [List.drop_of_length_le (by rw [HM.out, h]; exact Nat.le_refl _)]; simp
      · exact drop_gt HSR.out h1 h2
    rcases key with rfl | ⟨x, hx⟩
    · have HGO2 := Lib.hid (HGO.out (.inl rfl))
      clear HGO hlo
      by_cases hcap : cap = k
      · subst hcap
        go_wp2_with (first
    | ((go_at_call 46; refine (HIC.out _ (Only.refl _ w)).mono ?_; rintro e w1 ⟨v1, B1, rfl, ⟨arr, tail1, hr, hB⟩, h2, h3⟩; obtain ⟨ao1, cap1, rfl⟩ := hr.val; rw [HTL.out] at hr; have HR := Lib.hid (hr.of_only ((Only.refl (fun _ => False) w1).alloc (.cells #[.int .i64 n] 3)) (fun _ _ h => h)); have H3 := Lib.hid h3; have H2 : Hid (∀ g, arr = some g → w.heap.size ≤ g) := (fun g hg => h2 g (by rw [hB]; simp [hg])); rw [HTL.out]; clear hr h2 h3 hB))
    | ((at_builtin; refine wpList_append_row ty_ints rfl _ _ rfl rfl HR.out ⟨w1.heap.size, 0, none⟩ 1 1 [.int .i64 n] rfl rfl (by decide) ?_ ?_ ?_ ?_ ?_; (exact one_new _ _ _ (by simp)); (simp [Value.oneCell']); (unfold maxLen; omega); (omega)))
    | ((with_reducible refine Reg.wp_region_text ?_ ?_ ?_); (kernel_rfl); (kernel_rfl))
    | ((with_reducible refine Reg.text_nil ?_))
    | ((with_reducible refine Reg.text_plain ?_ ?_); (rfl); (intro K hK))
    | ((with_reducible apply Reg.text_nilCheck); (rfl); (intro K hK))
    | ((with_reducible apply Reg.text_bin); (rfl); (rfl); (intro K hK))
    | ((with_reducible refine Reg.text_loud ?_ ?_); (rfl); (intro K hK))
    | ((with_reducible refine Reg.text_skipG ?_ ?_); (rfl); (intro K hK)))
        intro g' cap' w4 tail' q1 q2 q4
        have HX4 : Hid (Ext w w4) := (H3.out.alloc _).trans q4 (fun b hb h => by have := H2.out b h; omega)
        have hge : w.heap.size ≤ g' := by
          rcases q2 with h | h
          · exact H2.out _ h
          · rw [h]; have := H3.out.size; simp; omega
        have HQ1 := Lib.hid q1
        clear q1 q2 q4 HR
        go_wp2_with (first
    | ((at_builtin; refine wpList_append_any ty_ints rfl _ _ rfl rfl HQ1.out _ 0 _ [] rfl rfl ?_ ?_ ?_ ?_ ?_; (exact fun h => absurd h (by decide)); (simp); (unfold maxLen; omega); (omega)))
    | ((with_reducible refine Reg.wp_region_text ?_ ?_ ?_); (kernel_rfl); (kernel_rfl))
    | ((with_reducible refine Reg.text_nil ?_))
    | ((with_reducible refine Reg.text_plain ?_ ?_); (rfl); (intro K hK))
    | ((with_reducible apply Reg.text_nilCheck); (rfl); (intro K hK))
    | ((with_reducible apply Reg.text_bin); (rfl); (rfl); (intro K hK))
    | ((with_reducible refine Reg.text_loud ?_ ?_); (rfl); (intro K hK))
    | ((with_reducible refine Reg.text_skipG ?_ ?_); (rfl); (intro K hK)))
        intro base2 cap2 w5 arr2 tail2 p1 p2 p4
        have HX5 : Hid (Ext w w5) := HX4.out.trans p4 (fun b hb h => by have h : some g' = some b := (by first | exact h | exact congrArg some h); have := Option.some.inj h; omega)
        have HA2 : Hid (∀ b ∈ arr2.toList, w.heap.size ≤ b) := fun b hb => by
          have hb : arr2 = some b := by simpa using hb
          rcases p2 with h | h
          · rw [h] at hb; injection hb with hb; omega
          · rw [h] at hb; injection hb with hb; have := HX4.out.size; omega
        have HP1 := Lib.hid p1
        clear p1 p2 p4
        go_wp2
        go_ret
        refine ⟨l.take cap ++ [n] ++ l.drop cap, HGO2.out.1, HGO2.out.2, (.slice base2 (cap + 1 + 0) cap2), _, rfl, ⟨arr2, tail2, ?_, rfl⟩, HA2.out, HX5.out⟩
        have hd : l.drop cap = [] := List.drop_of_length_le (by rw [HM.out]; exact Nat.le_refl _)
        rw [hd, List.append_nil, show (l.take cap ++ [n]).length = cap + 1 by rw [List.length_append, HTL.out]; rfl, List.map_append]
        simpa using HP1.out
      · go_wp2_with (first
    | ((go_at_call 46; refine (HIC.out _ (Only.refl _ w)).mono ?_; rintro e w1 ⟨v1, B1, rfl, ⟨arr, tail1, hr, hB⟩, h2, h3⟩; obtain ⟨ao1, cap1, rfl⟩ := hr.val; rw [HTL.out] at hr; have HR := Lib.hid (hr.of_only ((Only.refl (fun _ => False) w1).alloc (.cells #[.int .i64 n] 3)) (fun _ _ h => h)); have H3 := Lib.hid h3; have H2 : Hid (∀ g, arr = some g → w.heap.size ≤ g) := (fun g hg => h2 g (by rw [hB]; simp [hg])); rw [HTL.out]; clear hr h2 h3 hB))
    | ((at_builtin; refine wpList_append_row ty_ints rfl _ _ rfl rfl HR.out ⟨w1.heap.size, 0, none⟩ 1 1 [.int .i64 n] rfl rfl (by decide) ?_ ?_ ?_ ?_ ?_; (exact one_new _ _ _ (by simp)); (simp [Value.oneCell']); (unfold maxLen; omega); (omega)))
    | ((with_reducible refine Reg.wp_region_text ?_ ?_ ?_); (kernel_rfl); (kernel_rfl))
    | ((with_reducible refine Reg.text_nil ?_))
    | ((with_reducible refine Reg.text_plain ?_ ?_); (rfl); (intro K hK))
    | ((with_reducible apply Reg.text_nilCheck); (rfl); (intro K hK))
    | ((with_reducible apply Reg.text_bin); (rfl); (rfl); (intro K hK))
    | ((with_reducible refine Reg.text_loud ?_ ?_); (rfl); (intro K hK))
    | ((with_reducible refine Reg.text_skipG ?_ ?_); (rfl); (intro K hK)))
        intro g' cap' w4 tail' q1 q2 q4
        have HX4 : Hid (Ext w w4) := (H3.out.alloc _).trans q4 (fun b hb h => by have := H2.out b h; omega)
        have hge : w.heap.size ≤ g' := by
          rcases q2 with h | h
          · exact H2.out _ h
          · rw [h]; have := H3.out.size; simp; omega
        have HQ1 := Lib.hid q1
        clear q1 q2 q4 HR
        go_wp2_with (first
    | ((at_builtin; refine wpList_append_any ty_ints rfl _ _ rfl rfl HQ1.out _ 0 _ [] rfl rfl ?_ ?_ ?_ ?_ ?_; (exact fun h => absurd h (by decide)); (simp); (unfold maxLen; omega); (omega)))
    | ((with_reducible refine Reg.wp_region_text ?_ ?_ ?_); (kernel_rfl); (kernel_rfl))
    | ((with_reducible refine Reg.text_nil ?_))
    | ((with_reducible refine Reg.text_plain ?_ ?_); (rfl); (intro K hK))
    | ((with_reducible apply Reg.text_nilCheck); (rfl); (intro K hK))
    | ((with_reducible apply Reg.text_bin); (rfl); (rfl); (intro K hK))
    | ((with_reducible refine Reg.text_loud ?_ ?_); (rfl); (intro K hK))
    | ((with_reducible refine Reg.text_skipG ?_ ?_); (rfl); (intro K hK)))
        intro base2 cap2 w5 arr2 tail2 p1 p2 p4
        have HX5 : Hid (Ext w w5) := HX4.out.trans p4 (fun b hb h => by have h : some g' = some b := (by first | exact h | exact congrArg some h); have := Option.some.inj h; omega)
        have HA2 : Hid (∀ b ∈ arr2.toList, w.heap.size ≤ b) := fun b hb => by
          have hb : arr2 = some b := by simpa using hb
          rcases p2 with h | h
          · rw [h] at hb; injection hb with hb; omega
          · rw [h] at hb; injection hb with hb; have := HX4.out.size; omega
        have HP1 := Lib.hid p1
        clear p1 p2 p4
        go_wp2
        go_ret
        refine ⟨l.take k ++ [n] ++ l.drop k, HGO2.out.1, HGO2.out.2, (.slice base2 (k + 1 + 0) cap2), _, rfl, ⟨arr2, tail2, ?_, rfl⟩, HA2.out, HX5.out⟩
        have hd : l.drop k = [] := List.drop_of_length_le (by rw [HM.out]; exact Nat.le_refl _)
        rw [hd, List.append_nil, show (l.take k ++ [n]).length = k + 1 by rw [List.length_append, HTL.out]; rfl, List.map_append]
        simpa using HP1.out
    · have hkm : k < m := by rw [← HM.out]; exact (List.getElem?_eq_some_iff.1 hx).1
      have c0 := HCL.out k x hx
      have hxn : x ≠ n := fun e => HNN.out (by rw [← e]; exact List.mem_of_getElem? hx)
      have HXK := Lib.hid hx
      by_cases hlt : x < n
      · have HLO : Hid (∀ y ∈ l.take (k + 1), y < n) := fun y hy => by
          rw [take_snoc' hx] at hy
          rcases List.mem_append.1 hy with hy | hy
          · exact hlo.out y hy
          · simp at hy; omega
        clear hx HGO
        go_wp2
        go_round
        case rel => exact ⟨k + 1, by simp, by omega, HLO⟩
        case measure => simp [intOf]; omega
      · have HGO2 := Lib.hid (HGO.out (.inr ⟨x, hx, by omega⟩))
        have hne : (x == n) = false := by simpa using hxn
        have hcap : ¬ cap = k := by omega
        clear HGO hlo hx
        go_wp2_with (first
    | ((go_at_call 46; refine (HIC.out _ (Only.refl _ w)).mono ?_; rintro e w1 ⟨v1, B1, rfl, ⟨arr, tail1, hr, hB⟩, h2, h3⟩; obtain ⟨ao1, cap1, rfl⟩ := hr.val; rw [HTL.out] at hr; have HR := Lib.hid (hr.of_only ((Only.refl (fun _ => False) w1).alloc (.cells #[.int .i64 n] 3)) (fun _ _ h => h)); have H3 := Lib.hid h3; have H2 : Hid (∀ g, arr = some g → w.heap.size ≤ g) := (fun g hg => h2 g (by rw [hB]; simp [hg])); rw [HTL.out]; clear hr h2 h3 hB))
    | ((at_builtin; refine wpList_append_row ty_ints rfl _ _ rfl rfl HR.out ⟨w1.heap.size, 0, none⟩ 1 1 [.int .i64 n] rfl rfl (by decide) ?_ ?_ ?_ ?_ ?_; (exact one_new _ _ _ (by simp)); (simp [Value.oneCell']); (unfold maxLen; omega); (omega)))
    | ((with_reducible refine Reg.wp_region_text ?_ ?_ ?_); (kernel_rfl); (kernel_rfl))
    | ((with_reducible refine Reg.text_nil ?_))
    | ((with_reducible refine Reg.text_plain ?_ ?_); (rfl); (intro K hK))
    | ((with_reducible apply Reg.text_nilCheck); (rfl); (intro K hK))
    | ((with_reducible apply Reg.text_bin); (rfl); (rfl); (intro K hK))
    | ((with_reducible refine Reg.text_loud ?_ ?_); (rfl); (intro K hK))
    | ((with_reducible refine Reg.text_skipG ?_ ?_); (rfl); (intro K hK)))
        intro g' cap' w4 tail' q1 q2 q4
        have HX4 : Hid (Ext w w4) := (H3.out.alloc _).trans q4 (fun b hb h => by have := H2.out b h; omega)
        have hge : w.heap.size ≤ g' := by
          rcases q2 with h | h
          · exact H2.out _ h
          · rw [h]; have := H3.out.size; simp; omega
        have HQ1 := Lib.hid q1
        clear q1 q2 q4 HR
        go_wp2_with (first
    | ((at_builtin; refine wpList_append_any ty_ints rfl _ _ rfl rfl HQ1.out _ (m - k) _ ((l.drop k).map (Value.int .i64)) rfl HDL.out ?_ ?_ ?_ ?_ ?_; (first | (exact fun h => absurd h (by omega)) | (exact fun _ => ⟨_, rfl, fun j u hu => by
          rw [add_off]
          rw [List.getElem?_map, List.getElem?_drop] at hu
          obtain ⟨y, hy, rfl⟩ := Option.map_eq_some_iff.1 hu
          exact Hp.Ext.cell HX4.out (HCL.out _ y hy)⟩)); (intro u hu; obtain ⟨y, _, rfl⟩ := List.mem_map.1 hu; rfl); (unfold maxLen; omega); (omega)))
    | ((with_reducible refine Reg.wp_region_text ?_ ?_ ?_); (kernel_rfl); (kernel_rfl))
    | ((with_reducible refine Reg.text_nil ?_))
    | ((with_reducible refine Reg.text_plain ?_ ?_); (rfl); (intro K hK))
    | ((with_reducible apply Reg.text_nilCheck); (rfl); (intro K hK))
    | ((with_reducible apply Reg.text_bin); (rfl); (rfl); (intro K hK))
    | ((with_reducible refine Reg.text_loud ?_ ?_); (rfl); (intro K hK))
    | ((with_reducible refine Reg.text_skipG ?_ ?_); (rfl); (intro K hK)))
        intro base2 cap2 w5 arr2 tail2 p1 p2 p4
        have HX5 : Hid (Ext w w5) := HX4.out.trans p4 (fun b hb h => by have h : some g' = some b := (by first | exact h | exact congrArg some h); have := Option.some.inj h; omega)
        have HA2 : Hid (∀ b ∈ arr2.toList, w.heap.size ≤ b) := fun b hb => by
          have hb : arr2 = some b := by simpa using hb
          rcases p2 with h | h
          · rw [h] at hb; injection hb with hb; omega
          · rw [h] at hb; injection hb with hb; have := HX4.out.size; omega
        have HP1 := Lib.hid p1
        clear p1 p2 p4
        go_wp2
        go_ret
        refine ⟨l.take k ++ [n] ++ l.drop k, HGO2.out.1, HGO2.out.2, (.slice base2 (k + 1 + (m - k)) cap2), _, rfl, ⟨arr2, tail2, ?_, rfl⟩, HA2.out, HX5.out⟩
        rw [show (l.take k ++ [n] ++ l.drop k).length = k + 1 + (m - k) by rw [List.length_append, List.length_append, HTL.out, List.length_drop, HM.out]; rfl, List.map_append, List.map_append]
        simpa using HP1.out
end Go.Proofs.YtjchfkpcglpgdaaDoor
