/-
  The document's scheduler in memory: Del.
-/
import Derived.Test.YtjchfkpcglpgdaaDoorSdZ
import Derived.Test.YtjchfkpcglpgdaaDoorAp
set_option linter.unusedSimpArgs false
set_option linter.unusedVariables false
namespace Go.Proofs.YtjchfkpcglpgdaaDoor
open Go.RowKit Go.Hp

set_option maxRecDepth 100000 in
set_option maxHeartbeats 1000000 in
theorem ddel_none {w : World} {b : Nat} {l : List Rec} {B : List Nat} (h : (docS b l).at_ w B) (hl : l.length ≤ 8) {id : Int} (hk : findI l id = none) :
    Calls Tryd.prog 23 #[.pointer (some ⟨b, 0, none⟩), .int .i64 id] w fun e w' => e = .returned (.int .i64 107) ∧ w = w' := by
  have HF := Lib.hid (find_none h hl hk)
  clear h hk hl
  go_enter Tryd.func23, Tryd.ntmps23
  go_wp2_with (first
    | ((go_at_call 38; refine HF.out.mono ?_; rintro e w1 ⟨rfl, rfl⟩))
    | ((with_reducible refine Reg.wp_region_text ?_ ?_ ?_); (kernel_rfl); (kernel_rfl))
    | ((with_reducible refine Reg.text_nil ?_))
    | ((with_reducible refine Reg.text_plain ?_ ?_); (rfl); (intro K hK))
    | ((with_reducible apply Reg.text_nilCheck); (rfl); (intro K hK))
    | ((with_reducible apply Reg.text_bin); (rfl); (rfl); (intro K hK))
    | ((with_reducible refine Reg.text_loud ?_ ?_); (rfl); (intro K hK))
    | ((with_reducible refine Reg.text_skipG ?_ ?_); (rfl); (intro K hK)))
  go_ret
  exact ⟨rfl, rfl⟩

theorem erase_filter {l : List Rec} {k : Nat} {r : Rec} {id : Int} (hn : (l.map (·.id)).Nodup) (hk : l[k]? = some r) (hr : r.id = id) : l.take k ++ l.drop (k + 1) = l.filter fun x => x.id ≠ id := by
  have hkl : k < l.length := (List.getElem?_eq_some_iff.1 hk).1
  have e : l = l.take k ++ r :: l.drop (k + 1) := by
    rw [← (List.getElem?_eq_some_iff.1 hk).2, List.getElem_cons_drop, List.take_append_drop]
  have hn2 := hn
  rw [e, List.map_append, List.map_cons] at hn2
  have hnd := List.nodup_append.1 hn2
  have h1 : ∀ x ∈ l.take k, x.id ≠ id := fun x hx q => hnd.2.2 x.id (List.mem_map.2 ⟨x, hx, rfl⟩) r.id (by simp) (by rw [q, hr])
  have h2 : ∀ x ∈ l.drop (k + 1), x.id ≠ id := fun x hx q => by
    have := (List.nodup_cons.1 hnd.2.1).1
    exact this (List.mem_map.2 ⟨x, hx, by rw [q, hr]⟩)
  conv => rhs; rw [e]
  rw [List.filter_append, List.filter_cons, List.filter_eq_self.2 (fun x hx => by simpa using h1 x hx), List.filter_eq_self.2 (fun x hx => by simpa using h2 x hx)]
  simp [hr]

theorem tflat_take (l : List Rec) (k : Nat) {j : Nat} {u : Value} (h : (tflat (l.take k))[j]? = some u) : (tflat l)[j]? = some u := by
  have e : tflat l = tflat (l.take k) ++ tflat (l.drop k) := by rw [← tflat_append, List.take_append_drop]
  rw [e, List.getElem?_append_left (List.getElem?_eq_some_iff.1 h).1, h]
theorem tflat_drop (l : List Rec) {k : Nat} (hk : k ≤ l.length) {j : Nat} {u : Value} (h : (tflat (l.drop k))[j]? = some u) : (tflat l)[k * 5 + j]? = some u := by
  have e : tflat l = tflat (l.take k) ++ tflat (l.drop k) := by rw [← tflat_append, List.take_append_drop]
  have hl : (tflat (l.take k)).length = k * 5 := by rw [tflat_len, List.length_take, Nat.min_eq_left hk]
  rw [e, List.getElem?_append_right (by omega), hl]
  rw [show k * 5 + j - k * 5 = j by omega, h]
theorem tflat_one (l : List Rec) : ∀ u ∈ tflat l, u.oneCell' = true := by
  intro u hu
  obtain ⟨r, _, hr⟩ := List.mem_flatMap.1 hu
  simp only [tcells, List.mem_cons, List.not_mem_nil, or_false] at hr
  rcases hr with rfl | rfl | rfl | rfl | rfl <;> rfl
theorem add_off (g o j : Nat) : (⟨g, o, none⟩ : Addr).add j = ⟨g, o + j, none⟩ := by unfold Addr.add; split <;> simp_all

set_option maxRecDepth 100000 in
set_option maxHeartbeats 2000000 in
theorem ddel_some {w : World} {b : Nat} {l : List Rec} {B : List Nat} (h : (docS b l).at_ w B) (hl : l.length ≤ 8) (hn : (l.map (·.id)).Nodup) {id : Int} {k : Nat} (hk : findI l id = some k) :
    Calls Tryd.prog 23 #[.pointer (some ⟨b, 0, none⟩), .int .i64 id] w fun e w' => e = .returned (.int .i64 0) ∧ Lvs B (docS b (l.filter fun x => x.id ≠ id)) w w' := by
  have HF := Lib.hid (find_some h hl hk)
  obtain ⟨r, hr, hri⟩ := findI_some hk
  have HER := Lib.hid (erase_filter hn hr hri)
  have hkl : k < l.length := (List.getElem?_eq_some_iff.1 hr).1
  have HD := Lib.hid h
  obtain ⟨v0, arr, tail, d1, d2, d3, hB⟩ := h
  cases arr with
  | none =>
    obtain ⟨_, _, h6, _⟩ := d2
    omega
  | some g =>
    obtain ⟨d4, cap, rfl, d5, d6, d7, d8⟩ := _root_.id d2
    have c0 : w.cell? ⟨b, 0, none⟩ = some (.slice (some ⟨g, 0, none⟩) l.length cap) := d1.cell_some rfl
    have hbl := d1.lt
    have hgl := d5.lt
    have hgb : g ≠ b := fun e => d3 (by rw [e])
    have HCA : Hid (∀ j u, (tflat (l.take k))[j]? = some u → w.cell? ⟨g, j, none⟩ = some u) := fun j u hu => d2.cell (tflat_take l k hu)
    have HCB : Hid (∀ j u, (tflat (l.drop (k + 1)))[j]? = some u → w.cell? ⟨g, (k + 1) * 5 + j, none⟩ = some u) := fun j u hu => d2.cell (tflat_drop l hkl hu)
    obtain ⟨n, hln⟩ : ∃ n, Hid (l.length = n) := ⟨_, rfl⟩
    have hla : (tflat (l.take k)).length = k * 5 := by rw [tflat_len, List.length_take, Nat.min_eq_left (Nat.le_of_lt hkl)]
    have hlb : (tflat (l.drop (k + 1))).length = (n - (k + 1)) * 5 := by rw [tflat_len, List.length_drop, hln.out]
    rw [hln.out] at c0 hkl hl d8
    have HLA := Lib.hid hla
    have HLB := Lib.hid hlb
    have HD1 := Lib.hid d1
    have HD5 := Lib.hid d5
    have HB := Lib.hid hB
    unfold maxLen at d7
    clear d1 d2 d3 d4 d5 d6 hB hk hr hla hlb hn
    by_cases hcap : cap = k + 1
    all_goals (
      go_enter Tryd.func23, Tryd.ntmps23
      go_wp2_with (first
    | ((go_at_call 38; refine HF.out.mono ?_; rintro e w1 ⟨rfl, rfl⟩))
    | ((at_builtin; refine wpList_append_any ty_turnsD rfl _ _ rfl rfl (row_empty w _ 5) (some ⟨g, 0, none⟩) k _ (tflat (l.take k)) rfl HLA.out ?_ ?_ ?_ ?_ ?_; (exact fun _ => ⟨_, rfl, fun j u hu => by rw [add_off, Nat.zero_add]; exact Hp.Ext.cell ((Only.refl _ w).alloc _) (HCA.out j u hu)⟩); (exact tflat_one _); (unfold maxLen; omega); (omega)))
    | ((with_reducible refine Reg.wp_region_text ?_ ?_ ?_); (kernel_rfl); (kernel_rfl))
    | ((with_reducible refine Reg.text_nil ?_))
    | ((with_reducible refine Reg.text_plain ?_ ?_); (rfl); (intro K hK))
    | ((with_reducible apply Reg.text_nilCheck); (rfl); (intro K hK))
    | ((with_reducible apply Reg.text_bin); (rfl); (rfl); (intro K hK))
    | ((with_reducible refine Reg.text_loud ?_ ?_); (rfl); (intro K hK))
    | ((with_reducible refine Reg.text_skipG ?_ ?_); (rfl); (intro K hK)))
      all_goals (try (exfalso; omega))
      intro base' cap' w4 arr' tail' q1 q2 q4
      try simp only [Nat.zero_add, List.nil_append] at q1
      have hx4 : Ext w w4 := ((Only.refl _ w).alloc _).trans q4 (fun b hb h => by have h : w.heap.size = b := (by first | exact h | exact Option.some.inj h); omega)
      have c0' := Hp.Ext.cell hx4 c0
      have f0' : w4.frozen? ⟨b, 0, none⟩ = false := (hx4.blk HD1.out (fun h => h)).free 0
      have HX4 := Lib.hid hx4
      have HQ1 := Lib.hid q1
      have hge : ∀ x, arr' = some x → w.heap.size ≤ x := by
        intro x hx
        rcases q2 with h | h
        all_goals (rw [h] at hx; injection hx with hx; subst hx; first | exact Nat.le_refl _ | exact Nat.le_succ _ | (simp; done))
      have HQ2 : Hid (∀ x, arr' = some x → w.heap.size ≤ x ∧ x < w4.heap.size) := fun x hx => ⟨hge x hx, q1.arr_lt hx⟩
      clear hge
      clear q1 q2 q4 hx4
      have HLEN : Hid ((l.filter fun x => x.id ≠ id).length = k + (n - (k + 1))) := by
        unfold Hid
        rw [← HER.out, List.length_append, List.length_take, List.length_drop, hln.out]
        omega
      go_wp2_with (first
    | ((at_builtin; refine wpList_append_any ty_turnsD rfl _ _ rfl rfl HQ1.out _ (n - (k + 1)) _ (tflat (l.drop (k + 1))) rfl HLB.out ?_ ?_ ?_ ?_ ?_; (first | (exact fun h => absurd h (by omega)) | (exact fun _ => ⟨_, rfl, fun j u hu => by rw [add_off]; exact Hp.Ext.cell HX4.out (HCB.out j u hu)⟩)); (exact tflat_one _); (unfold maxLen; omega); (omega)))
    | ((with_reducible refine Reg.wp_region_text ?_ ?_ ?_); (kernel_rfl); (kernel_rfl))
    | ((with_reducible refine Reg.text_nil ?_))
    | ((with_reducible refine Reg.text_plain ?_ ?_); (rfl); (intro K hK))
    | ((with_reducible apply Reg.text_nilCheck); (rfl); (intro K hK))
    | ((with_reducible apply Reg.text_bin); (rfl); (rfl); (intro K hK))
    | ((with_reducible refine Reg.text_loud ?_ ?_); (rfl); (intro K hK))
    | ((with_reducible refine Reg.text_skipG ?_ ?_); (rfl); (intro K hK)))
      intro base2 cap2 w5 arr2 tail2 p1 p2 p4
      have hx5 : Only (fun k => arr' = some k) w4 w5 := p4
      have hb5 : Blk w5 b #[.slice (some ⟨g, 0, none⟩) n cap] 47 := hx5.blk (HX4.out.blk (by rw [← hln.out]; exact HD1.out) (fun h => h)) (fun e => by have := (HQ2.out b e).1; omega)
      have c1' : w5.cell? ⟨b, 0, none⟩ = some (.slice (some ⟨g, 0, none⟩) n cap) := hb5.cell_some rfl
      have f1' : w5.frozen? ⟨b, 0, none⟩ = false := hb5.free 0
      have hp2 : ∀ x, arr2 = some x → w.heap.size ≤ x := fun x hx => by
        rcases p2 with h | h
        · rw [h] at hx; exact (HQ2.out x hx).1
        · rw [h] at hx
          have := Option.some.inj hx
          have := HX4.out.size
          omega
      have HFIN : Hid (Lvs B (docS b (l.filter fun x => x.id ≠ id)) w (w5.setCell ⟨b, 0, none⟩ (.slice base2 (k + (n - (k + 1))) cap2))) := by
        refine ⟨⟨b :: arr2.toList, ⟨_, arr2, tail2, hb5.set 0 _, ?_, fun e => by have := hp2 b e; omega, rfl⟩, fun k hk => ?_⟩, ?_⟩
        · have := p1.of_only ((Only.refl (fun k => k = b) w5).setCell (a := ⟨b, 0, none⟩) (.slice base2 (k + (n - (k + 1))) cap2) (fun _ => rfl)) (fun g hg e => by have := hp2 g hg; have e : g = b := e; omega)
          rw [HLEN.out, ← HER.out, tflat_append]
          exact this
        · rw [HB.out]
          rcases List.mem_cons.1 hk with rfl | hk
          · simp
          · exact .inr (hp2 k (by simpa using hk))
        · rw [HB.out]
          refine ((HX4.out.mono (F := fun k => k ∈ b :: (some g).toList) (fun _ _ h => h.elim)).trans hx5 (fun k hk h => by have := (HQ2.out k h).1; omega)).setCell (a := ⟨b, 0, none⟩) _ (fun _ => by simp)
      clear p1 p2 p4 hx5 hb5 hp2
      go_wp2_with (first
    | ((with_reducible refine Reg.wp_region_text ?_ ?_ ?_); (kernel_rfl); (kernel_rfl))
    | ((with_reducible refine Reg.text_nil ?_))
    | ((with_reducible refine Reg.text_plain ?_ ?_); (rfl); (intro K hK))
    | ((with_reducible apply Reg.text_nilCheck); (rfl); (intro K hK))
    | ((with_reducible apply Reg.text_bin); (rfl); (rfl); (intro K hK))
    | ((with_reducible refine Reg.text_loud ?_ ?_); (rfl); (intro K hK))
    | ((with_reducible refine Reg.text_skipG ?_ ?_); (rfl); (intro K hK)))
      all_goals go_ret
      all_goals exact ⟨rfl, HFIN.out⟩)
end Go.Proofs.YtjchfkpcglpgdaaDoor
