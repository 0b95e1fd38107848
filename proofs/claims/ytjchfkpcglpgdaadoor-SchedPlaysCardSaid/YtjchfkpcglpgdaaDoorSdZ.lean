/-
  The document's scheduler in memory: Add.
-/
import Derived.Test.YtjchfkpcglpgdaaDoorSdY
set_option linter.unusedSimpArgs false
set_option linter.unusedVariables false
namespace Go.Proofs.YtjchfkpcglpgdaaDoor
open Go.RowKit Go.Hp

theorem many_new (w : World) (c : Array Value) (t : TypeId) {b : Nat} (hb : b = w.heap.size) : ∀ j u, c.toList[j]? = some u → (w.alloc (.cells c t)).cell? ((⟨b, 0, none⟩ : Addr).add j) = some u := by
  subst hb
  intro j u h
  have hadd : (⟨w.heap.size, 0, none⟩ : Addr).add j = ⟨w.heap.size, j, none⟩ := by unfold Addr.add; split <;> simp_all
  rw [hadd]
  refine (Blk.new w c t).cell_some ?_
  simpa using h

theorem Least.snoc {l : List Rec} {j : Nat} {u : Int} {r : Rec} (h : Least u (l.take j)) (hr : l[j]? = some r) :
    (j = 0 ∨ r.used < u → Least r.used (l.take (j + 1))) ∧ (¬ (j = 0 ∨ r.used < u) → Least u (l.take (j + 1))) := by
  rw [take_snoc' hr]
  have hjl : j < l.length := (List.getElem?_eq_some_iff.1 hr).1
  constructor
  · intro hc
    refine .inr ⟨⟨r, by simp, rfl⟩, fun x hx => ?_⟩
    rcases List.mem_append.1 hx with hx | hx
    · rcases h with ⟨h1, _⟩ | ⟨_, h2⟩
      · rw [h1] at hx; cases hx
      · have := h2 x hx
        rcases hc with rfl | hc
        · simp at hx
        · omega
    · simp at hx; subst hx; exact Int.le_refl _
  · intro hc
    rcases h with ⟨h1, _⟩ | ⟨⟨a, ha, e⟩, h2⟩
    · exfalso
      have : (l.take j).length = 0 := by rw [h1]; rfl
      rw [List.length_take] at this
      exact hc (.inl (by omega))
    · refine .inr ⟨⟨a, by simp [ha], e⟩, fun x hx => ?_⟩
      rcases List.mem_append.1 hx with hx | hx
      · exact h2 x hx
      · simp at hx; subst hx; omega

set_option maxRecDepth 100000 in
set_option maxHeartbeats 1000000 in
theorem dadd_bad (b : Nat) (id we : Int) (w : World) (hs : id < 0 ∨ (0 ≤ id ∧ 8 ≤ id) ∨ ((0 ≤ id ∧ id < 8) ∧ we < 1) ∨ ((0 ≤ id ∧ id < 8) ∧ 1 ≤ we ∧ 100 < we)) :
    Calls Tryd.prog 22 #[.pointer (some ⟨b, 0, none⟩), .int .i64 id, .int .i64 we] w fun e w' => e = .returned (.int .i64 103) ∧ w = w' := by
  rcases hs with hs | ⟨h1, h2⟩ | ⟨⟨h1, h2⟩, h3⟩ | ⟨⟨h1, h2⟩, h3, h4⟩
  all_goals (
    go_enter Tryd.func22, Tryd.ntmps22
    go_wp2_with (first
    | ((go_at_call 37; go_in))
    | ((with_reducible refine Reg.wp_region_text ?_ ?_ ?_); (kernel_rfl); (kernel_rfl))
    | ((with_reducible refine Reg.text_nil ?_))
    | ((with_reducible refine Reg.text_plain ?_ ?_); (rfl); (intro K hK))
    | ((with_reducible apply Reg.text_nilCheck); (rfl); (intro K hK))
    | ((with_reducible apply Reg.text_bin); (rfl); (rfl); (intro K hK))
    | ((with_reducible refine Reg.text_loud ?_ ?_); (rfl); (intro K hK))
    | ((with_reducible refine Reg.text_skipG ?_ ?_); (rfl); (intro K hK)))
    all_goals (try (exfalso; omega))
    all_goals go_ret
    all_goals exact ⟨rfl, rfl⟩)
set_option maxRecDepth 100000 in
set_option maxHeartbeats 1000000 in
theorem dadd_twice {w : World} {b : Nat} {l : List Rec} {B : List Nat} (h : (docS b l).at_ w B) (hl : l.length ≤ 8) {id we : Int} {k : Nat} (hk : findI l id = some k) (h1 : 0 ≤ id) (h2 : id < 8) (h3 : 1 ≤ we) (h4 : we ≤ 100) :
    Calls Tryd.prog 22 #[.pointer (some ⟨b, 0, none⟩), .int .i64 id, .int .i64 we] w fun e w' => e = .returned (.int .i64 106) ∧ w = w' := by
  have HF := Lib.hid (find_some h hl hk)
  clear h hk hl
  go_enter Tryd.func22, Tryd.ntmps22
  go_wp2_with (first
    | ((go_at_call 37; go_in))
    | ((go_at_call 38; refine HF.out.mono ?_; rintro e w1 ⟨rfl, rfl⟩))
    | ((with_reducible refine Reg.wp_region_text ?_ ?_ ?_); (kernel_rfl); (kernel_rfl))
    | ((with_reducible refine Reg.text_nil ?_))
    | ((with_reducible refine Reg.text_plain ?_ ?_); (rfl); (intro K hK))
    | ((with_reducible apply Reg.text_nilCheck); (rfl); (intro K hK))
    | ((with_reducible apply Reg.text_bin); (rfl); (rfl); (intro K hK))
    | ((with_reducible refine Reg.text_loud ?_ ?_); (rfl); (intro K hK))
    | ((with_reducible refine Reg.text_skipG ?_ ?_); (rfl); (intro K hK)))
  all_goals (try (exfalso; omega))
  all_goals go_ret
  all_goals exact ⟨rfl, rfl⟩

def DaddPost (w : World) (b : Nat) (B : List Nat) (l : List Rec) (id we : Int) (e : Ending) (w' : World) : Prop := e = .returned (.int .i64 0) ∧ ∃ u, Least u l ∧ Lvs B (docS b (l ++ [⟨id, we, u, false, 0⟩])) w w'

set_option maxRecDepth 100000 in
set_option maxHeartbeats 2000000 in
theorem dadd_new {w : World} {b : Nat} {l : List Rec} {B : List Nat} (h : (docS b l).at_ w B) (hl : l.length ≤ 8) {id we : Int} (hk : findI l id = none) (h1 : 0 ≤ id) (h2 : id < 8) (h3 : 1 ≤ we) (h4 : we ≤ 100) :
    Calls Tryd.prog 22 #[.pointer (some ⟨b, 0, none⟩), .int .i64 id, .int .i64 we] w (DaddPost w b B l id we) := by
  have HF := Lib.hid (find_none h hl hk)
  obtain ⟨ao, cap, c0, f0, hel⟩ := docS_read h
  have HEL := Lib.hid hel
  have HD := Lib.hid h
  obtain ⟨n, hn⟩ : ∃ n, Hid (l.length = n) := ⟨_, rfl⟩
  rw [hn.out] at c0 hl
  clear h hk hel
  go_enter Tryd.func22, Tryd.ntmps22
  go_wp2_with (first
    | ((go_at_call 37; go_in))
    | ((go_at_call 38; refine HF.out.mono ?_; rintro e w1 ⟨rfl, rfl⟩))
    | ((with_reducible refine Reg.wp_region_text ?_ ?_ ?_); (kernel_rfl); (kernel_rfl))
    | ((with_reducible refine Reg.text_nil ?_))
    | ((with_reducible refine Reg.text_plain ?_ ?_); (rfl); (intro K hK))
    | ((with_reducible apply Reg.text_nilCheck); (rfl); (intro K hK))
    | ((with_reducible apply Reg.text_bin); (rfl); (rfl); (intro K hK))
    | ((with_reducible refine Reg.text_loud ?_ ?_); (rfl); (intro K hK))
    | ((with_reducible refine Reg.text_skipG ?_ ?_); (rfl); (intro K hK)))
  all_goals (try (exfalso; omega))
  go_loop [7, 8] (fun a c => ∃ (j : Nat) (u : Int), a = .int .i64 u ∧ c = .int .i64 j ∧ j ≤ n ∧ Hid (Least u (l.take j))) (fun _ c => n - (intOf c).toNat)
  case atStart => exact ⟨0, 0, rfl, rfl, by omega, .inl ⟨rfl, rfl⟩⟩
  case round =>
    obtain ⟨j, u, rfl, rfl, hj, hL⟩ := hrel
    by_cases hjn : j < n
    · obtain ⟨r, hr⟩ : ∃ r, l[j]? = some r := ⟨_, List.getElem?_eq_getElem (by rw [hn.out]; omega)⟩
      obtain ⟨g, rfl, _, _, _, _, c2, _⟩ := HEL.out j r hr
      have HS := Lib.hid (hL.out.snoc hr)
      obtain ⟨x, hx⟩ : ∃ x, Hid (r.used = x) := ⟨_, rfl⟩
      rw [hx.out] at c2 HS
      clear hr
      by_cases hj0 : j = 0
      · subst hj0
        go_wp2
        go_round
        case rel => exact ⟨1, x, rfl, rfl, by omega, HS.out.1 (.inl rfl)⟩
        case measure => simp [intOf]; omega
      · have hj0' : ((j : Int) == 0) = false := by simp; omega
        go_wp2
        all_goals go_round
        all_goals first
          | (simp [intOf]; omega)
          | exact ⟨j + 1, x, rfl, by simp, by omega, HS.out.1 (.inr (by omega))⟩
          | exact ⟨j + 1, u, rfl, by simp, by omega, HS.out.2 (by omega)⟩
    · have hjn' : n ≤ j := by omega
      have HL : Hid (Least u l) := by
        have := hL.out
        rwa [List.take_of_length_le (by rw [hn.out]; exact hjn')] at this
      obtain ⟨v0, arr, tail, d1, d2, d3, hB⟩ := HD.out
      have hv0 : v0 = .slice ao n cap := by
        have := d1.cell_some (o := 0) (v := v0) rfl
        rw [c0] at this
        exact (Option.some.inj this).symm
      subst hv0
      rw [hn.out] at d2
      have HR := Lib.hid (d2.of_only ((Only.refl (fun _ => False) w).alloc (.cells #[.int .i64 id, .int .i64 we, .int .i64 u, .bool false, .int .i64 0] 54)) (fun _ _ h => h))
      have HD1 := Lib.hid d1
      have HD3 := Lib.hid d3
      have HB := Lib.hid hB
      have hbl := d1.lt
      have HAL := Lib.hid (fun g => d2.arr_lt (g := g))
      clear hjn hj hL d1 d2 d3 hB
      go_wp2_with (first
    | ((at_builtin; refine wpList_append_row ty_turnsD rfl _ _ rfl rfl HR.out ⟨w.heap.size, 0, none⟩ 1 1 (tcells ⟨id, we, u, false, 0⟩) rfl rfl (by decide) ?_ ?_ ?_ ?_ ?_; (exact many_new _ _ _ (by simp)); (simp [Value.oneCell', tcells]); (unfold maxLen; omega); (omega)))
    | ((with_reducible refine Reg.wp_region_text ?_ ?_ ?_); (kernel_rfl); (kernel_rfl))
    | ((with_reducible refine Reg.text_nil ?_))
    | ((with_reducible refine Reg.text_plain ?_ ?_); (rfl); (intro K hK))
    | ((with_reducible apply Reg.text_nilCheck); (rfl); (intro K hK))
    | ((with_reducible apply Reg.text_bin); (rfl); (rfl); (intro K hK))
    | ((with_reducible refine Reg.text_loud ?_ ?_); (rfl); (intro K hK))
    | ((with_reducible refine Reg.text_skipG ?_ ?_); (rfl); (intro K hK)))
      intro g' cap' w4 tail' q1 q2 q4
      have hx4 : Only (fun k => arr = some k) w w4 := ((Only.refl (fun k => arr = some k) w).alloc _).trans q4 (fun _ _ h => h)
      have hb4 : Blk w4 b #[.slice ao n cap] 47 := hx4.blk HD1.out (fun e => HD3.out e)
      have c0' : w4.cell? ⟨b, 0, none⟩ = some (.slice ao n cap) := hb4.cell_some rfl
      have f0' : w4.frozen? ⟨b, 0, none⟩ = false := hb4.free 0
      have hgb : g' ≠ b := by
        rcases q2 with q2 | q2
        · exact fun e => HD3.out (by rw [q2, e])
        · rw [q2]; simp; omega
      have HFIN : Hid (Lvs B (docS b (l ++ [⟨id, we, u, false, 0⟩])) w (w4.setCell ⟨b, 0, none⟩ (.slice (some ⟨g', 0, none⟩) (n + 1) cap'))) := by
        refine ⟨⟨b :: [g'], ⟨_, some g', tail', hb4.set 0 _, ?_, fun e => hgb (Option.some.inj e), rfl⟩, fun k hk => ?_⟩, ?_⟩
        · have := q1.of_only ((Only.refl (fun k => k = b) w4).setCell (a := ⟨b, 0, none⟩) (.slice (some ⟨g', 0, none⟩) (n + 1) cap') (fun _ => rfl)) (fun g hg e => hgb (by cases hg; exact e))
          rw [tflat_append, List.length_append, hn.out]
          exact this
        · rw [HB.out]
          simp only [List.mem_cons, List.not_mem_nil, or_false] at hk
          rcases hk with rfl | rfl
          · simp
          · rcases q2 with q2 | q2
            · simp [q2]
            · right; rw [q2]; simp
        · rw [HB.out]
          refine (hx4.mono (fun k _ hk => ?_)).setCell (a := ⟨b, 0, none⟩) _ (fun _ => by simp)
          have hk : arr = some k := hk
          simp [hk]
      clear q1 q2 q4 hx4 hb4 HR
      go_wp2_with (first
    | ((with_reducible refine Reg.wp_region_text ?_ ?_ ?_); (kernel_rfl); (kernel_rfl))
    | ((with_reducible refine Reg.text_nil ?_))
    | ((with_reducible refine Reg.text_plain ?_ ?_); (rfl); (intro K hK))
    | ((with_reducible apply Reg.text_nilCheck); (rfl); (intro K hK))
    | ((with_reducible apply Reg.text_bin); (rfl); (rfl); (intro K hK))
    | ((with_reducible refine Reg.text_loud ?_ ?_); (rfl); (intro K hK))
    | ((with_reducible refine Reg.text_skipG ?_ ?_); (rfl); (intro K hK)))
      go_ret
      exact ⟨rfl, u, HL.out, HFIN.out⟩
end Go.Proofs.YtjchfkpcglpgdaaDoor
