/-
  Is, Number, first.
-/
import Derived.Test.YtjchfkpcglpgdaaDoorSdM
set_option linter.unusedSimpArgs false
set_option linter.unusedVariables false
namespace Go.Proofs.YtjchfkpcglpgdaaDoor
open Go.RowKit Go.Hp

set_option maxRecDepth 100000 in
set_option maxHeartbeats 1000000 in
theorem is_calls {w : World} {ads : List Addr} {x : Value} {c n : Int} (h : Sents w ads) (hx : Coded ads x c) :
    Calls Tryd.prog 15 #[x, .int .i64 n] w fun e w' => e = .returned (.bool (c == n)) ∧ Ext w w' := by
  have HS := Lib.hid h
  have HK := Lib.hid hx
  clear h hx
  go_enter Tryd.func15, Tryd.ntmps15
  go_wp2_with (first
    | ((go_at_call 34; refine (bare_calls _ _).mono ?_; rintro e w1 ⟨rfl, hw1⟩; have HW := Lib.hid hw1; clear hw1))
    | ((go_at_call 33; refine (same_calls (HS.out.ext HW.out) HK.out).mono ?_; rintro e w2 ⟨rfl, hw2⟩; have HW2 := Lib.hid hw2; clear hw2))
    | ((with_reducible refine Reg.wp_region_text ?_ ?_ ?_); (kernel_rfl); (kernel_rfl))
    | ((with_reducible refine Reg.text_nil ?_))
    | ((with_reducible refine Reg.text_plain ?_ ?_); (rfl); (intro K hK))
    | ((with_reducible apply Reg.text_nilCheck); (rfl); (intro K hK))
    | ((with_reducible apply Reg.text_bin); (rfl); (rfl); (intro K hK))
    | ((with_reducible refine Reg.text_loud ?_ ?_); (rfl); (intro K hK))
    | ((with_reducible refine Reg.text_skipG ?_ ?_); (rfl); (intro K hK)))
  go_ret
  exact ⟨rfl, HW.out.trans HW2.out (fun _ _ h => h)⟩

theorem tmod_cases (x m : Int) (hm : 0 < m) : (x.tmod m < 0 ∧ x % m = x.tmod m + m) ∨ (0 ≤ x.tmod m ∧ x % m = x.tmod m) := by
  have h1 := Int.emod_nonneg x (show m ≠ 0 by omega)
  have h2 := Int.emod_lt_of_pos x hm
  have h3 := Int.tmod_eq_emod (a := x) (b := m)
  split at h3
  · right; omega
  · left; omega

set_option maxRecDepth 100000 in
set_option maxHeartbeats 1000000 in
theorem number_core (x m r : Int) (w : World) (hm : 0 < m) (hm2 : m < 9223372036854775808) (hr : x.tmod m = r) (hr1 : -m ≤ r) (hr2 : r < m) (y : Int) (hy : (r < 0 ∧ y = r + m) ∨ (0 ≤ r ∧ y = r)) :
    Calls Tryd.prog 9 #[.int .i64 x, .int .i64 m] w (Same w (.int .i64 y)) := by
  have hm0 : m ≠ 0 := by omega
  rcases hy with ⟨h1, rfl⟩ | ⟨h1, rfl⟩
  all_goals go_enter Tryd.func9, Tryd.ntmps9
  all_goals (go_wp2_with (first
    | ((with_reducible refine Reg.wp_region_text ?_ ?_ ?_); (kernel_rfl); (kernel_rfl))
    | ((with_reducible refine Reg.text_nil ?_))
    | ((with_reducible refine Reg.text_plain ?_ ?_); (rfl); (intro K hK))
    | ((with_reducible apply Reg.text_nilCheck); (rfl); (intro K hK))
    | ((with_reducible apply Reg.text_bin); (rfl); (rfl); (intro K hK))
    | ((with_reducible refine Reg.text_loud ?_ ?_); (rfl); (intro K hK))
    | ((with_reducible refine Reg.text_skipG ?_ ?_); (rfl); (intro K hK))))
  all_goals go_ret
  all_goals exact ⟨rfl, by (repeat (first | exact drawn0 _ | apply drawn1 | apply drawnN))⟩

/-- facadeworld's 'Number'. -/
theorem number_calls (x m : Int) (w : World) (hm : 0 < m) (hm2 : m < 9223372036854775808) :
    Calls Tryd.prog 9 #[.int .i64 x, .int .i64 m] w (Same w (.int .i64 (x % m))) := by
  have h1 := Int.emod_nonneg x (show m ≠ 0 by omega)
  have h2 := Int.emod_lt_of_pos x hm
  have h3 := tmod_cases x m hm
  refine number_core x m _ w hm hm2 rfl ?_ ?_ _ h3
  · omega
  · omega

/-- A scheduler that a law made: behind the world 'w0', nothing of which is written. -/
def Own (w0 w : World) (bs : Nat) (l : List Rec) : Prop := ∃ B, SchAt w bs B l ∧ (∀ b ∈ B, w0.heap.size ≤ b) ∧ Ext w0 w

theorem Own.ext {w0 w w' : World} {bs : Nat} {l : List Rec} (h : Own w0 w bs l) (he : Ext w w') : Own w0 w' bs l := by
  obtain ⟨B, h1, h2, h3⟩ := h
  exact ⟨B, h1.of_only he (fun _ _ h => h), h2, h3.trans he (fun _ _ h => h)⟩
theorem Own.goes {w0 w w' : World} {bs : Nat} {B : List Nat} {l' : List Rec} (h2 : ∀ b ∈ B, w0.heap.size ≤ b) (h3 : Ext w0 w) (hg : Goes bs B l' w w') : Own w0 w' bs l' := by
  obtain ⟨B', h4, h5⟩ := hg.at_
  refine ⟨B', h4, fun b hb => ?_, h3.trans hg.only (fun b hlt hb => ?_)⟩
  · rcases h5 b hb with h6 | h6
    · exact h2 b h6
    · exact Nat.le_trans h3.size h6
  · have := h2 b hb
    omega
theorem Own.start {w0 w : World} {bs : Nat} {l : List Rec} (h : Own w0 w bs l) : Ext w0 w := let ⟨_, _, _, h⟩ := h; h
theorem Own.ids {w0 w : World} {bs : Nat} {l : List Rec} (h : Own w0 w bs l) : (l.map (·.id)).Nodup := let ⟨_, h, _, _⟩ := h; h.ids
theorem Own.ok {w0 w : World} {bs : Nat} {l : List Rec} (h : Own w0 w bs l) : ∀ r ∈ l, Okr r := let ⟨_, h, _, _⟩ := h; h.ok
theorem Own.same {w0 w w' : World} {bs : Nat} {l : List Rec} {x : Value} {e : Ending} (h : Own w0 w bs l) (hs : Same w x e w') : e = .returned x ∧ Hid (Own w0 w' bs l) := ⟨hs.1, h.ext hs.only⟩

theorem own_new {w0 w : World} (h : Ext w0 w) : Calls Tryd.prog 10 #[] w fun e w' => ∃ bs, e = .returned (.pointer (some ⟨bs, 0, none⟩)) ∧ Hid (Own w0 w' bs []) := by
  refine (new_calls w).mono ?_
  rintro e w' ⟨bs, B, rfl, h1, h2, h3⟩
  exact ⟨bs, rfl, B, h1, fun b hb => Nat.le_trans h.size (h2 b hb), h.trans h3 (fun _ _ h => h)⟩
theorem own_add {w0 w : World} {bs : Nat} {l : List Rec} (h : Hid (Own w0 w bs l)) (id we : Int) (h1 : 0 ≤ id) (h2 : id < 8) (h3 : 1 ≤ we) (h4 : we ≤ 100) (hn : ∀ r ∈ l, r.id ≠ id) :
    Calls Tryd.prog 11 #[.pointer (some ⟨bs, 0, none⟩), .int .i64 id, .int .i64 we] w fun e w' => e = .returned .nilIface ∧ ∃ u, Hid (Least u l) ∧ Hid (Own w0 w' bs (l ++ [⟨id, we, u, false, 0⟩])) := by
  obtain ⟨B, h5, h6, h7⟩ := h.out
  refine (add_calls h5 id we h1 h2 h3 h4 hn).mono ?_
  rintro e w' ⟨rfl, u, hu, hg⟩
  exact ⟨rfl, u, hu, Own.goes h6 h7 hg⟩
theorem own_ran {w0 w : World} {bs : Nat} {l : List Rec} {r : Rec} (h : Hid (Own w0 w bs l)) (hr : r ∈ l) (steps : Int) (hs1 : 0 ≤ steps) (hs2 : steps ≤ 1073741824) {id : Int} (hid : r.id = id) :
    Calls Tryd.prog 12 #[.pointer (some ⟨bs, 0, none⟩), .int .i64 id, .int .i64 steps] w fun e w' => e = .returned .nilIface ∧ Hid (Own w0 w' bs (updR l id fun x => { x with used := usedBy x steps })) := by
  subst hid
  obtain ⟨B, h5, h6, h7⟩ := h.out
  refine (ran_calls h5 hr steps hs1 hs2).mono ?_
  rintro e w' ⟨rfl, hg⟩
  exact ⟨rfl, Own.goes h6 h7 hg⟩
theorem own_sleep {w0 w : World} {bs : Nat} {l : List Rec} {r : Rec} (h : Hid (Own w0 w bs l)) (hr : r ∈ l) (till : Int) (ht1 : -9223372036854775808 ≤ till) (ht2 : till < 9223372036854775808) {id : Int} (hid : r.id = id) :
    Calls Tryd.prog 16 #[.pointer (some ⟨bs, 0, none⟩), .int .i64 id, .int .i64 till] w fun e w' => e = .returned .nilIface ∧ Hid (Own w0 w' bs (updR l id fun x => { x with sleeps := true, till := till })) := by
  subst hid
  obtain ⟨B, h5, h6, h7⟩ := h.out
  refine (sleep_calls h5 hr till ht1 ht2).mono ?_
  rintro e w' ⟨rfl, hg⟩
  exact ⟨rfl, Own.goes h6 h7 hg⟩
theorem own_del {w0 w : World} {bs : Nat} {l : List Rec} {r : Rec} (h : Hid (Own w0 w bs l)) (hr : r ∈ l) {id : Int} (hid : r.id = id) :
    Calls Tryd.prog 14 #[.pointer (some ⟨bs, 0, none⟩), .int .i64 id] w fun e w' => e = .returned .nilIface ∧ Hid (Own w0 w' bs (l.filter fun x => x.id ≠ id)) := by
  subst hid
  obtain ⟨B, h5, h6, h7⟩ := h.out
  refine (del_calls h5 hr).mono ?_
  rintro e w' ⟨rfl, hg⟩
  exact ⟨rfl, Own.goes h6 h7 hg⟩
theorem own_used {w0 w : World} {bs : Nat} {l : List Rec} {r : Rec} (h : Hid (Own w0 w bs l)) (hr : r ∈ l) {id u : Int} (hid : r.id = id) (hu : r.used = u) :
    Calls Tryd.prog 13 #[.pointer (some ⟨bs, 0, none⟩), .int .i64 id] w fun e w' => e = .returned (.tuple #[.int .i64 u, .bool true]) ∧ Hid (Own w0 w' bs l) := by
  subst hid hu
  obtain ⟨B, h5, h6, h7⟩ := h.out
  exact (used_calls h5 hr).mono fun e w' hs => h.out.same hs
theorem own_used_no {w0 w : World} {bs : Nat} {l : List Rec} (h : Hid (Own w0 w bs l)) {id : Int} (hn : ∀ r ∈ l, r.id ≠ id) :
    Calls Tryd.prog 13 #[.pointer (some ⟨bs, 0, none⟩), .int .i64 id] w fun e w' => e = .returned (.tuple #[.int .i64 0, .bool false]) ∧ Hid (Own w0 w' bs l) := by
  obtain ⟨B, h5, h6, h7⟩ := h.out
  exact (used_no h5 hn).mono fun e w' hs => h.out.same hs
theorem own_pick {w0 w : World} {bs : Nat} {l : List Rec} {r : Rec} (h : Hid (Own w0 w bs l)) (hr : r ∈ l) (hs : r.sleeps = false) (hmin : ∀ x ∈ l, x.sleeps = false → x = r ∨ r.used < x.used ∨ r.used = x.used ∧ r.id < x.id) {id : Int} (hid : r.id = id) :
    Calls Tryd.prog 17 #[.pointer (some ⟨bs, 0, none⟩)] w fun e w' => e = .returned (.tuple #[.int .i64 id, .bool true]) ∧ Hid (Own w0 w' bs l) := by
  subst hid
  obtain ⟨B, h5, h6, h7⟩ := h.out
  exact (pick_calls h5 hr hs hmin).mono fun e w' hs => h.out.same hs
theorem own_pick_no {w0 w : World} {bs : Nat} {l : List Rec} (h : Hid (Own w0 w bs l)) (hn : ∀ r ∈ l, r.sleeps = true) :
    Calls Tryd.prog 17 #[.pointer (some ⟨bs, 0, none⟩)] w fun e w' => e = .returned (.tuple #[.int .i64 0, .bool false]) ∧ Hid (Own w0 w' bs l) := by
  obtain ⟨B, h5, h6, h7⟩ := h.out
  exact (pick_no h5 hn).mono fun e w' hs => h.out.same hs

/-- An error variable's cell, behind. -/
theorem Own.cell {w0 w : World} {bs : Nat} {l : List Rec} (h : Own w0 w bs l) {g : Nat} {v : Value} (hc : w0.cell? ⟨g, 0, none⟩ = some v) : w.cell? ⟨g, 0, none⟩ = some v := by
  have hlt : g < w0.heap.size := by
    rcases Nat.lt_or_ge g w0.heap.size with h' | h'
    · exact h'
    · simp [World.cell?, Array.getElem?_eq_none h'] at hc
  exact (World.cell?_of_block (a := ⟨g, 0, none⟩) (h.start.block g hlt (fun h => h))).trans hc

theorem own_add_twice {w0 w : World} {bs : Nat} {l : List Rec} {r : Rec} {ads : List Addr} (h : Hid (Own w0 w bs l)) (hr : r ∈ l) (we : Int) (h3 : 1 ≤ we) (h4 : we ≤ 100) {id : Int} (hid : r.id = id) (hs : Sents w0 ads) :
    Calls Tryd.prog 11 #[.pointer (some ⟨bs, 0, none⟩), .int .i64 id, .int .i64 we] w fun e w' => ∃ x, e = .returned x ∧ Hid (Coded ads x 106) ∧ Hid (Own w0 w' bs l) := by
  subst hid
  obtain ⟨B, h5, h6, h7⟩ := h.out
  obtain ⟨a, ha⟩ : ∃ a, ads[5]? = some a := ⟨_, List.getElem?_eq_getElem (by have := hs.len; simp [sentG] at this; omega)⟩
  exact (add_twice h5 hr we h3 h4 (h.out.cell (hs.cell 5 1 a rfl ha))).mono fun e w' q => ⟨_, q.1, .err ha, (h.out.same q).2⟩
theorem own_add_bad {w0 w : World} {bs : Nat} {l : List Rec} {ads : List Addr} (h : Hid (Own w0 w bs l)) (id we : Int) (hb : ¬ (0 ≤ id ∧ id < 8 ∧ 1 ≤ we ∧ we ≤ 100)) (hs : Sents w0 ads) :
    Calls Tryd.prog 11 #[.pointer (some ⟨bs, 0, none⟩), .int .i64 id, .int .i64 we] w fun e w' => ∃ x, e = .returned x ∧ Hid (Coded ads x 103) ∧ Hid (Own w0 w' bs l) := by
  obtain ⟨B, h5, h6, h7⟩ := h.out
  obtain ⟨a, ha⟩ : ∃ a, ads[2]? = some a := ⟨_, List.getElem?_eq_getElem (by have := hs.len; simp [sentG] at this; omega)⟩
  exact (add_bad bs id we hb (h.out.cell (hs.cell 2 0 a rfl ha))).mono fun e w' q => ⟨_, q.1, .err ha, (h.out.same q).2⟩
theorem own_ran_bad {w0 w : World} {bs : Nat} {l : List Rec} {r : Rec} {ads : List Addr} (h : Hid (Own w0 w bs l)) (hr : r ∈ l) (steps : Int) (hb : steps < 0 ∨ 1073741824 < steps) {id : Int} (hid : r.id = id) (hs : Sents w0 ads) :
    Calls Tryd.prog 12 #[.pointer (some ⟨bs, 0, none⟩), .int .i64 id, .int .i64 steps] w fun e w' => ∃ x, e = .returned x ∧ Hid (Coded ads x 103) ∧ Hid (Own w0 w' bs l) := by
  subst hid
  obtain ⟨B, h5, h6, h7⟩ := h.out
  obtain ⟨a, ha⟩ : ∃ a, ads[2]? = some a := ⟨_, List.getElem?_eq_getElem (by have := hs.len; simp [sentG] at this; omega)⟩
  exact (ran_bad h5 hr (h.out.cell (hs.cell 2 0 a rfl ha)) hb).mono fun e w' q => ⟨_, q.1, .err ha, (h.out.same q).2⟩
theorem own_ran_no {w0 w : World} {bs : Nat} {l : List Rec} {ads : List Addr} (h : Hid (Own w0 w bs l)) {id : Int} (hn : ∀ r ∈ l, r.id ≠ id) (steps : Int) (hs : Sents w0 ads) :
    Calls Tryd.prog 12 #[.pointer (some ⟨bs, 0, none⟩), .int .i64 id, .int .i64 steps] w fun e w' => ∃ x, e = .returned x ∧ Hid (Coded ads x 107) ∧ Hid (Own w0 w' bs l) := by
  obtain ⟨B, h5, h6, h7⟩ := h.out
  obtain ⟨a, ha⟩ : ∃ a, ads[6]? = some a := ⟨_, List.getElem?_eq_getElem (by have := hs.len; simp [sentG] at this; omega)⟩
  exact (ran_no h5 hn (h.out.cell (hs.cell 6 2 a rfl ha)) steps).mono fun e w' q => ⟨_, q.1, .err ha, (h.out.same q).2⟩
theorem own_del_no {w0 w : World} {bs : Nat} {l : List Rec} {ads : List Addr} (h : Hid (Own w0 w bs l)) {id : Int} (hn : ∀ r ∈ l, r.id ≠ id) (hs : Sents w0 ads) :
    Calls Tryd.prog 14 #[.pointer (some ⟨bs, 0, none⟩), .int .i64 id] w fun e w' => ∃ x, e = .returned x ∧ Hid (Coded ads x 107) ∧ Hid (Own w0 w' bs l) := by
  obtain ⟨B, h5, h6, h7⟩ := h.out
  obtain ⟨a, ha⟩ : ∃ a, ads[6]? = some a := ⟨_, List.getElem?_eq_getElem (by have := hs.len; simp [sentG] at this; omega)⟩
  exact (del_no h5 hn (h.out.cell (hs.cell 6 2 a rfl ha))).mono fun e w' q => ⟨_, q.1, .err ha, (h.out.same q).2⟩
theorem own_is {w0 w : World} {bs : Nat} {l : List Rec} {ads : List Addr} {x : Value} {c n : Int} (h : Hid (Own w0 w bs l)) (hs : Sents w0 ads) (hx : Hid (Coded ads x c)) :
    Calls Tryd.prog 15 #[x, .int .i64 n] w fun e w' => e = .returned (.bool (c == n)) ∧ Hid (Own w0 w' bs l) :=
  (is_calls (hs.ext h.out.start) hx.out).mono fun e w' q => ⟨q.1, h.out.ext q.2⟩

set_option maxRecDepth 100000 in
set_option maxHeartbeats 1000000 in
theorem first_calls (w : World) : Calls Tryd.prog 8 #[] w fun e w' => e = .returned (.bool true) ∧ Ext w w' := by
  go_enter Tryd.func8, Tryd.ntmps8
  go_wp2_with (first
    | ((go_at_call 10; refine (own_new (Only.refl _ w)).mono ?_; rintro e w1 ⟨bs, rfl, H1⟩))
    | ((go_at_call 17; refine (own_pick_no H1 (by simp)).mono ?_; rintro e w2 ⟨rfl, H2⟩))
    | ((go_at_call 11; refine (own_add H2 3 10 (by decide) (by decide) (by decide) (by decide) (by simp)).mono ?_; rintro e w3 ⟨rfl, u, hu, H3⟩))
    | ((go_at_call 17; refine (own_pick H3 (r := ⟨3, 10, u, false, 0⟩) (by simp) rfl (by simp) rfl).mono ?_; rintro e w4 ⟨rfl, H4⟩))
    | ((with_reducible refine Reg.wp_region_text ?_ ?_ ?_); (kernel_rfl); (kernel_rfl))
    | ((with_reducible refine Reg.text_nil ?_))
    | ((with_reducible refine Reg.text_plain ?_ ?_); (rfl); (intro K hK))
    | ((with_reducible apply Reg.text_nilCheck); (rfl); (intro K hK))
    | ((with_reducible apply Reg.text_bin); (rfl); (rfl); (intro K hK))
    | ((with_reducible refine Reg.text_loud ?_ ?_); (rfl); (intro K hK))
    | ((with_reducible refine Reg.text_skipG ?_ ?_); (rfl); (intro K hK)))
  go_ret
  exact ⟨rfl, H4.out.start⟩
end Go.Proofs.YtjchfkpcglpgdaaDoor
