/-
  The scheduler in memory: Add.
-/
import Derived.Test.YtjchfkpcglpgdaaDoorSdK
set_option linter.unusedSimpArgs false
set_option linter.unusedVariables false
namespace Go.Proofs.YtjchfkpcglpgdaaDoor
open Go.RowKit Go.Hp

/-- Where one begins that comes behind these. -/
def Least (u : Int) (l : List Rec) : Prop := (l = [] ∧ u = 0) ∨ ((∃ r ∈ l, r.used = u) ∧ ∀ r ∈ l, u ≤ r.used)

theorem run_update_at {w : World} {I : Inn} {X : List One} (h : InnX w I X) (id : Int) (v : Value) (hn : Hp.look I.es id = none) :
    ∀ w' : World, w'.heap[I.bm]? = w.heap[I.bm]? → (Instr.mapUpdate 56 (.map (some I.bm)) (.int .i64 id) v).run Tryd.prog w' = .ok () (setObjW w' I.bm (.map ((I.es ++ [({ id := id, v := v, born := I.clock } : Ent)]).map Ent.entry).toArray (I.clock + 1))) := by
  intro w' hw
  exact run_update_new ty_all (show MapAt w' I.bm I.es I.clock from hw.trans h.mp) id v hn
theorem run_range_at {w : World} {I : Inn} {X : List One} (h : InnX w I X) :
    ∀ w' : World, w'.heap[I.bm]? = w.heap[I.bm]? → (Instr.range 56 (.map (some I.bm))).run Tryd.prog w' = .ok (.pointer (some ⟨w'.heap.size, 0, none⟩)) (w'.alloc (.mapIter (some I.bm) I.clock #[] I.clock)) := by
  intro w' hw
  exact run_range_ints ty_all (show MapAt w' I.bm I.es I.clock from hw.trans h.mp)

set_option maxRecDepth 100000 in
set_option maxHeartbeats 1000000 in
theorem add_range (bs : Nat) (id we : Int) (e : Value) (w : World) (hs : id < 0 ∨ (0 ≤ id ∧ 8 ≤ id) ∨ ((0 ≤ id ∧ id < 8) ∧ we < 1) ∨ ((0 ≤ id ∧ id < 8) ∧ 1 ≤ we ∧ 100 < we)) (hg : w.cell? ⟨0, 0, none⟩ = some e) :
    Calls Tryd.prog 11 #[ptr bs, .int .i64 id, .int .i64 we] w (Same w e) := by
  rcases hs with hs | hs | hs | hs
  all_goals go_enter Tryd.func11, Tryd.ntmps11
  all_goals (go_wp2_with (first
    | ((with_reducible refine Reg.wp_region_text ?_ ?_ ?_); (kernel_rfl); (kernel_rfl))
    | ((with_reducible refine Reg.text_nil ?_))
    | ((with_reducible refine Reg.text_plain ?_ ?_); (rfl); (intro K hK))
    | ((with_reducible apply Reg.text_nilCheck); (rfl); (intro K hK))
    | ((with_reducible apply Reg.text_bin); (rfl); (rfl); (intro K hK))
    | ((with_reducible refine Reg.text_loud ?_ ?_); (rfl); (intro K hK))
    | ((with_reducible refine Reg.text_skipG ?_ ?_); (rfl); (intro K hK))))
  all_goals go_ret
  all_goals exact ⟨rfl, by (repeat (first | exact drawn0 _ | apply drawn1 | apply drawnN))⟩

set_option maxRecDepth 100000 in
set_option maxHeartbeats 1000000 in
theorem add_twice_core (bs bm bo : Nat) (id we : Int) (e : Value) (w : World) (h1 : 0 ≤ id) (h2 : id < 8) (h3 : 1 ≤ we) (h4 : we ≤ 100) (hg : w.cell? ⟨1, 0, none⟩ = some e) (h0 : w.cell? ⟨bs, 0, none⟩ = some (.map (some bm)))
    (hlk : ∀ w' : World, w'.heap[bm]? = w.heap[bm]? → (Instr.lookup 56 (.map (some bm)) (.int .i64 id) false).run Tryd.prog w' = .ok (.pointer (some ⟨bo, 0, none⟩)) w') :
    Calls Tryd.prog 11 #[.pointer (some ⟨bs, 0, none⟩), .int .i64 id, .int .i64 we] w (Same w e) := by
  go_enter Tryd.func11, Tryd.ntmps11
  go_wp2_with (first
    | ((with_reducible refine Reg.wp_region_text ?_ ?_ ?_); (kernel_rfl); (kernel_rfl))
    | ((with_reducible refine Reg.text_nil ?_))
    | ((with_reducible refine Reg.text_plain ?_ ?_); (rfl); (intro K hK))
    | ((with_reducible apply Reg.text_nilCheck); (rfl); (intro K hK))
    | ((with_reducible apply Reg.text_bin); (rfl); (rfl); (intro K hK))
    | ((with_reducible refine Reg.text_loud ?_ ?_); (rfl); (intro K hK))
    | ((with_reducible refine Reg.text_skipG ?_ ?_); (rfl); (intro K hK)))
  go_ret
  exact ⟨rfl, by (repeat (first | exact drawn0 _ | apply drawn1 | apply drawnN))⟩

structure AddInv (w1 : World) (bo it : Nat) (I : Inn) (id we : Int) (wr : World) (first : Bool) (seen : List Nat) (u : Int) : Prop where
  only : Only (fun b => b = bo ∨ b = it) w1 wr
  iter : IterAt wr it I.bm I.clock seen
  blk : Blk wr bo #[.int .i64 id, .int .i64 we, .int .i64 u, .bool false, .int .i64 0, .int .i64 0] 65
  fst : first = true ↔ seen = []
  least : (seen = [] ∧ u = 0) ∨ ((∃ e ∈ I.es, e.born ∈ seen ∧ ∃ o ∈ I.L, e.v = ptr o.b ∧ o.used = u) ∧ ∀ e ∈ I.es, e.born ∈ seen → ∀ o ∈ I.L, e.v = ptr o.b → u ≤ o.used)

theorem InnX.of_ent {w : World} {I : Inn} (h : InnX w I []) {e : Ent} (he : e ∈ I.es) : ∃ o ∈ I.L, e.v = ptr o.b ∧ e.id = o.id ∧ ∃ i, Blk w o.b (o.cells i) 65 := by
  obtain ⟨o, ho, hoe⟩ := List.mem_map.1 (h.ent.mem_iff.1 (List.mem_map.2 ⟨e, he, rfl⟩))
  have ho : o ∈ I.L := by simpa using ho
  obtain ⟨i, hi⟩ := h.where_ ho
  exact ⟨o, ho, (congrArg Prod.snd hoe).symm, (congrArg Prod.fst hoe).symm, i, (h.t _).on i o hi⟩

def seenBy (es : List Ent) (wr : World) (it : Nat) : Nat := match wr.heap[it]? with
  | some (.mapIter _ _ seen _) => (Hp.leftOf es seen.toList).length
  | _ => 0
theorem seenBy_at {es : List Ent} {wr : World} {it b clock : Nat} {seen : List Nat} (h : IterAt wr it b clock seen) : seenBy es wr it = (Hp.leftOf es seen).length := by
  unfold IterAt at h
  simp [seenBy, h]
theorem left_less {es : List Ent} {seen : List Nat} {e : Ent} (he : e ∈ Hp.leftOf es seen) : (Hp.leftOf es (seen ++ [e.born])).length < (Hp.leftOf es seen).length := by
  have h1 : Hp.leftOf es (seen ++ [e.born]) = (Hp.leftOf es seen).filter (fun x => !(x.born == e.born)) := by
    simp only [Hp.leftOf, List.filter_filter]
    refine List.filter_congr fun x _ => ?_
    by_cases hx : x.born = e.born <;> simp [hx]
  rw [h1]
  have h2 := List.length_filter_le (fun x : Ent => !(x.born == e.born)) (Hp.leftOf es seen)
  rcases Nat.lt_or_ge ((Hp.leftOf es seen).filter (fun x => !(x.born == e.born))).length (Hp.leftOf es seen).length with h3 | h3
  · exact h3
  · have h4 := List.length_filter_eq_length_iff.1 (Nat.le_antisymm h2 h3) e he
    simp at h4

theorem AddInv.step {w1 : World} {bo it : Nat} {I : Inn} {id we : Int} {wr w' wn : World} {first : Bool} {seen : List Nat} {u u' : Int} {e : Ent} {o : One} (h : AddInv w1 bo it I id we wr first seen u)
    (hX : ∀ p ∈ I.L, ∀ q ∈ I.L, ptr p.b = ptr q.b → p = q) (hn : (I.es.map (·.born)).Nodup) (hit : bo ≠ it) (he : e ∈ I.es) (ho : o ∈ I.L) (hv : e.v = ptr o.b) (hi' : IterAt w' it I.bm I.clock (seen ++ [e.born])) (ho' : Only (fun k => k = it) wr w')
    (hwn : Only (fun k => k = bo) w' wn) (hb : Blk wn bo #[.int .i64 id, .int .i64 we, .int .i64 u', .bool false, .int .i64 0, .int .i64 0] 65) (hu : u' = if first = true ∨ o.used < u then o.used else u) :
    AddInv w1 bo it I id we wn false (seen ++ [e.born]) u' := by
  have hes : ∀ x ∈ I.es, x.born = e.born → x = e := fun x hx hxe => by
    obtain ⟨i, hi, hi2⟩ := List.mem_iff_getElem.1 hx
    obtain ⟨j, hj, hj2⟩ := List.mem_iff_getElem.1 he
    have : i = j := by
      refine (List.getElem?_inj (by simpa using hi) hn).1 ?_
      simp [List.getElem?_eq_getElem hi, List.getElem?_eq_getElem hj, hi2, hj2, hxe]
    subst this
    exact hi2.symm.trans hj2
  have huniq : ∀ x ∈ I.es, x.born = e.born → ∀ p ∈ I.L, x.v = ptr p.b → p = o := fun x hx hxe p hp hpv => by
    rw [hes x hx hxe, hv] at hpv
    exact (hX o ho p hp hpv).symm
  refine ⟨(h.only.trans ho' (fun b _ hb => .inr hb)).trans hwn (fun b _ hb => .inl hb), hwn.iter hi' (fun e => hit e.symm), hb, by simp, .inr ?_⟩
  rcases h.least with ⟨h1, h2⟩ | ⟨⟨x, hx, hxs, p, hp, hpv, hpu⟩, hall⟩
  · have hf : first = true := h.fst.2 h1
    rw [if_pos (.inl hf)] at hu
    subst hu
    refine ⟨⟨e, he, by simp, o, ho, hv, rfl⟩, fun x hx hxs q hq hqv => ?_⟩
    simp only [h1, List.nil_append, List.mem_cons, List.not_mem_nil, or_false] at hxs
    rw [huniq x hx hxs q hq hqv]
    exact Int.le_refl _
  · have hf : first ≠ true := fun hf => by rw [h.fst.1 hf] at hxs; cases hxs
    by_cases hlt : o.used < u
    · rw [if_pos (.inr hlt)] at hu
      subst hu
      refine ⟨⟨e, he, by simp, o, ho, hv, rfl⟩, fun x hx hxs q hq hqv => ?_⟩
      rcases List.mem_append.1 hxs with hxs | hxs
      · have := hall x hx hxs q hq hqv; omega
      · simp only [List.mem_cons, List.not_mem_nil, or_false] at hxs
        rw [huniq x hx hxs q hq hqv]
        exact Int.le_refl _
    · rw [if_neg (fun h => h.elim hf hlt)] at hu
      subst hu
      refine ⟨⟨x, hx, by simp [hxs], p, hp, hpv, hpu⟩, fun x hx hxs q hq hqv => ?_⟩
      rcases List.mem_append.1 hxs with hxs | hxs
      · exact hall x hx hxs q hq hqv
      · simp only [List.mem_cons, List.not_mem_nil, or_false] at hxs
        rw [huniq x hx hxs q hq hqv]
        omega

theorem Turns.ones_sub (T : Turns) : (T.L.map (·.b)).Sublist T.blocks := (List.sublist_append_right _ _).cons _
theorem Inn.ones_sub (I : Inn) : (I.L.map (·.b)).Sublist I.blocks := by
  unfold Inn.L Inn.blocks
  rw [List.map_append]
  exact ((List.Sublist.append (I.T false).ones_sub (I.T true).ones_sub).cons _).cons _
theorem InnX.ptrs {w : World} {I : Inn} {X : List One} (h : InnX w I X) : ∀ p ∈ I.L, ∀ q ∈ I.L, ptr p.b = ptr q.b → p = q := by
  intro p hp q hq hpq
  have hb : p.b = q.b := by unfold ptr at hpq; injection hpq with h; injection h with h; injection h
  have hn : (I.L.map (·.b)).Nodup := List.Nodup.sublist I.ones_sub (List.nodup_append.1 h.nd).2.1
  obtain ⟨i, hi, hi2⟩ := List.mem_iff_getElem.1 hp
  obtain ⟨j, hj, hj2⟩ := List.mem_iff_getElem.1 hq
  have : i = j := by
    refine (List.getElem?_inj (by simpa using hi) hn).1 ?_
    simp [List.getElem?_eq_getElem hi, List.getElem?_eq_getElem hj, hi2, hj2, hb]
  subst this
  exact hi2.symm.trans hj2

set_option maxRecDepth 100000 in
set_option maxHeartbeats 2000000 in
theorem add_core (I : Inn) (id we : Int) (w w1 : World) (Q : World → Prop) (h1 : 0 ≤ id) (h2 : id < 8) (h3 : 1 ≤ we) (h4 : we ≤ 100) (hI : Hid (InnX w I [])) (hno : Hp.look I.es id = none)
    (hw1 : w1 = (w.alloc (Obj.cells #[.int .i64 id, .int .i64 we, .int .i64 0, .bool false, .int .i64 0, .int .i64 0] 65)).alloc (Obj.mapIter (some I.bm) I.clock #[] I.clock))
    (hpu : Hid (∀ wr u, (∃ first seen, AddInv w1 w.heap.size (w.heap.size + 1) I id we wr first seen u ∧ Hp.leftOf I.es seen = []) → 
      Calls Tryd.prog 29 #[.iface 57 (.pointer (some ⟨(I.T false).bt, 0, none⟩)), .iface 63 (.pointer (some ⟨w.heap.size, 0, none⟩))]
        (setObjW wr I.bm (.map ((I.es ++ [({ id := id, v := ptr w.heap.size, born := I.clock } : Ent)]).map Ent.entry).toArray (I.clock + 1))) fun e w' => e = .returned (.tuple #[]) ∧ Q w')) :
    Calls Tryd.prog 11 #[.pointer (some ⟨I.bs, 0, none⟩), .int .i64 id, .int .i64 we] w fun e w' => e = .returned .nilIface ∧ ∃ w2 n, Q w2 ∧ w' = w2.drewN n := by
  have hbm := hI.out.mp.lt
  have hbs := hI.out.hd.lt
  have h0 : w.cell? ⟨I.bs, 0, none⟩ = some (.map (some I.bm)) := hI.out.hd.cell_some rfl
  have hlk := lookup_at hI.out id (.pointer none) (by rw [hno])
  have hrg := run_range_at hI.out
  have ha : ∀ o, (w.alloc o).heap[I.bm]? = w.heap[I.bm]? := fun o => Below.heap_alloc _ _ I.bm hbm
  have hr2 := fun o => hrg (w.alloc o) (ha o)
  have hr3 := fun o => hrg (w.drew.alloc o) (ha o)
  go_enter Tryd.func11, Tryd.ntmps11
  go_wp2_with (first
    | ((with_reducible refine Reg.wp_region_text ?_ ?_ ?_); (kernel_rfl); (kernel_rfl))
    | ((with_reducible refine Reg.text_nil ?_))
    | ((with_reducible refine Reg.text_plain ?_ ?_); (rfl); (intro K hK))
    | ((with_reducible apply Reg.text_nilCheck); (rfl); (intro K hK))
    | ((with_reducible apply Reg.text_bin); (rfl); (rfl); (intro K hK))
    | ((with_reducible refine Reg.text_loud ?_ ?_); (rfl); (intro K hK))
    | ((with_reducible refine Reg.text_skipG ?_ ?_); (rfl); (intro K hK)))
  go_loopw [8] (fun t wr => ∃ (first : Bool) (seen : List Nat) (u : Int), t = .bool first ∧ Hid (AddInv w1 w.heap.size (w.heap.size + 1) I id we wr first seen u)) (fun _ wr => seenBy I.es wr (w.heap.size + 1))
  case atStart =>
    refine ⟨true, [], 0, rfl, ?_⟩
    subst hw1
    refine ⟨Only.refl _ _, ?_, ?_, by simp, .inl ⟨rfl, rfl⟩⟩
    · have := iter_new (w := w.alloc (Obj.cells #[.int .i64 id, .int .i64 we, .int .i64 0, .bool false, .int .i64 0, .int .i64 0] 65)) (b := I.bm) (clock := I.clock)
      simpa using this
    · exact (Blk.new w #[.int .i64 id, .int .i64 we, .int .i64 0, .bool false, .int .i64 0, .int .i64 0] 65).alloc _
  case round =>
    obtain ⟨first, seen, u, rfl, hA⟩ := hrel
    have hx1 : Ext w w1 := by subst hw1; exact ((Only.refl _ w).alloc _).alloc _
    have hsz : w1.heap.size = w.heap.size + 2 := by subst hw1; simp
    have hold : ∀ b, b < w.heap.size → ¬ (b = w.heap.size ∨ b = w.heap.size + 1) := fun b hb h => by omega
    have hcell : ∀ b, b < w.heap.size → wr.heap[b]? = w.heap[b]? := fun b hb => (hA.out.only.block b (by omega) (hold b hb)).trans (hx1.block b hb (fun h => h))
    have hm : MapAt wr I.bm I.es I.clock := (hcell I.bm hbm).trans hI.out.mp
    rcases run_next_ints (P := Tryd.prog) hA.out.iter hm hI.out.born 0 with ⟨hl, hnx⟩ | ⟨e, he, w', hnx, hit', hon'⟩
    · have c0' : wr.cell? ⟨I.bs, 0, none⟩ = some (.map (some I.bm)) := (World.cell?_of_block (a := ⟨I.bs, 0, none⟩) (hcell I.bs hbs)).trans h0
      have hup : Sem.run Tryd.prog (Instr.mapUpdate 56 (.map (some I.bm)) (.int .i64 id) (.pointer (some ⟨w.heap.size, 0, none⟩))) wr = _ := run_update_at hI.out id (ptr w.heap.size) hno wr (hcell I.bm hbm)
      have c1' : (setObjW wr I.bm (.map ((I.es ++ [({ id := id, v := ptr w.heap.size, born := I.clock } : Ent)]).map Ent.entry).toArray (I.clock + 1))).cell? ⟨I.bs, 1, none⟩ = some (.pointer (some ⟨(I.T false).bt, 0, none⟩)) := by
        have n3 := (hI.out.notin false).2.2
        have hb1 : Blk wr I.bs I.cells 62 := hI.out.hd.of_heap (hcell I.bs hbs)
        exact (setObjW_only _).blk hb1 n3 |>.cell_some rfl
      have HP := Lib.hid (hpu.out wr u ⟨first, seen, hA.out, hl⟩)
      generalize hnew : setObjW wr I.bm (.map ((I.es ++ [({ id := id, v := ptr w.heap.size, born := I.clock } : Ent)]).map Ent.entry).toArray (I.clock + 1)) = wn at hup c1' HP
      clear hm hold hcell hlk hrg ha hr2 hr3 hpu hnew h0
      go_wp2_with (first
    | ((go_at_call 29; refine HP.out.mono ?_; rintro e w3 ⟨rfl, hQ3⟩; have HQ := Lib.hid hQ3; clear hQ3))
    | ((with_reducible refine Reg.wp_region_text ?_ ?_ ?_); (kernel_rfl); (kernel_rfl))
    | ((with_reducible refine Reg.text_nil ?_))
    | ((with_reducible refine Reg.text_plain ?_ ?_); (rfl); (intro K hK))
    | ((with_reducible apply Reg.text_nilCheck); (rfl); (intro K hK))
    | ((with_reducible apply Reg.text_bin); (rfl); (rfl); (intro K hK))
    | ((with_reducible refine Reg.text_loud ?_ ?_); (rfl); (intro K hK))
    | ((with_reducible refine Reg.text_skipG ?_ ?_); (rfl); (intro K hK)))
      go_ret
      exact ⟨rfl, _, 0, HQ.out, rfl⟩
    · have he' : e ∈ I.es := (List.mem_filter.1 he).1
      obtain ⟨o, ho, hov, hoid, i, hob⟩ := hI.out.of_ent he'
      have hm' : MapAt w' I.bm I.es I.clock := hon'.map hm (by omega)
      have hen := run_entry_ints (P := Tryd.prog) hit' hm' hI.out.bnd he'
      rw [hov] at hen hnx
      unfold ptr at hen hnx
      have hbo : Blk w' w.heap.size #[.int .i64 id, .int .i64 we, .int .i64 u, .bool false, .int .i64 0, .int .i64 0] 65 := hon'.blk hA.out.blk (by omega)
      have hob' : Blk w' o.b (o.cells i) 65 := hon'.blk (hob.of_heap (hcell o.b hob.lt)) (by have := hob.lt; omega)
      have hne : o.b ≠ w.heap.size := by have := hob.lt; omega
      have d2 : w'.cell? ⟨w.heap.size, 2, none⟩ = some (.int .i64 u) := hbo.cell_some rfl
      have e2 : w'.frozen? ⟨w.heap.size, 2, none⟩ = false := hbo.free 2
      have c2 : w'.cell? ⟨o.b, 2, none⟩ = some (.int .i64 o.used) := hob'.cell_some rfl
      have hstep := fun wn u' => AddInv.step (wn := wn) (u' := u') hA.out hI.out.ptrs hI.out.bnd (by omega) he' ho hov hit' hon'
      have hmeas : ∀ wn, Only (fun k => k = w.heap.size) w' wn → seenBy I.es wn (w.heap.size + 1) < seenBy I.es wr (w.heap.size + 1) := fun wn hwn => by
        rw [seenBy_at hA.out.iter, seenBy_at (hwn.iter hit' (by omega))]
        exact left_less he
      have HS := Lib.hid hstep
      have HM := Lib.hid hmeas
      clear hmeas
      clear hstep hm hold hcell hlk hrg ha hr2 hr3 hpu h0 hm' hob hob' hit' hon' he
      have HB := Lib.hid hbo
      clear hbo
      cases first
      all_goals (go_wp2_with (first
    | ((with_reducible refine Reg.wp_region_text ?_ ?_ ?_); (kernel_rfl); (kernel_rfl))
    | ((with_reducible refine Reg.text_nil ?_))
    | ((with_reducible refine Reg.text_plain ?_ ?_); (rfl); (intro K hK))
    | ((with_reducible apply Reg.text_nilCheck); (rfl); (intro K hK))
    | ((with_reducible apply Reg.text_bin); (rfl); (rfl); (intro K hK))
    | ((with_reducible refine Reg.text_loud ?_ ?_); (rfl); (intro K hK))
    | ((with_reducible refine Reg.text_skipG ?_ ?_); (rfl); (intro K hK))))
      all_goals go_roundw
      all_goals first
        | exact HM.out _ (((Only.refl (fun k => k = w.heap.size) w').setCell (a := ⟨w.heap.size, 2, none⟩) _ (fun _ => rfl)).drew)
        | exact HM.out _ ((Only.refl (fun k => k = w.heap.size) w').drew)
        | exact ⟨false, _, o.used, rfl, HS.out _ _ (((Only.refl (fun k => k = w.heap.size) w').setCell (a := ⟨w.heap.size, 2, none⟩) _ (fun _ => rfl)).drew) (HB.out.set 2 _) (by simp; try omega)⟩
        | exact ⟨false, _, u, rfl, HS.out _ _ ((Only.refl (fun k => k = w.heap.size) w').drew) HB.out (by simp; try omega)⟩

theorem InnX.lt {w : World} {I : Inn} {X : List One} (h : InnX w I X) : ∀ b ∈ I.blocks, b < w.heap.size := by
  intro b hb
  simp only [Inn.blocks, List.mem_cons, List.mem_append] at hb
  rcases hb with rfl | rfl | hb | hb
  · exact h.hd.lt
  · exact h.mp.lt
  · exact (h.t _).lt b hb
  · exact (h.t _).lt b hb

theorem add_calls {w : World} {bs : Nat} {B : List Nat} {l : List Rec} (h : SchAt w bs B l) (id we : Int) (h1 : 0 ≤ id) (h2 : id < 8) (h3 : 1 ≤ we) (h4 : we ≤ 100) (hn : ∀ r ∈ l, r.id ≠ id) :
    Calls Tryd.prog 11 #[ptr bs, .int .i64 id, .int .i64 we] w fun e w' => e = .returned .nilIface ∧ ∃ u, Least u l ∧ Goes bs B (l ++ [⟨id, we, u, false, 0⟩]) w w' := by
  obtain ⟨I, rfl, rfl, hI, hp, hn'⟩ := h.no hn
  refine (add_core I id we w _ (fun w3 => ∃ u, Least u l ∧ Goes I.bs I.blocks (l ++ [⟨id, we, u, false, 0⟩]) w w3) h1 h2 h3 h4 hI (hI.look_none hn') rfl (Lib.hid ?_)).mono ?_
  · rintro wr u ⟨first, seen, hA, hl⟩
    have hx : Ext w wr := (((Only.refl (fun _ => False) w).alloc _).alloc _).trans hA.only (fun b hb h => by omega)
    have hX := hI.of_only hx (fun _ _ h => h)
    have hbo : w.heap.size ∉ I.blocks := fun hb => by have := hI.lt _ hb; omega
    have hall : ∀ e ∈ I.es, e.born ∈ seen := fun e he => by
      by_cases hs : e.born ∈ seen
      · exact hs
      · have : e ∈ Hp.leftOf I.es seen := List.mem_filter.2 ⟨he, by simp [hs]⟩
        rw [hl] at this; cases this
    have hleast : Least u l := by
      have hent : ∀ o ∈ I.L, ∃ e ∈ I.es, e.v = ptr o.b := fun o ho => by
        obtain ⟨pre, e, post, e1, _, _, e2, _⟩ := hI.look_some (o := o) (by simpa using ho)
        exact ⟨e, by rw [e1]; simp, e2⟩
      rcases hA.least with ⟨hs, hu⟩ | ⟨⟨e, he, _, o, ho, _, hu⟩, hmin⟩
      · refine .inl ⟨?_, hu⟩
        cases hl2 : l with
        | nil => rfl
        | cons r l' =>
          obtain ⟨o, ho, _⟩ := List.mem_map.1 (hp.mem_iff.2 (by rw [hl2]; simp : r ∈ l))
          obtain ⟨e, he, _⟩ := hent o ho
          have := hall e he
          rw [hs] at this; cases this
      · refine .inr ⟨⟨o.r, hp.mem_iff.1 (List.mem_map.2 ⟨o, ho, rfl⟩), hu⟩, fun r hr => ?_⟩
        obtain ⟨o', ho', rfl⟩ := List.mem_map.1 (hp.mem_iff.2 hr)
        obtain ⟨e', he', hv'⟩ := hent o' ho'
        exact hmin e' he' (hall e' he') o' ho' hv'
    have hub : 0 ≤ u ∧ u ≤ 1152921504606846976 := by
      rcases hleast with ⟨_, rfl⟩ | ⟨⟨r, hr, rfl⟩, _⟩
      · omega
      · have := h.ok r hr
        exact ⟨this.u1, this.u2⟩
    have hP := InnX.put (o := ⟨w.heap.size, id, we, u, false, 0⟩) hX hbo (fun p hp => hn' p (by simpa using hp)) ⟨h1, h2, h3, h4, hub.1, hub.2, (by decide : (-9223372036854775808 : Int) ≤ 0), (by decide : (0 : Int) < 9223372036854775808)⟩
    have hnbm : w.heap.size ≠ I.bm := fun e => by have := hI.mp.lt; omega
    have hon := setObjW_only (w := wr) (b := I.bm) (.map ((I.es ++ [({ id := id, v := ptr w.heap.size, born := I.clock } : Ent)]).map Ent.entry).toArray (I.clock + 1))
    have hb := hon.blk hA.blk hnbm
    refine (hP.pushes (s := false) (p := 0) hb rfl).mono ?_
    rintro e w4 ⟨rfl, I'', f1, f2, f3, hY, f4, f5, f6, _⟩
    have hX1 : Only (fun b => b ∈ I.blocks) w (setObjW wr I.bm (.map ((I.es ++ [({ id := id, v := ptr w.heap.size, born := I.clock } : Ent)]).map Ent.entry).toArray (I.clock + 1))) :=
      (hx.mono (G := fun _ => False) (fun _ _ h => h.elim)).trans hon (fun b _ hb => by subst hb; simp [Inn.blocks])
    refine ⟨rfl, u, hleast, ⟨I''.blocks, ⟨I'', f1, rfl, hY, ?_⟩, ?_⟩, ?_⟩
    · refine (f4.map _).trans (List.Perm.trans ?_ List.perm_append_comm)
      exact List.Perm.cons _ hp
    · intro b hb
      rcases f5 b hb with hb | hb | hb
      · exact .inl hb
      · exact .inr (Nat.le_of_eq hb.symm)
      · exact .inr (Nat.le_trans hX1.size hb)
    · exact hX1.trans f6 (fun b hlt hb => hb.elim (fun hb => hb) (fun hb => by have hb : b = w.heap.size := hb; omega))
  · rintro e w' ⟨rfl, w3, n, ⟨u, hu, hg⟩, rfl⟩
    exact ⟨rfl, u, hu, ⟨hg.at_.imp fun B' hB => ⟨hB.1.of_only (F := fun _ => False) ((Only.refl _ _).drewN n) (fun _ _ h => h), hB.2⟩, hg.only.drewN n⟩⟩

theorem add_twice {w : World} {bs : Nat} {B : List Nat} {l : List Rec} (h : SchAt w bs B l) {r : Rec} (hr : r ∈ l) (we : Int) (h3 : 1 ≤ we) (h4 : we ≤ 100) {e : Value} (hg : w.cell? ⟨1, 0, none⟩ = some e) :
    Calls Tryd.prog 11 #[ptr bs, .int .i64 r.id, .int .i64 we] w (Same w e) := by
  have hok := h.ok r hr
  obtain ⟨I, o, i, rfl, rfl, hI, hp, ho, rfl, hi⟩ := h.inn hr
  exact add_twice_core I.bs I.bm o.b o.id we e w hok.id0 hok.id8 h3 h4 hg (hI.hd.cell_some rfl) (hI.lk ho)
theorem add_bad {w : World} (bs : Nat) (id we : Int) (hs : ¬ (0 ≤ id ∧ id < 8 ∧ 1 ≤ we ∧ we ≤ 100)) {e : Value} (hg : w.cell? ⟨0, 0, none⟩ = some e) :
    Calls Tryd.prog 11 #[ptr bs, .int .i64 id, .int .i64 we] w (Same w e) := add_range bs id we e w (by omega) hg
end Go.Proofs.YtjchfkpcglpgdaaDoor
