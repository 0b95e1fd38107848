/-
  The scheduler in memory: Clone.
-/
import Derived.Test.YtjchfkpcglpgdaaDoorSdS
set_option linter.unusedSimpArgs false
set_option linter.unusedVariables false
namespace Go.Proofs.YtjchfkpcglpgdaaDoor
open Go.RowKit Go.Hp

def recOf (L : List One) (id : Int) : Rec := match L.find? (fun o => o.id == id) with | some o => o.r | none => ⟨0, 0, 0, false, 0⟩

theorem recOf_mem {L : List One} (hn : (L.map (·.id)).Nodup) {o : One} (ho : o ∈ L) : recOf L o.id = o.r := by
  unfold recOf
  cases hf : L.find? (fun p => p.id == o.id) with
  | none => have := List.find?_eq_none.1 hf o ho; simp at this
  | some p =>
    have h1 := List.mem_of_find?_eq_some hf
    have h2 := List.find?_some hf
    simp only [beq_iff_eq] at h2
    rw [nodup_same hn h1 ho h2]

theorem recOf_all {w : World} {I : Inn} (h : InnX w I []) : (I.es.map fun e => recOf I.L e.id).Perm (I.L.map One.r) := by
  have h1 := (h.ent.map (fun p => recOf I.L p.1))
  simp only [List.map_map, List.nil_append] at h1
  refine h1.trans (List.Perm.of_eq (List.map_congr_left fun o ho => ?_))
  exact recOf_mem (InnX.idsL h) ho

structure CloneInv (w : World) (I : Inn) (bs' it : Nat) (wr : World) (done : List Ent) : Prop where
  ext : Ext w wr
  iter : IterAt wr it I.bm I.clock (done.map (·.born))
  ge : w.heap.size ≤ it
  sub : ∀ e ∈ done, e ∈ I.es
  nd : (done.map (·.born)).Nodup
  sch : ∃ I' : Inn, I'.bs = bs' ∧ InnX wr I' [] ∧ (I'.L.map One.r).Perm (done.map fun e => recOf I.L e.id) ∧ (∀ b ∈ I'.blocks, w.heap.size ≤ b ∧ b ≠ it)

def ClonePost (w : World) (l : List Rec) (e : Ending) (w' : World) : Prop := ∃ bs' B', e = .returned (.pointer (some ⟨bs', 0, none⟩)) ∧ SchAt w' bs' B' l ∧ (∀ b ∈ B', w.heap.size ≤ b) ∧ Ext w w'

theorem nodup_of_map {α β : Type} (f : α → β) {l : List α} (h : (l.map f).Nodup) : l.Nodup := by
  unfold List.Nodup at *
  rw [List.pairwise_map] at h
  exact h.imp fun h e => h (by rw [e])

theorem CloneInv.done {w : World} {I : Inn} {bs' it : Nat} {wr : World} {dn : List Ent} {l : List Rec} (h : CloneInv w I bs' it wr dn) (hI : InnX w I []) (hp : (I.L.map One.r).Perm l) (hl : Hp.leftOf I.es (dn.map (·.born)) = []) :
    ClonePost w l (.returned (.pointer (some ⟨bs', 0, none⟩))) wr := by
  obtain ⟨I', e1, e2, e3, e4⟩ := h.sch
  refine ⟨bs', I'.blocks, rfl, ⟨I', e1, rfl, e2, ?_⟩, fun b hb => (e4 b hb).1, h.ext⟩
  refine e3.trans (List.Perm.trans (List.Perm.map _ ?_) ((recOf_all hI).trans hp))
  refine (List.perm_ext_iff_of_nodup (nodup_of_map (·.born) h.nd) (nodup_of_map (·.born) hI.bnd)).2 fun e => ⟨h.sub e, fun he => ?_⟩
  by_cases hs : e.born ∈ dn.map (·.born)
  · obtain ⟨d, hd, hde⟩ := List.mem_map.1 hs
    have : d = e := by
      obtain ⟨i, hi, hi2⟩ := List.mem_iff_getElem.1 (h.sub d hd)
      obtain ⟨j, hj, hj2⟩ := List.mem_iff_getElem.1 he
      have : i = j := by
        refine (List.getElem?_inj (by simpa using hi) hI.bnd).1 ?_
        simp [List.getElem?_eq_getElem hi, List.getElem?_eq_getElem hj, hi2, hj2, hde]
      subst this
      exact hi2.symm.trans hj2
    exact this ▸ hd
  · have : e ∈ Hp.leftOf I.es (dn.map (·.born)) := List.mem_filter.2 ⟨he, by simpa using hs⟩
    rw [hl] at this; cases this

theorem CloneInv.next {w : World} {I : Inn} {bs' it : Nat} {wr w' : World} {dn : List Ent} {e : Ent} {o : One} {i : Nat} (h : CloneInv w I bs' it wr dn) (hI : InnX w I []) (he : e ∈ Hp.leftOf I.es (dn.map (·.born)))
    (ho : o ∈ I.L) (hoid : e.id = o.id) (hit : IterAt w' it I.bm I.clock (dn.map (·.born) ++ [e.born])) (hon : Only (fun k => k = it) wr w') :
    ∃ (bm br ba : Nat) (W6 : World), (w'.alloc (.cells (o.cells i) 65)).cell? ⟨bs', 0, none⟩ = some (.map (some bm)) ∧
      Sem.run Tryd.prog (Instr.mapUpdate 56 (.map (some bm)) (.int .i64 o.id) (.pointer (some ⟨w'.heap.size, 0, none⟩))) (w'.alloc (.cells (o.cells i) 65)) = .ok () W6 ∧
      W6.cell? ⟨bs', 1, none⟩ = some (.pointer (some ⟨br, 0, none⟩)) ∧ W6.cell? ⟨bs', 2, none⟩ = some (.pointer (some ⟨ba, 0, none⟩)) ∧ W6.cell? ⟨w'.heap.size, 3, none⟩ = some (.bool o.sleeps) ∧
      Calls Tryd.prog 29 #[.iface 57 (.pointer (some ⟨if o.sleeps = true then ba else br, 0, none⟩)), .iface 63 (.pointer (some ⟨w'.heap.size, 0, none⟩))] W6 fun x w7 =>
        x = .returned (.tuple #[]) ∧ CloneInv w I bs' it w7 (dn ++ [e]) := by
  obtain ⟨I', rfl, hI', hp, hB⟩ := h.sch
  have hitl : it < wr.heap.size := h.iter.lt
  have hsz := hon.size
  have hrec := recOf_mem (InnX.idsL hI) ho
  have hmem : e ∈ I.es ∧ e.born ∉ dn.map (·.born) := by
    have := List.mem_filter.1 he
    exact ⟨this.1, by simpa using this.2⟩
  have hI5 : InnX (w'.alloc (.cells (o.cells i) 65)) I' [] := hI'.of_only (hon.alloc _) (fun b hb e => (hB b hb).2 e)
  have hlt : ∀ b ∈ I'.blocks, b < w'.heap.size := fun b hb => Nat.lt_of_lt_of_le (hI'.lt b hb) hsz
  have hnb : w'.heap.size ∉ I'.blocks := fun hb => Nat.lt_irrefl _ (hlt _ hb)
  have hids : ∀ p ∈ I'.L, p.id ≠ o.id := fun p hpm hpe => by
    have h1 := hp.mem_iff.1 (List.mem_map.2 ⟨p, hpm, rfl⟩)
    obtain ⟨d, hd, hdr⟩ := List.mem_map.1 h1
    obtain ⟨od, hod, _, hdid, _⟩ := hI.of_ent (h.sub d hd)
    have h2 := recOf_mem (InnX.idsL hI) hod
    rw [hdid] at hdr
    rw [h2] at hdr
    have h3 : od.id = p.id := congrArg Rec.id hdr
    have h4 : d.id = e.id := by omega
    have h5 : d = e := by
      have hn : (I.es.map (·.id)).Nodup := by
        have h1 := (hI.ent.map Prod.fst).nodup_iff.2
        simp only [List.map_map] at h1
        exact h1 hI.ids
      obtain ⟨a, ha, ha2⟩ := List.mem_iff_getElem.1 (h.sub d hd)
      obtain ⟨b, hb, hb2⟩ := List.mem_iff_getElem.1 hmem.1
      have : a = b := by
        refine (List.getElem?_inj (by simpa using ha) hn).1 ?_
        simp [List.getElem?_eq_getElem ha, List.getElem?_eq_getElem hb, ha2, hb2, h4]
      subst this
      exact ha2.symm.trans hb2
    exact hmem.2 (List.mem_map.2 ⟨d, hd, by rw [h5]⟩)
  have hok : Okr o.r := hI.ok o (by simpa using ho)
  have hP := InnX.put (o := { o with b := w'.heap.size }) hI5 hnb hids hok
  have hnone : Hp.look I'.es o.id = none := hI5.look_none (by simpa using hids)
  have hup := run_update_at hI5 o.id (.pointer (some ⟨w'.heap.size, 0, none⟩)) hnone _ rfl
  have hnbm : w'.heap.size ≠ I'.bm := fun e => hnb (by simp [Inn.blocks, ← e])
  have hb5 : Blk (w'.alloc (.cells (o.cells i) 65)) w'.heap.size (({ o with b := w'.heap.size } : One).cells i) 65 := Blk.new w' _ _
  have hon6 := setObjW_only (w := w'.alloc (.cells (o.cells i) 65)) (b := I'.bm) (.map ((I'.es ++ [({ id := o.id, v := ptr w'.heap.size, born := I'.clock } : Ent)]).map Ent.entry).toArray (I'.clock + 1))
  have hb6 := hon6.blk hb5 hnbm
  refine ⟨I'.bm, (I'.T false).bt, (I'.T true).bt, _, hI5.hd.cell_some rfl, hup, hP.hd.cell_some rfl, hP.hd.cell_some rfl, hb6.cell_some rfl, ?_⟩
  have hpu := hP.pushes (s := o.sleeps) (p := i) hb6 rfl
  have hbt : (if o.sleeps = true then (I'.T true).bt else (I'.T false).bt) = (I'.T o.sleeps).bt := by cases o.sleeps <;> rfl
  rw [hbt]
  refine hpu.mono ?_
  rintro x w7 ⟨rfl, I'', f1, f2, f3, hY, f4, f5, f6, _⟩
  have hx5 : Only (fun b => b ∈ I'.blocks) (w'.alloc (.cells (o.cells i) 65)) (setObjW (w'.alloc (.cells (o.cells i) 65)) I'.bm (.map ((I'.es ++ [({ id := o.id, v := ptr w'.heap.size, born := I'.clock } : Ent)]).map Ent.entry).toArray (I'.clock + 1))) :=
    hon6.mono (fun b _ hb => by rw [hb]; simp [Inn.blocks])
  have hall : Only (fun b => b ∈ I'.blocks ∨ b = w'.heap.size) (w'.alloc (.cells (o.cells i) 65)) w7 := (hx5.mono (fun _ _ hb => .inl hb)).trans f6 (fun _ _ hb => hb)
  have hs5 : (w'.alloc (.cells (o.cells i) 65)).heap.size = w'.heap.size + 1 := by simp
  refine ⟨rfl, ?_, ?_, h.ge, ?_, ?_, I'', f1, hY, ?_, ?_⟩
  · have e1 : Ext w w' := h.ext.trans hon (fun b hb hbi => by have h1 : b = it := hbi; have := h.ge; omega)
    refine (e1.alloc _).trans hall (fun b hb hbi => ?_)
    have := e1.size
    rcases hbi with hbi | hbi
    · have := (hB b hbi).1; omega
    · have hbi : b = w'.heap.size := hbi; omega
  · rw [List.map_append]
    refine hall.iter (((Only.refl (fun _ => False) w').alloc _).iter hit (fun h => h)) (fun hbi => ?_)
    rcases hbi with hbi | hbi
    · exact (hB _ hbi).2 rfl
    · have hbi : it = w'.heap.size := hbi; omega
  · intro d hd
    rcases List.mem_append.1 hd with hd | hd
    · exact h.sub d hd
    · simp only [List.mem_cons, List.not_mem_nil, or_false] at hd; subst hd; exact hmem.1
  · rw [List.map_append]
    refine List.nodup_append.2 ⟨h.nd, by simp, fun a ha b hb => ?_⟩
    simp only [List.map_cons, List.map_nil, List.mem_cons, List.not_mem_nil, or_false] at hb
    subst hb
    exact fun e => hmem.2 (e ▸ ha)
  · rw [List.map_append]
    refine (f4.map One.r).trans ?_
    refine List.Perm.trans ?_ List.perm_append_comm
    have : recOf I.L e.id = ({ o with b := w'.heap.size } : One).r := by rw [hoid]; exact hrec
    simp only [List.map_cons, List.map_nil, List.cons_append, List.nil_append, this]
    exact hp.cons _
  · intro b hb
    have e1 : Ext w w' := h.ext.trans hon (fun b hb hbi => by have h1 : b = it := hbi; have := h.ge; omega)
    have hz := e1.size
    rcases f5 b hb with hb | hb | hb
    · exact hB b hb
    · have hb : b = w'.heap.size := hb
      omega
    · have h8 := Nat.le_trans hx5.size hb
      omega

set_option maxRecDepth 100000 in
set_option maxHeartbeats 2000000 in
theorem clone_calls {w : World} {bs : Nat} {B : List Nat} {l : List Rec} (h : SchAt w bs B l) :
    Calls Tryd.prog 21 #[.pointer (some ⟨bs, 0, none⟩)] w (ClonePost w l) := by
  obtain ⟨I, rfl, rfl, hI, hp⟩ := h
  have hI : InnX w I [] := hI
  have HP := Lib.hid hp
  have HI := Lib.hid hI
  have hbm := hI.mp.lt
  have hbs := hI.hd.lt
  have h0 : w.cell? ⟨I.bs, 0, none⟩ = some (.map (some I.bm)) := hI.hd.cell_some rfl
  clear hp hI
  go_enter Tryd.func21, Tryd.ntmps21
  go_wp2_with (first
    | ((go_at_call 10; refine (new_calls _).mono ?_; rintro e w1 ⟨bs', B1, he1, h1, h2, h3⟩; unfold ptr at he1; subst he1; have h0' := Hp.Ext.cell h3 h0; have hrg := fun w' hw' => run_range_at (HI.out.of_only h3 (fun _ _ h => h)) w' hw'; have H1 := Lib.hid h1; have H2 := Lib.hid h2; have H3 := Lib.hid h3; clear h1 h2 h3 h0))
    | ((with_reducible refine Reg.wp_region_text ?_ ?_ ?_); (kernel_rfl); (kernel_rfl))
    | ((with_reducible refine Reg.text_nil ?_))
    | ((with_reducible refine Reg.text_plain ?_ ?_); (rfl); (intro K hK))
    | ((with_reducible apply Reg.text_nilCheck); (rfl); (intro K hK))
    | ((with_reducible apply Reg.text_bin); (rfl); (rfl); (intro K hK))
    | ((with_reducible refine Reg.text_loud ?_ ?_); (rfl); (intro K hK))
    | ((with_reducible refine Reg.text_skipG ?_ ?_); (rfl); (intro K hK)))
  go_loopw [4] (fun _ wr => ∃ done, Hid (CloneInv w I bs' w1.heap.size wr done)) (fun _ wr => seenBy I.es wr w1.heap.size)
  case atStart =>
    obtain ⟨I', e1, e2, e3, e4⟩ := H1.out
    have e3 : InnX w1 I' [] := e3
    have hlt := (sch bs' []).lt H1.out
    refine ⟨[], ⟨H3.out.alloc _, iter_new, H3.out.size, by simp, by simp, I', e1, e3.of_only ((Only.refl (fun _ => False) w1).alloc _) (fun _ _ h => h), e4, fun b hb => ?_⟩⟩
    rw [e2] at hb
    have := hlt b hb
    exact ⟨H2.out b hb, by omega⟩
  case round =>
    obtain ⟨dn, hA⟩ := hrel
    have hIr := HI.out.of_only hA.out.ext (fun _ _ h => h)
    rcases run_next_ints (P := Tryd.prog) hA.out.iter hIr.mp hIr.born 0 with ⟨hl, hnx⟩ | ⟨e, he, w', hnx, hit', hon'⟩
    · clear hIr hrg hbm hbs h0'
      go_wp2_with (first
    | ((with_reducible refine Reg.wp_region_text ?_ ?_ ?_); (kernel_rfl); (kernel_rfl))
    | ((with_reducible refine Reg.text_nil ?_))
    | ((with_reducible refine Reg.text_plain ?_ ?_); (rfl); (intro K hK))
    | ((with_reducible apply Reg.text_nilCheck); (rfl); (intro K hK))
    | ((with_reducible apply Reg.text_bin); (rfl); (rfl); (intro K hK))
    | ((with_reducible refine Reg.text_loud ?_ ?_); (rfl); (intro K hK))
    | ((with_reducible refine Reg.text_skipG ?_ ?_); (rfl); (intro K hK)))
      go_ret
      exact hA.out.done HI.out HP.out hl
    · have he' : e ∈ I.es := (List.mem_filter.1 he).1
      obtain ⟨o, ho, hov, hoid, i, hob⟩ := HI.out.of_ent he'
      have hIw := hIr.of_only hon' (fun b hb hbi => by have := HI.out.lt b hb; have := H3.out.size; omega)
      have hen := run_entry_ints (P := Tryd.prog) hit' hIw.mp hIw.bnd he'
      rw [hov] at hen hnx
      unfold ptr at hen hnx
      have hob' : Blk w' o.b (o.cells i) 65 := hon'.blk (hA.out.ext.blk hob (fun h => h)) (by have := hob.lt; have := H3.out.size; omega)
      have c0 : w'.cell? ⟨o.b, 0, none⟩ = some (.int .i64 o.id) := hob'.cell_some rfl
      have c1 : w'.cell? ⟨o.b, 1, none⟩ = some (.int .i64 o.weight) := hob'.cell_some rfl
      have c2 : w'.cell? ⟨o.b, 2, none⟩ = some (.int .i64 o.used) := hob'.cell_some rfl
      have c3 : w'.cell? ⟨o.b, 3, none⟩ = some (.bool o.sleeps) := hob'.cell_some rfl
      have c4 : w'.cell? ⟨o.b, 4, none⟩ = some (.int .i64 o.till) := hob'.cell_some rfl
      have c5 : w'.cell? ⟨o.b, 5, none⟩ = some (.int .i64 i) := hob'.cell_some rfl
      obtain ⟨bm', br, ba, W6, k0, hup, k1, k2, k3, hpu⟩ := CloneInv.next (i := i) hA.out HI.out he ho hoid hit' hon'
      have HM := Lib.hid (left_less he)
      have HPU := Lib.hid hpu
      have HIT := Lib.hid hA.out.iter
      rw [hoid] at hen hnx
      unfold One.cells at k0 hup
      clear hIr hrg hbm hbs h0' hIw hpu he ho hoid hov hob hob' hit' hon'
      generalize o.sleeps = s at *
      cases s
      all_goals simp only [Bool.false_eq_true, if_false, if_true] at HPU
      all_goals (go_wp2_with (first
    | ((go_at_call 31; go_in))
    | ((go_at_call 29; refine HPU.out.mono ?_; rintro e w7 ⟨rfl, hQ7⟩; have HC := Lib.hid hQ7; clear hQ7))
    | ((with_reducible refine Reg.wp_region_text ?_ ?_ ?_); (kernel_rfl); (kernel_rfl))
    | ((with_reducible refine Reg.text_nil ?_))
    | ((with_reducible refine Reg.text_plain ?_ ?_); (rfl); (intro K hK))
    | ((with_reducible apply Reg.text_nilCheck); (rfl); (intro K hK))
    | ((with_reducible apply Reg.text_bin); (rfl); (rfl); (intro K hK))
    | ((with_reducible refine Reg.text_loud ?_ ?_); (rfl); (intro K hK))
    | ((with_reducible refine Reg.text_skipG ?_ ?_); (rfl); (intro K hK))))
      all_goals go_roundw
      all_goals first
        | exact ⟨_, HC⟩
        | (have h7 := HC.out.iter; rw [seenBy_at HIT.out, seenBy_at h7, List.map_append]; exact HM.out)
end Go.Proofs.YtjchfkpcglpgdaaDoor
