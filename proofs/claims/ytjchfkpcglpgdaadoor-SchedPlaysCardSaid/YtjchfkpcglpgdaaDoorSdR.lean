/-
  The library's sort over a slice of the call's own; Ready; SameInts.
-/
import Derived.Test.YtjchfkpcglpgdaaDoorSdQ
import Derived.Test.YtjchfkpcglpgdaaDoorShelf
set_option linter.unusedSimpArgs false
set_option linter.unusedVariables false
namespace Go.Proofs.YtjchfkpcglpgdaaDoor
open Go.RowKit Go.Hp

def sorted (l : List Int) : List Int := l.mergeSort fun x y => decide (x ≤ y)
theorem sorted_perm {l l' : List Int} (h : l.Perm l') : sorted l = sorted l' := by
  have tr : ∀ a b c : Int, decide (a ≤ b) = true → decide (b ≤ c) = true → decide (a ≤ c) = true := fun a b c h1 h2 => by simp only [decide_eq_true_eq] at *; omega
  have to : ∀ a b : Int, (decide (a ≤ b) || decide (b ≤ a)) = true := fun a b => by simp only [Bool.or_eq_true, decide_eq_true_eq]; omega
  exact List.Perm.eq_of_pairwise (le := fun a b => decide (a ≤ b) = true) (fun a b _ _ h1 h2 => by simp only [decide_eq_true_eq] at h1 h2; omega) (List.pairwise_mergeSort tr to l) (List.pairwise_mergeSort tr to l')
    (((List.mergeSort_perm l _).trans h).trans (List.mergeSort_perm l' _).symm)
theorem sorted_len (l : List Int) : (sorted l).length = l.length := List.length_mergeSort l

theorem row_sorted {w : World} {e : TypeId} {g cap : Nat} {l l' : List Int} {tail : List Value} (h : Row w e 1 (.slice (some ⟨g, 0, none⟩) l.length cap) l.length (l.map (Value.int .i64)) (some g) tail) (hl : l'.length = l.length) (n : Nat) (os : Array Obj) :
    Row (Sort.grow (Sort.putRow (Value.int .i64) (Sort.ahead w n) g 0 l'.toArray) os) e 1 (.slice (some ⟨g, 0, none⟩) l.length cap) l.length (l'.map (Value.int .i64)) (some g) tail ∧
      Only (fun b => some g = some b) w (Sort.grow (Sort.putRow (Value.int .i64) (Sort.ahead w n) g 0 l'.toArray) os) := by
  obtain ⟨h1, cap', h2, h3, h4, h5, h6⟩ := h
  simp only [Value.slice.injEq, Option.some.injEq, true_and] at h2
  subst h2
  have hlt := h3.lt
  have hg : (Sort.grow (Sort.putRow (Value.int .i64) (Sort.ahead w n) g 0 l'.toArray) os).heap[g]? = some (.cells (Sort.putCells (Value.int .i64) 0 l'.toArray (l.map (Value.int .i64) ++ tail).toArray) e (0, 0)) := by
    unfold Blk at h3
    show ((w.heap.modify g _) ++ os)[g]? = _
    rw [Array.getElem?_append_left (by simpa using hlt), Array.getElem?_modify, if_pos rfl, h3]
    rfl
  refine ⟨⟨by simpa using hl, cap, rfl, ?_, by simpa [hl] using h4, h5, h6⟩, ?_⟩
  · unfold Blk
    rw [hg]
    congr 1
    congr 1
    apply Array.ext_getElem?
    intro k
    simp only [Sort.putCells, Array.getElem?_mapIdx, List.getElem?_toArray, Nat.zero_le, true_and, Nat.zero_add, List.size_toArray, Nat.sub_zero]
    by_cases hk : k < l'.length
    · rw [List.getElem?_append_left (by simpa using (by omega : k < l.length)), List.getElem?_append_left (by simpa using hk), List.getElem?_map, List.getElem?_map, List.getElem?_eq_getElem hk, List.getElem?_eq_getElem (by omega : k < l.length)]
      simp [hk]
    · rw [List.getElem?_append_right (by simpa using (by omega : l.length ≤ k)), List.getElem?_append_right (by simpa using (by omega : l'.length ≤ k))]
      have hk' : ¬ k < l.length := by omega
      simp [hk, hl, hk']
  · refine ⟨rfl, rfl, rfl, ?_, fun k hk hn => ?_⟩
    · show w.heap.size ≤ ((w.heap.modify g _) ++ os).size
      simp
    · show ((w.heap.modify g _) ++ os)[k]? = _
      rw [Array.getElem?_append_left (by simpa using hk), Array.getElem?_modify, if_neg]
      exact fun e => hn (by rw [e])

/-- slices.Sort over a slice of the call's own. -/
theorem sort_calls {w : World} {v : Value} {l : List Int} {B : List Nat} (h : (ints v l).at_ w B) (hsz : l.length < 4611686018427387904) :
    Calls Tryd.prog 36 #[v] w fun e w' => e = .returned (.tuple #[]) ∧ Lvs B (ints v (sorted l)) w w' := by
  obtain ⟨arr, tail, h1, rfl⟩ := h
  cases arr with
  | none =>
    obtain ⟨h2, h3, h4, h5⟩ := id h1
    have : l = [] := List.length_eq_zero_iff.1 h4
    subst this h3
    refine (Tryd.slices_Sort_int_none none 0 w).mono ?_
    rintro e w' ⟨rfl, rfl⟩
    have hs : sorted [] = [] := by simp [sorted]
    exact ⟨rfl, .same ⟨none, tail, by rw [hs]; exact h1, rfl⟩ (Only.refl _ _)⟩
  | some g =>
    obtain ⟨h2, cap, rfl, h3, h4, h5, h6⟩ := id h1
    refine (Tryd.slices_Sort_int g 0 cap l w (fun j hj => ?_) h3.lt hsz).mono ?_
    · have hj' : j < l.length := by simpa using hj
      refine ⟨?_, h3.free _⟩
      rw [Nat.zero_add]
      refine h1.cell ?_
      simp [List.getElem?_eq_getElem hj']
    · rintro e w' ⟨rfl, n, os, rfl⟩
      obtain ⟨q1, q2⟩ := row_sorted h1 (l' := sorted l) (sorted_len l) n os
      refine ⟨rfl, ⟨[g], ⟨some g, tail, by rw [sorted_len]; exact q1, rfl⟩, by simp⟩, q2.mono (fun b _ hb => ?_)⟩
      simp only [Option.some.injEq] at hb
      simp [hb]

def readyIds (l : List Rec) : List Int := sorted ((l.filter fun r => !r.sleeps).map (·.id))

theorem TurnsAt.elems {w : World} {T : Turns} (h : TurnsAt w T) : ∃ ao cap, T.val = .slice ao T.L.length cap ∧ ∀ (i : Nat) (o : One), T.L[i]? = some o → ∃ ga, ao = some ⟨ga, 0, none⟩ ∧ w.cell? ⟨ga, i, none⟩ = some (.pointer (some ⟨o.b, 0, none⟩)) ∧ w.cell? ⟨o.b, 0, none⟩ = some (.int .i64 o.id) := by
  unfold Turns.val
  cases hr : T.arr with
  | none => exact ⟨none, 0, by simp [(h.no hr).1], fun i o hi => by simp [(h.no hr).1] at hi⟩
  | some g => exact ⟨_, _, rfl, fun i o hi => ⟨g, rfl, h.ca hr hi, (h.on i o hi).cell_some rfl⟩⟩

def ReadyPost (w : World) (l : List Rec) (e : Ending) (w' : World) : Prop := ∃ v B, e = .returned v ∧ (ints v (readyIds l)).at_ w' B ∧ (∀ b ∈ B, w.heap.size ≤ b) ∧ Ext w w'

structure ReadyInv (w : World) (L : List One) (wr : World) (v : Value) (k : Nat) : Prop where
  row : ∃ arr tail, Row wr 3 1 v k ((L.take k).map fun o => Value.int .i64 o.id) arr tail ∧ ∀ g, arr = some g → w.heap.size ≤ g
  ext : Ext w wr

theorem take_snoc' {α : Type} {L : List α} {k : Nat} {o : α} (h : L[k]? = some o) : L.take (k + 1) = L.take k ++ [o] := by
  rw [List.take_add_one, h]
  rfl

theorem Hp.Ext.cell {w w' : World} (he : Ext w w') {a : Addr} {v : Value} (hc : w.cell? a = some v) : w'.cell? a = some v := by
  have hlt : a.block < w.heap.size := by
    rcases Nat.lt_or_ge a.block w.heap.size with h' | h'
    · exact h'
    · simp [World.cell?, Array.getElem?_eq_none h'] at hc
  exact (World.cell?_of_block (a := a) (he.block a.block hlt (fun h => h))).trans hc

set_option maxRecDepth 100000 in
set_option maxHeartbeats 2000000 in
theorem ready_calls {w : World} {bs : Nat} {B : List Nat} {l : List Rec} (h : SchAt w bs B l) :
    Calls Tryd.prog 20 #[.pointer (some ⟨bs, 0, none⟩)] w (ReadyPost w l) := by
  obtain ⟨I, rfl, rfl, hI, hp⟩ := h
  have hI : InnX w I [] := hI
  obtain ⟨ao, cap, hv, hel⟩ := (hI.t false).elems
  have h1 : w.cell? ⟨I.bs, 1, none⟩ = some (.pointer (some ⟨(I.T false).bt, 0, none⟩)) := hI.hd.cell_some rfl
  have h2 := (hI.t false).c0
  rw [hv] at h2
  have hn8 := (hI.t false).len
  have hrd : readyIds l = sorted ((I.T false).L.map (·.id)) := by
    refine sorted_perm ?_
    have e1 : (l.filter fun r => !r.sleeps).Perm ((I.L.map One.r).filter fun r => !r.sleeps) := (hp.symm.filter _)
    have e2 : (I.L.map One.r).filter (fun r => !r.sleeps) = (I.T false).L.map One.r := by
      unfold Inn.L
      rw [List.map_append, List.filter_append, List.filter_eq_self.2, List.filter_eq_nil_iff.2, List.append_nil]
      · intro r hr
        obtain ⟨o, ho, rfl⟩ := List.mem_map.1 hr
        have : o.r.sleeps = true := (hI.hp true).1 o ho
        simp [this]
      · intro r hr
        obtain ⟨o, ho, rfl⟩ := List.mem_map.1 hr
        have : o.r.sleeps = false := (hI.hp false).1 o ho
        simp [this]
    rw [e2] at e1
    refine (e1.map _).trans (List.Perm.of_eq ?_)
    rw [List.map_map]
    rfl
  have HRD := Lib.hid hrd
  generalize (I.T false).L = L at *
  have HEL := Lib.hid hel
  clear hel hv hI hp hrd
  obtain ⟨n, hn⟩ : ∃ n, Hid (L.length = n) := ⟨_, rfl⟩
  rw [hn.out] at h2 hn8
  go_enter Tryd.func20, Tryd.ntmps20
  go_wp2
  go_loopw [3, 14] (fun v i wr => ∃ k : Nat, k ≤ n ∧ i = .int .i64 k ∧ Hid (ReadyInv w L wr v k)) (fun _ i _ => n - (intOf i).toNat)
  case atStart => exact ⟨0, Nat.zero_le _, rfl, ⟨none, [], by simpa using Row.nil _ _ _, by simp⟩, Only.refl _ _⟩
  case round =>
    obtain ⟨k, hk, rfl, hA⟩ := hrel
    obtain ⟨⟨arr, tail, hrow, harr⟩, hx⟩ := hA.out
    obtain ⟨ao2, cap2, rfl⟩ := hrow.val
    by_cases hlt : k < n
    · obtain ⟨o, ho⟩ : ∃ o, L[k]? = some o := ⟨_, List.getElem?_eq_getElem (by rw [hn.out]; exact hlt)⟩
      obtain ⟨ga, rfl, ca, c0⟩ := HEL.out k o ho
      have ca' := Hp.Ext.cell hx ca
      have c0' := Hp.Ext.cell hx c0
      have HRW := Lib.hid (hrow.of_only ((Only.refl (fun _ => False) wr).alloc (.cells #[.int .i64 o.id] 3)) (fun _ _ h => h))
      have HO := Lib.hid ho
      have HAR := Lib.hid harr
      have HX := Lib.hid hx
      clear ca c0 hrow harr hx ho
      go_wp2_with (first
    | ((at_builtin; refine wpList_append_row ty_ints rfl _ _ rfl rfl HRW.out ⟨wr.heap.size, 0, none⟩ 1 1 [.int .i64 o.id] rfl rfl (by decide) ?_ ?_ ?_ ?_ ?_; (exact one_new _ _ _ (by simp)); (simp [Value.oneCell']); (unfold maxLen; omega); (omega)))
    | ((with_reducible refine Reg.wp_region_text ?_ ?_ ?_); (kernel_rfl); (kernel_rfl))
    | ((with_reducible refine Reg.text_nil ?_))
    | ((with_reducible refine Reg.text_plain ?_ ?_); (rfl); (intro K hK))
    | ((with_reducible apply Reg.text_nilCheck); (rfl); (intro K hK))
    | ((with_reducible apply Reg.text_bin); (rfl); (rfl); (intro K hK))
    | ((with_reducible refine Reg.text_loud ?_ ?_); (rfl); (intro K hK))
    | ((with_reducible refine Reg.text_skipG ?_ ?_); (rfl); (intro K hK)))
      intro g' cap' w4 tail' q1 q2 q4
      have hA' : Hid (ReadyInv w L w4 (.slice (some ⟨g', 0, none⟩) (k + 1) cap') (k + 1)) := by
        refine ⟨⟨_, tail', by rw [take_snoc' HO.out, List.map_append, List.map_take]; exact q1, ?_⟩, ?_⟩
        · intro g hg
          cases hg
          rcases q2 with h | h
          · exact HAR.out _ h
          · rw [h]
            have := HX.out.size
            simp
            omega
        · exact (HX.out.alloc _).trans q4 (fun b hb h => by have := HAR.out b h; omega)
      clear q1 q2 q4 HRW
      go_wp2
      go_roundw
      case rel => exact ⟨k + 1, by omega, by simp, hA'⟩
      case measure => simp [intOf]; omega
    · obtain rfl : k = n := by omega
      have hat : (ints (.slice ao2 k cap2) (L.map (·.id))).at_ wr arr.toList := ⟨arr, tail, by
        rw [← hn.out, List.take_length] at hrow
        rw [← hn.out]
        simpa [List.map_map, Function.comp_def] using hrow, rfl⟩
      have HSORT := Lib.hid (sort_calls hat (by rw [List.length_map, hn.out]; omega))
      have HAR := Lib.hid harr
      have HX := Lib.hid hx
      clear hrow harr hx hat hA
      go_wp2_with (first
    | ((go_at_call 36; refine HSORT.out.mono ?_; rintro e w4 ⟨rfl, hs4⟩; have HS := Lib.hid hs4; clear hs4))
    | ((with_reducible refine Reg.wp_region_text ?_ ?_ ?_); (kernel_rfl); (kernel_rfl))
    | ((with_reducible refine Reg.text_nil ?_))
    | ((with_reducible refine Reg.text_plain ?_ ?_); (rfl); (intro K hK))
    | ((with_reducible apply Reg.text_nilCheck); (rfl); (intro K hK))
    | ((with_reducible apply Reg.text_bin); (rfl); (rfl); (intro K hK))
    | ((with_reducible refine Reg.text_loud ?_ ?_); (rfl); (intro K hK))
    | ((with_reducible refine Reg.text_skipG ?_ ?_); (rfl); (intro K hK)))
      go_ret
      obtain ⟨⟨B', h5, h6⟩, h7⟩ := HS.out
      have hge : ∀ b ∈ arr.toList, w.heap.size ≤ b := fun b hb => HAR.out b (by simpa using hb)
      refine ⟨_, B', rfl, by rw [HRD.out]; exact h5, fun b hb => ?_, HX.out.trans h7 (fun b hlt hb => by have := hge b hb; omega)⟩
      rcases h6 b hb with h | h
      · exact hge b h
      · exact Nat.le_trans HX.out.size h
end Go.Proofs.YtjchfkpcglpgdaaDoor
