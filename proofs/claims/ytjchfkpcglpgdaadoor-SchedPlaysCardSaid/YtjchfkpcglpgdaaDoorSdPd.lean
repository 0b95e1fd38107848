/-
  SchedPlays: the argument, what is laid beside it, contracts turned to the walk.
-/
import Derived.Test.YtjchfkpcglpgdaaDoorSdPr
import Derived.Test.YtjchfkpcglpgdaaDoorLw
set_option linter.unusedSimpArgs false
set_option linter.unusedVariables false
namespace Go.Proofs.YtjchfkpcglpgdaaDoor
open Go.RowKit Go.Hp Go.ChangeShapes Go.WideShapes

/-- A slice of structs of integers. -/
def RowsAt (w : World) (n : Nat) (v : Value) (l : List (List Int)) : Prop :=
  ∃ ao cap, v = .slice ao l.length cap ∧ ∀ (i : Nat) (xs : List Int), l[i]? = some xs → xs.length = n ∧ (∀ x ∈ xs, (Lit.int .i64 x).wf = true) ∧ ∃ b off, ao = some ⟨b, off, none⟩ ∧ ∀ (j : Nat) (x : Int), xs[j]? = some x → w.cell? ⟨b, off + i * n + j, none⟩ = some (.int .i64 x)

theorem add_plain2 (b o i : Nat) (s : Option Nat) : (⟨b, o, none⟩ : Addr).add i = ⟨b, o + i, none⟩ := by unfold Addr.add; split <;> simp_all

section
variable {H : Type} {enc : TypeId × Value → H} {P : Program}
theorem rows_arg {t e : TypeId} {fs : Array Field} {W : World} {base b0 : Nat} {v : Value} {d : DataW H} {ps : List MemPlace} (ht : P.underlying t = some (.slice e)) (he : P.underlying e = some (.struct fs)) (hc : P.cellsOf e = fs.size)
    (hfs : ∀ (j : Nat) (f : Field), fs[j]? = some f → f.offset = j ∧ P.cellsOf f.type = 1 ∧ P.underlying f.type = some (.int .i64)) (h0 : 0 < fs.size)
    (hval : Value.okWide P W .any b0 t v) (h : DataW.Trod enc P W base (fun _ => true) true t v d ps) : ∃ l, RowsAt W fs.size v l ∧ l.length ≤ maxLen := by
  obtain ⟨fuel, hf⟩ := h
  obtain ⟨a0, len0, cap0, rfl⟩ := okWide_slice ht hval
  rcases DataW.trod_slice ht hf with ⟨hcs, _⟩ | ⟨a, len, cap, elems, rest, n, _, hcs, _, _, hl, hm, hlen, hel, _, _⟩
  · simp [Value.cells] at hcs
    obtain ⟨rfl, rfl, rfl⟩ := hcs
    exact ⟨[], ⟨none, 0, rfl, fun i xs hi => by simp at hi⟩, by simp⟩
  · simp [Value.cells] at hcs
    obtain ⟨rfl, rfl, rfl⟩ := hcs
    have each : ∀ i, ∃ xs : List Int, i < len0 → xs.length = fs.size ∧ (∀ x ∈ xs, (Lit.int .i64 x).wf = true) ∧ ∀ (j : Nat) (x : Int), xs[j]? = some x → W.cell? ((a.add (i * fs.size)).add j) = some (.int .i64 x) := by
      intro i
      by_cases hi : i < len0
      · have h1 := hel i hi
        rw [List.getElem?_eq_getElem (by omega), hc, Option.bind_eq_some_iff] at h1
        obtain ⟨cs, h2, h3⟩ := h1
        obtain ⟨xs, m, _, _, hcl, hxl, hg⟩ := DataW.trod_struct he h3
        obtain ⟨_, hcl2, hat⟩ := World.cells?_some h2
        have cell : ∀ j, j < fs.size → ∃ x, cs[j]? = some (.int .i64 x) ∧ (Lit.int .i64 x).wf = true := by
          intro j hj
          have hfj : fs[j]? = some fs[j] := Array.getElem?_eq_getElem hj
          obtain ⟨ho, hk, hu⟩ := hfs j _ hfj
          have h4 := hg j _ hfj
          rw [ho, hk, List.getElem?_eq_getElem (by omega)] at h4
          obtain ⟨x, e1, _, hw⟩ := DataW.trod_int hu h4
          refine ⟨x, ?_, hw⟩
          have := congrArg (·[0]?) e1
          simpa [List.getElem?_take, List.getElem?_drop] using this
        refine ⟨cs.map intOf, fun _ => ⟨by rw [List.length_map, hcl2], fun x hx => ?_, fun j x hx => ?_⟩⟩
        · obtain ⟨c, hc1, rfl⟩ := List.mem_map.1 hx
          obtain ⟨j, hj⟩ := List.mem_iff_getElem?.1 hc1
          obtain ⟨y, hy, hw⟩ := cell j (by rw [← hcl2]; exact (List.getElem?_eq_some_iff.1 hj).1)
          obtain rfl := Option.some.inj (hj.symm.trans hy)
          exact hw
        · rw [List.getElem?_map] at hx
          obtain ⟨c, hc1, hc2⟩ := Option.map_eq_some_iff.1 hx
          have hj : j < fs.size := by rw [← hcl2]; exact (List.getElem?_eq_some_iff.1 hc1).1
          obtain ⟨y, hy, _⟩ := cell j hj
          obtain rfl := Option.some.inj (hc1.symm.trans hy)
          have hc2 : y = x := hc2
          subst hc2
          rw [hat j hj, hc1]
      · exact ⟨[], fun h => absurd h hi⟩
    obtain ⟨f, hf⟩ := Classical.axiomOfChoice each
    refine ⟨(List.range len0).map f, ⟨some a, cap0, by simp, fun i xs hi => ?_⟩, by simp; omega⟩
    rw [List.getElem?_map] at hi
    obtain ⟨i', hi1, rfl⟩ := Option.map_eq_some_iff.1 hi
    obtain ⟨hi2, hi3⟩ := List.getElem?_eq_some_iff.1 hi1
    simp at hi2 hi3
    subst hi3
    obtain ⟨h1, h2, h3⟩ := hf i hi2
    refine ⟨h1, h2, ?_⟩
    obtain ⟨b, off, spot⟩ := a
    have hspot : spot = none := by
      obtain ⟨k1, _, k3⟩ := hf 0 (by omega)
      have := k3 0 ((f 0)[0]'(by omega)) (List.getElem?_eq_getElem (by omega))
      simpa [Addr.add] using World.cell?_spot this
    subst hspot
    refine ⟨b, off, rfl, fun j x hx => ?_⟩
    have := h3 j x hx
    rwa [add_off, add_off] at this
end

/-- A block of the law's own. -/
def blkT (b : Nat) (cs : Array Value) (t : TypeId) : Thing where
  at_ w B := Blk w b cs t ∧ B = [b]
  keep := by
    rintro w w' B F ⟨h1, rfl⟩ ho hf
    exact ⟨ho.blk h1 (hf b (by simp)), rfl⟩
  lt := by
    rintro w B ⟨h1, rfl⟩ b' hb
    simp at hb
    subst hb
    exact h1.lt

section
variable {w0 w : World} {bs b : Nat} {l x : List Rec} {R P Q S : Thing}
theorem own_blk1 {cs : Array Value} {t : TypeId} (h : Owns w0 w ((blkT b cs t).sep R)) : Blk w b cs t := by
  obtain ⟨_, ⟨_, _, ⟨h, _⟩, _⟩, _⟩ := h
  exact h
theorem own_blk3 {cs : Array Value} {t : TypeId} (h : Owns w0 w (P.sep (Q.sep ((blkT b cs t).sep R)))) : Blk w b cs t := own_blk1 h.third
theorem own_blk4 {cs : Array Value} {t : TypeId} (h : Owns w0 w (P.sep (Q.sep (S.sep ((blkT b cs t).sep R))))) : Blk w b cs t := own_blk1 h.fourth

theorem ready_le (l : List Rec) : (readyIds l).length ≤ l.length := by
  unfold readyIds
  rw [sorted_len, List.length_map]
  exact List.length_filter_le _ _
theorem oi_ready_q {q : Nat} (h : Hid (Owns w0 w ((sch bs l).sep R))) (hq : (readyIds l).length = q) :
    Calls Tryd.prog 20 #[.pointer (some ⟨bs, 0, none⟩)] w fun e w' => ∃ ao cp, e = .returned (.slice ao q cp) ∧ Hid (Owns w0 w' ((sch bs l).sep R)) := by
  subst hq
  refine (ow_ready h).mono ?_
  rintro e w' ⟨v, rfl, hO⟩
  obtain ⟨ao, cp, rfl⟩ := (ow_ints hO.out).len
  exact ⟨ao, cp, rfl, hO.out.drop⟩
theorem od_pick_m {m : Int} (h : Hid (Owns w0 w ((docS b x).sep R))) (hd : Hid (Doc x)) (hm : bestId x = m) :
    Calls Tryd.prog 27 #[.pointer (some ⟨b, 0, none⟩)] w fun e w' => e = .returned (.int .i64 m) ∧ Hid (Owns w0 w' ((docS b x).sep R)) := by
  subst hm
  exact od_pick h hd
theorem woke_le {now : Int} {ws : List Rec} (h : Woke now x ws) (hid : (x.map (·.id)).Nodup) : ws.length ≤ x.length := by
  have nd : ws.Nodup := h.srt.imp fun {a b} hab e => by subst e; unfold ltk at hab; omega
  have hl : x.Nodup := by
    have := hid
    unfold List.Nodup at this
    rw [List.pairwise_map] at this
    exact this.imp fun h e => h (by rw [e])
  have : ws.Perm (x.filter fun r => decide (r ∈ ws)) := (List.perm_ext_iff_of_nodup nd (hl.filter _)).2 fun r => by
    simp only [List.mem_filter, decide_eq_true_eq]
    exact ⟨fun hr => ⟨((h.mem r).1 hr).1, hr⟩, fun hr => hr.2⟩
  rw [this.length_eq]
  exact List.length_filter_le _ _
theorem rel_wakeH {now : Int} {ws1 ws2 : List Rec} (hR : Hid (l = x.map norm)) (HD : Hid (Doc x)) (HA : Hid (Woke now l ws1)) (HA2 : Hid (Woke now x ws2)) :
    Hid (wokeBy now l = (wokenBy now x).map norm) ∧ Hid (ws2.map (·.id) = ws1.map (·.id)) ∧ Hid ((ws2.map (·.id)).length < 9223372036854775807) := by
  obtain ⟨h1, h2⟩ := rel_wake hR.out HA.out HA2.out
  subst h1
  refine ⟨h2, rfl, ?_⟩
  have h3 := woke_le HA2.out HD.out.ids
  have h4 := HD.out.len
  show (ws1.map (·.id)).length < 9223372036854775807
  rw [List.length_map]
  omega
/-- SameInts over two slices of the law's own. -/
theorem ow_same_ints {v1 v2 : Value} {l1 l2 : List Int} (h : Hid (Owns w0 w ((ints v1 l1).sep (P.sep ((ints v2 l2).sep R))))) (he : l1 = l2) (hl : l1.length < 9223372036854775807) :
    Calls Tryd.prog 19 #[v2, v1] w fun e w' => e = .returned (.bool true) ∧ Hid (Owns w0 w' (P.sep R)) := by
  subst he
  have h2 := h.out.third
  refine (ow_sameInts h (ow_ints h2) (ow_ints h.out) hl hl).mono ?_
  rintro e w' ⟨rfl, hO⟩
  refine ⟨by simp, hO.out.drop.swap.drop⟩
end
end Go.Proofs.YtjchfkpcglpgdaaDoor
