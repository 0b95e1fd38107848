/-
  The scheduler in memory: Wake.
-/
import Derived.Test.YtjchfkpcglpgdaaDoorSdN
import Derived.Test.YtjchfkpcglpgdaaDoorSp
set_option linter.unusedSimpArgs false
set_option linter.unusedVariables false
namespace Go.Proofs.YtjchfkpcglpgdaaDoor
open Go.RowKit Go.Hp

theorem ty_ints : SliceTy Tryd.prog 35 3 1 8 (.int .i64 0) := ⟨by kernel_rfl, by kernel_rfl, rfl, by decide⟩

/-- A scheduler, as a thing. -/
def sch (bs : Nat) (l : List Rec) : Thing where
  at_ w B := SchAt w bs B l
  keep h ho hf := h.of_only ho hf
  lt := by
    rintro w B ⟨I, rfl, rfl, h, _⟩ b hb
    exact InnX.lt h b hb
abbrev ints (v : Value) (l : List Int) : Thing := intsT 3 v l

theorem goes_leaves {bs : Nat} {B : List Nat} {l' : List Rec} {w w' : World} (h : Goes bs B l' w w') : Lvs B (sch bs l') w w' := ⟨h.at_, h.only⟩

def awake (r : Rec) : Rec := { r with sleeps := false, till := 0 }
def tkey (r : Rec) : Int × Int := (r.till, r.id)
/-- Those of 'l' that are in 'ws', woken. -/
def wokeL (ws l : List Rec) : List Rec := l.map fun r => if r ∈ ws then awake r else r

structure WakeInv (w : World) (bs : Nat) (B0 : List Nat) (l : List Rec) (now : Int) (wr : World) (v : Value) (ws : List Rec) : Prop where
  sub : ∀ r ∈ ws, r ∈ l ∧ r.sleeps = true ∧ r.till ≤ now
  srt : ws.Pairwise fun a b => ltk (tkey a) (tkey b)
  low : ∀ r ∈ ws, ∀ x ∈ l, x.sleeps = true → x ∉ ws → ltk (tkey r) (tkey x)
  mem : ∃ B arr tail, SchAt wr bs B (wokeL ws l) ∧ Row wr 3 1 v ws.length (ws.map fun r => Value.int .i64 r.id) arr tail ∧ (∀ g, arr = some g → g ∉ B ∧ w.heap.size ≤ g) ∧ (∀ b ∈ B, b ∈ B0 ∨ w.heap.size ≤ b)
  only : Only (fun b => b ∈ B0) w wr

theorem ids_eq {l : List Rec} (h : (l.map (·.id)).Nodup) {x y : Rec} (hx : x ∈ l) (hy : y ∈ l) (e : x.id = y.id) : x = y := by
  obtain ⟨i, hi, hi2⟩ := List.mem_iff_getElem.1 hx
  obtain ⟨j, hj, hj2⟩ := List.mem_iff_getElem.1 hy
  have : i = j := by
    refine (List.getElem?_inj (by simpa using hi) h).1 ?_
    simp [List.getElem?_eq_getElem hi, List.getElem?_eq_getElem hj, hi2, hj2, e]
  subst this
  exact hi2.symm.trans hj2

theorem wokeL_id (ws l : List Rec) : (wokeL ws l).map (·.id) = l.map (·.id) := by
  unfold wokeL
  rw [List.map_map]
  refine List.map_congr_left fun r _ => ?_
  simp only [Function.comp]
  split <;> rfl

theorem wokeL_sleeper {ws l : List Rec} {r : Rec} (h : r ∈ wokeL ws l) (hs : r.sleeps = true) : r ∈ l ∧ r ∉ ws := by
  unfold wokeL at h
  obtain ⟨x, hx, e⟩ := List.mem_map.1 h
  split at e
  · subst e; simp [awake] at hs
  · subst e; exact ⟨hx, by assumption⟩
theorem wokeL_mem {ws l : List Rec} {r : Rec} (h : r ∈ l) (hn : r ∉ ws) : r ∈ wokeL ws l :=
  List.mem_map.2 ⟨r, h, by simp [hn]⟩

theorem wokeL_snoc {ws l : List Rec} {r : Rec} (hid : (l.map (·.id)).Nodup) (hr : r ∈ l) (hn : r ∉ ws) : updR (wokeL ws l) r.id awake = wokeL (ws ++ [r]) l := by
  unfold updR wokeL
  rw [List.map_map]
  refine List.map_congr_left fun x hx => ?_
  simp only [Function.comp, List.mem_append, List.mem_cons, List.not_mem_nil, or_false]
  by_cases hxr : x = r
  · subst hxr
    simp [hn]
  · have hne : x.id ≠ r.id := fun e => hxr (ids_eq hid hx hr e)
    by_cases hw : x ∈ ws
    · have : (awake x).id ≠ r.id := hne
      simp [hw, this]
    · simp [hw, hne, hxr]

/-- The scheduler's one that sleeps least long. -/
theorem sleeper_top {w : World} {bs : Nat} {B : List Nat} {l : List Rec} (h : SchAt w bs B l) :
    (∃ I : Inn, I.bs = bs ∧ I.blocks = B ∧ InnX w I [] ∧ (I.L.map One.r).Perm l ∧ (I.T true).L = [] ∧ ∀ r ∈ l, r.sleeps = false) ∨
    (∃ (I : Inn) (o : One), I.bs = bs ∧ I.blocks = B ∧ InnX w I [] ∧ (I.L.map One.r).Perm l ∧ (I.T true).L[0]? = some o ∧ o.r ∈ l ∧ o.sleeps = true ∧ ∀ r ∈ l, r.sleeps = true → r = o.r ∨ ltk (tkey o.r) (tkey r)) := by
  obtain ⟨I, rfl, rfl, hI, hp⟩ := h
  have hI : InnX w I [] := hI
  have hof : ∀ r ∈ l, ∃ o ∈ I.L, o.r = r := fun r hr => List.mem_map.1 (hp.mem_iff.2 hr)
  cases hl : (I.T true).L with
  | nil =>
    refine .inl ⟨I, rfl, rfl, hI, hp, hl, fun r hr => ?_⟩
    obtain ⟨o, ho, rfl⟩ := hof r hr
    rcases List.mem_append.1 ho with ho | ho
    · exact (hI.hp false).1 o ho
    · rw [hl] at ho; cases ho
  | cons o L =>
    have h0 : (I.T true).L[0]? = some o := by rw [hl]; rfl
    have hm : o ∈ I.L := List.mem_append_right _ (by rw [hl]; simp)
    have hos : o.sleeps = true := (hI.hp true).1 o (by rw [hl]; simp)
    refine .inr ⟨I, o, rfl, rfl, hI, hp, by rw [hl]; rfl, hp.mem_iff.1 (List.mem_map.2 ⟨o, hm, rfl⟩), hos, fun r hr hrs => ?_⟩
    obtain ⟨p, hp', rfl⟩ := hof r hr
    obtain ⟨i, hi⟩ := InnX.where_ hI hp'
    have hps : p.sleeps = true := hrs
    rw [hps] at hi
    have hlt : i < (I.T true).L.length := (List.getElem?_eq_some_iff.1 hi).1
    have hle := heap_least (hI.hp true) i hlt
    rw [K_some h0, K_some hi] at hle
    by_cases hpo : p.id = o.id
    · exact .inl (congrArg One.r (nodup_same (InnX.idsL hI) hp' hm hpo))
    · refine .inr ?_
      have hle' : ¬ (p.till < o.till ∨ p.till = o.till ∧ p.id < o.id) := hle
      show o.till < p.till ∨ o.till = p.till ∧ o.id < p.id
      omega

/-- Out of those that sleep, into those that are ready. -/
theorem wake_rm {wr : World} {I : Inn} {l : List Rec} {o : One} (hI : InnX wr I []) (hp : (I.L.map One.r).Perm l) (hi : (I.T true).L[0]? = some o) :
    Calls Tryd.prog 32 #[.iface 57 (.pointer (some ⟨(I.T true).bt, 0, none⟩)), .int .i64 0] wr fun e w2 => e = .returned (.iface 63 (.pointer (some ⟨o.b, 0, none⟩))) ∧
      Only (fun b => b ∈ (I.T true).blocks) wr w2 ∧ (∃ k, Blk w2 o.b (o.cells k) 65) ∧ w2.cell? ⟨I.bs, 1, none⟩ = some (.pointer (some ⟨(I.T false).bt, 0, none⟩)) ∧
      Calls Tryd.prog 29 #[.iface 57 (.pointer (some ⟨(I.T false).bt, 0, none⟩)), .iface 63 (.pointer (some ⟨o.b, 0, none⟩))] ((w2.setCell ⟨o.b, 3, none⟩ (.bool false)).setCell ⟨o.b, 4, none⟩ (.int .i64 0)) fun e w3 =>
        e = .returned (.tuple #[]) ∧ Goes I.bs I.blocks (updR l o.r.id awake) wr w3 ∧ w3.cell? ⟨o.b, 0, none⟩ = some (.int .i64 o.id) := by
  refine (hI.removes (s := true) (i := 0) hi).mono ?_
  rintro e w2 ⟨rfl, ho2, hb2, I', e1, e2, e3, e4, e5, hX, e6, e7, e8, e9, e10⟩
  have ho : o ∈ I.L := List.mem_append_right _ (List.mem_of_getElem? hi)
  have hok := hI.ok o (by simpa using ho)
  have hon : Only (fun b => b = o.b) w2 ((w2.setCell ⟨o.b, 3, none⟩ (.bool false)).setCell ⟨o.b, 4, none⟩ (.int .i64 0)) := ((Only.refl (fun b => b = o.b) w2).setCell (a := ⟨o.b, 3, none⟩) _ (fun _ => rfl)).setCell (a := ⟨o.b, 4, none⟩) _ (fun _ => rfl)
  have hX' := InnX.chg (o' := { o with sleeps := false, till := 0 }) hX rfl rfl ⟨hok.id0, hok.id8, hok.w1, hok.w2, hok.u1, hok.u2, (by decide : (-9223372036854775808 : Int) ≤ 0), (by decide : (0 : Int) < 9223372036854775808)⟩ hon
  have hb3 : Blk ((w2.setCell ⟨o.b, 3, none⟩ (.bool false)).setCell ⟨o.b, 4, none⟩ (.int .i64 0)) o.b ({ o with sleeps := false, till := 0 }.cells ((I.T true).L.length - 1)) 65 := (hb2.set 3 _).set 4 _
  have hpu := hX'.pushes hb3 (s := false) rfl
  rw [e5] at hpu
  have hc1 : w2.cell? ⟨I.bs, 1, none⟩ = some (.pointer (some ⟨(I.T false).bt, 0, none⟩)) := by
    have := hX.hd.cell_some (o := 1) (v := ptr (I'.T false).bt) rfl
    rw [e1, e5] at this
    exact this
  refine ⟨rfl, ho2, ⟨_, hb2⟩, hc1, hpu.mono ?_⟩
  rintro e w4 ⟨rfl, I'', f1, f2, f3, hY, f4, f5, f6, _⟩
  have hsub : ∀ b, b ∈ I'.blocks ∨ b = o.b → b ∈ I.blocks := fun b hb => by
    refine e7.mem_iff.2 ?_
    simp only [List.mem_cons]
    exact hb.symm
  refine ⟨rfl, ⟨⟨I''.blocks, ⟨I'', f1.trans e1, rfl, hY, ?_⟩, ?_⟩, ?_⟩, ?_⟩
  · exact (f4.map _).trans (perm_upd (o' := { o with sleeps := false, till := 0 }) hp e6 (InnX.idsL hI) rfl)
  · intro b hb
    rcases f5 b hb with hb | hb | hb
    · exact .inl (hsub b (.inl hb))
    · exact .inl (hsub b (.inr hb))
    · have := ho2.size
      have := hon.size
      exact .inr (by omega)
  · refine (ho2.mono (fun b _ hb => I.in_T _ hb)).trans ((hon.mono (fun b _ hb => .inr hb)).trans f6 (fun b _ hb => hb)) (fun b _ hb => hsub b hb)
  · have hm : ({ o with sleeps := false, till := 0 } : One) ∈ I''.L := f4.mem_iff.2 (by simp)
    obtain ⟨i, hi2⟩ := InnX.where_ hY hm
    exact ((hY.t _).on i _ hi2).cell_some rfl

theorem WakeInv.step {w : World} {bs : Nat} {B0 B : List Nat} {l : List Rec} {now : Int} {wr w3 w4 : World} {v' : Value} {ws : List Rec} {o : One} {arr arr' : Option Nat} {tail' : List Value}
    (hsub : ∀ r ∈ ws, r ∈ l ∧ r.sleeps = true ∧ r.till ≤ now) (hsrt : ws.Pairwise fun a b => ltk (tkey a) (tkey b)) (hlow : ∀ r ∈ ws, ∀ x ∈ l, x.sleeps = true → x ∉ ws → ltk (tkey r) (tkey x)) (hon : Only (fun b => b ∈ B0) w wr)
    (hS : SchAt wr bs B (wokeL ws l)) (hB : ∀ b ∈ B, b ∈ B0 ∨ w.heap.size ≤ b) (harr : ∀ g, arr = some g → g ∉ B ∧ w.heap.size ≤ g) (harl : ∀ g, arr = some g → g < wr.heap.size)
    (ho : o.r ∈ wokeL ws l) (hos : o.sleeps = true) (hmin : ∀ r ∈ wokeL ws l, r.sleeps = true → r = o.r ∨ ltk (tkey o.r) (tkey r)) (hdue : o.till ≤ now)
    (hg : Goes bs B (updR (wokeL ws l) o.r.id awake) wr w3) (ho4 : Only (fun b => arr = some b) w3 w4)
    (hrow : Row w4 3 1 v' (ws.length + 1) ((ws.map fun r => Value.int .i64 r.id) ++ [.int .i64 o.id]) arr' tail') (harr' : arr' = arr ∨ ∃ g, arr' = some g ∧ w3.heap.size ≤ g) :
    WakeInv w bs B0 l now w4 v' (ws ++ [o.r]) := by
  obtain ⟨hol, hon'⟩ := wokeL_sleeper ho hos
  have hid : (l.map (·.id)).Nodup := by rw [← wokeL_id ws l]; exact hS.ids
  rw [wokeL_snoc hid hol hon'] at hg
  obtain ⟨⟨B', hS', hB'⟩, hon3⟩ := hg
  have hlt3 : ∀ b ∈ B', b < w3.heap.size := (sch bs _).lt hS'
  have hlt : ∀ b ∈ B, b < wr.heap.size := (sch bs _).lt hS
  have hnar : ∀ b ∈ B', arr ≠ some b := fun b hb e => by
    rcases hB' b hb with h | h
    · exact (harr b e).1 h
    · have := harl b e
      omega
  refine ⟨?_, ?_, ?_, ?_, ?_⟩
  · intro r hr
    rcases List.mem_append.1 hr with hr | hr
    · exact hsub r hr
    · simp only [List.mem_cons, List.not_mem_nil, or_false] at hr; subst hr; exact ⟨hol, hos, hdue⟩
  · rw [List.pairwise_append]
    refine ⟨hsrt, List.pairwise_singleton _ _, fun a ha b hb => ?_⟩
    simp only [List.mem_cons, List.not_mem_nil, or_false] at hb; subst hb
    exact hlow a ha _ hol hos hon'
  · intro r hr x hx hxs hxn
    simp only [List.mem_append, List.mem_cons, List.not_mem_nil, or_false, not_or] at hr hxn
    rcases hr with hr | rfl
    · exact hlow r hr x hx hxs hxn.1
    · rcases hmin x (wokeL_mem hx hxn.1) hxs with h | h
      · exact absurd h hxn.2
      · exact h
  · refine ⟨B', arr', tail', hS'.of_only ho4 (fun b hb e => hnar b hb e), ?_, ?_, ?_⟩
    · have : o.r.id = o.id := rfl
      simpa [this] using hrow
    · intro g hg
      rcases harr' with h | ⟨g', h, hge⟩
      · rw [h] at hg
        exact ⟨fun hb => hnar g hb hg, (harr g hg).2⟩
      · rw [h] at hg
        cases hg
        refine ⟨fun hb => ?_, ?_⟩
        · have := hlt3 g hb; omega
        · have := hon.size; have := hon3.size; omega
    · intro b hb
      rcases hB' b hb with h | h
      · exact hB b h
      · exact .inr (Nat.le_trans hon.size h)
  · refine (hon.trans hon3 (fun b hlt hb => (hB b hb).elim id (fun h => by omega))).trans ho4 (fun b hlt hb => ?_)
    have := (harr b hb).2
    omega

theorem WakeInv.nodup {w : World} {bs : Nat} {B0 : List Nat} {l : List Rec} {now : Int} {wr : World} {v : Value} {ws : List Rec} (h : WakeInv w bs B0 l now wr v ws) : (ws.map (·.id)).Nodup := by
  obtain ⟨B, arr, tail, hS, _⟩ := h.mem
  have hid : (l.map (·.id)).Nodup := by rw [← wokeL_id ws l]; exact hS.ids
  unfold List.Nodup
  rw [List.pairwise_map]
  refine (List.Pairwise.and_mem.1 h.srt).imp ?_
  rintro a b ⟨ha, hb, hlt⟩ e
  have := ids_eq hid (h.sub a ha).1 (h.sub b hb).1 e
  subst this
  unfold ltk at hlt
  omega
theorem WakeInv.le8 {w : World} {bs : Nat} {B0 : List Nat} {l : List Rec} {now : Int} {wr : World} {v : Value} {ws : List Rec} (h : WakeInv w bs B0 l now wr v ws) : ws.length ≤ 8 := by
  have hn := h.nodup
  obtain ⟨B, arr, tail, hS, _⟩ := h.mem
  have hok := hS.ok
  have := ints8 8 (ws.map (·.id)) hn (fun x hx => by
    obtain ⟨r, hr, rfl⟩ := List.mem_map.1 hx
    have hm : awake r ∈ wokeL ws l := List.mem_map.2 ⟨r, (h.sub r hr).1, by simp [hr]⟩
    have := hok _ hm
    exact ⟨this.id0, this.id8⟩)
  simpa using this

def due (now : Int) (r : Rec) : Bool := r.sleeps && decide (r.till ≤ now)
def wokeBy (now : Int) (l : List Rec) : List Rec := l.map fun r => if due now r then awake r else r
/-- Who was woken, in order. -/
structure Woke (now : Int) (l ws : List Rec) : Prop where
  mem : ∀ r, r ∈ ws ↔ r ∈ l ∧ due now r = true
  srt : ws.Pairwise fun a b => ltk (tkey a) (tkey b)

theorem WakeInv.done {w : World} {bs : Nat} {B0 : List Nat} {l : List Rec} {now : Int} {wr : World} {v : Value} {ws : List Rec} (h : WakeInv w bs B0 l now wr v ws) (hB0 : ∀ b ∈ B0, b < w.heap.size)
    (hno : ∀ r ∈ wokeL ws l, r.sleeps = true → now < r.till) : Woke now l ws ∧ Lvs B0 ((ints v (ws.map (·.id))).sep (sch bs (wokeBy now l))) w wr := by
  have hw : ∀ r, r ∈ ws ↔ r ∈ l ∧ due now r = true := fun r => by
    constructor
    · intro hr
      obtain ⟨h1, h2, h3⟩ := h.sub r hr
      exact ⟨h1, by simp [due, h2, h3]⟩
    · rintro ⟨h1, h2⟩
      simp only [due, Bool.and_eq_true, decide_eq_true_eq] at h2
      by_cases hr : r ∈ ws
      · exact hr
      · have := hno r (wokeL_mem h1 hr) h2.1
        omega
  have he : wokeL ws l = wokeBy now l := by
    unfold wokeL wokeBy
    refine List.map_congr_left fun r hr => ?_
    by_cases hd : due now r = true
    · rw [if_pos ((hw r).2 ⟨hr, hd⟩), if_pos hd]
    · rw [if_neg (fun q => hd ((hw r).1 q).2), if_neg hd]
  obtain ⟨B, arr, tail, hS, hrow, harr, hB⟩ := h.mem
  rw [he] at hS
  refine ⟨⟨hw, h.srt⟩, ⟨arr.toList ++ B, ⟨arr.toList, B, ⟨arr, tail, by simpa [List.map_map, Function.comp_def] using hrow, rfl⟩, hS, fun b hb hc => ?_, rfl⟩, fun b hb => ?_⟩, h.only⟩
  · exact (harr b (by simpa using hb)).1 hc
  · rcases List.mem_append.1 hb with hb | hb
    · exact .inr (harr b (by simpa using hb)).2
    · exact hB b hb

def lenV : Value → Nat
  | .slice _ n _ => n
  | _ => 0

def WakePost (w : World) (bs : Nat) (B : List Nat) (l : List Rec) (now : Int) (e : Ending) (w' : World) : Prop :=
  ∃ v ws, e = .returned v ∧ Woke now l ws ∧ Lvs B ((ints v (ws.map (·.id))).sep (sch bs (wokeBy now l))) w w'

set_option maxRecDepth 100000 in
set_option maxHeartbeats 2000000 in
theorem wake_calls {w : World} {bs : Nat} {B : List Nat} {l : List Rec} (h : SchAt w bs B l) (now : Int) :
    Calls Tryd.prog 18 #[.pointer (some ⟨bs, 0, none⟩), .int .i64 now] w (WakePost w bs B l now) := by
  have HB := Lib.hid ((sch bs l).lt h)
  have H := Lib.hid h
  clear h
  go_enter Tryd.func18, Tryd.ntmps18
  go_wp2
  go_loopw [5] (fun v wr => ∃ ws, Hid (WakeInv w bs B l now wr v ws)) (fun v _ => 8 - lenV v)
  case atStart =>
    refine ⟨[], ⟨by simp, List.Pairwise.nil, by simp, ⟨B, none, [], ?_, Row.nil _ _ _, by simp, fun b hb => .inl hb⟩, Only.refl _ _⟩⟩
    have : wokeL [] l = l := by simp [wokeL]
    rw [this]
    exact H.out
  case round =>
    obtain ⟨ws, hA⟩ := hrel
    obtain ⟨B1, arr, tail, hS, hrow, harr, hB1⟩ := hA.out.mem
    have hl8 := hA.out.le8
    obtain ⟨ao, cap, rfl⟩ := hrow.val
    rcases sleeper_top hS with ⟨I, rfl, rfl, hI, hp, hL, hno⟩ | ⟨I, o, rfl, rfl, hI, hp, hi, ho, hos, hmin⟩
    · have HD := Lib.hid (hA.out.done HB.out (fun r hr hs => by rw [hno r hr] at hs; cases hs))
      have h2 : wr.cell? ⟨I.bs, 2, none⟩ = some (.pointer (some ⟨(I.T true).bt, 0, none⟩)) := hI.hd.cell_some rfl
      have HT := Lib.hid (hI.t true)
      have HL := Lib.hid hL
      clear hI hp hL hno hS hrow harr hB1
      go_wp2_with (first
    | ((go_at_call 35; refine (len_calls HT.out).mono ?_; rintro e w2 ⟨rfl, rfl⟩; rw [HL.out]))
    | ((with_reducible refine Reg.wp_region_text ?_ ?_ ?_); (kernel_rfl); (kernel_rfl))
    | ((with_reducible refine Reg.text_nil ?_))
    | ((with_reducible refine Reg.text_plain ?_ ?_); (rfl); (intro K hK))
    | ((with_reducible apply Reg.text_nilCheck); (rfl); (intro K hK))
    | ((with_reducible apply Reg.text_bin); (rfl); (rfl); (intro K hK))
    | ((with_reducible refine Reg.text_loud ?_ ?_); (rfl); (intro K hK))
    | ((with_reducible refine Reg.text_skipG ?_ ?_); (rfl); (intro K hK)))
      go_ret
      exact ⟨_, _, rfl, HD.out.1, HD.out.2⟩
    · obtain ⟨ga, hga⟩ := (hI.t true).arr_some hi
      have c0 := (hI.t true).c0
      unfold Turns.val at c0
      rw [hga] at c0
      simp only at c0
      have hn0 : 0 < (I.T true).L.length := (List.getElem?_eq_some_iff.1 hi).1
      have hn8 := (hI.t true).len
      have ca : wr.cell? ⟨ga, 0, none⟩ = some (.pointer (some ⟨o.b, 0, none⟩)) := (hI.t true).ca hga hi
      have c4 : wr.cell? ⟨o.b, 4, none⟩ = some (.int .i64 o.till) := ((hI.t true).on 0 o hi).cell_some rfl
      have h2 : wr.cell? ⟨I.bs, 2, none⟩ = some (.pointer (some ⟨(I.T true).bt, 0, none⟩)) := hI.hd.cell_some rfl
      have HRM := Lib.hid (wake_rm hI hp hi)
      have HLEN := Lib.hid (len_calls (hI.t true))
      have HD : Hid (now < o.till → Woke now l ws ∧ Lvs B ((ints (Value.slice ao ws.length cap) (ws.map (·.id))).sep (sch I.bs (wokeBy now l))) w wr) := fun hlt => hA.out.done HB.out (fun r hr hs => by
        rcases hmin r hr hs with rfl | h
        · exact hlt
        · have h : o.till < r.till ∨ o.till = r.till ∧ o.id < r.id := h
          omega)
      have harl : ∀ g, arr = some g → g < wr.heap.size := fun g hg => hrow.arr_lt hg
      have HST := Lib.hid (fun (w3 w4 : World) (v' : Value) (arr' : Option Nat) (tail' : List Value) (hdue : o.till ≤ now) (hg : Goes I.bs I.blocks (updR (wokeL ws l) o.r.id awake) wr w3) (ho4 : Only (fun b => arr = some b) w3 w4)
        (hrow : Row w4 3 1 v' (ws.length + 1) ((ws.map fun r => Value.int .i64 r.id) ++ [.int .i64 o.id]) arr' tail') (harr' : arr' = arr ∨ ∃ g, arr' = some g ∧ w3.heap.size ≤ g) =>
        WakeInv.step hA.out.sub hA.out.srt hA.out.low hA.out.only hS hB1 harr harl ho hos hmin hdue hg ho4 hrow harr')
      have HNB : Hid (∀ g, arr = some g → g ∉ I.blocks) := fun g hg => (harr g hg).1
      have HRW := Lib.hid hrow
      have HI := Lib.hid hI
      clear hI hp hmin ho hos hS hrow harr hB1 hga hi harl
      generalize (I.T true).L.length = n at *
      by_cases hdue : o.till ≤ now
      · go_wp2_with (first
    | ((go_at_call 35; refine HLEN.out.mono ?_; rintro e w2 ⟨rfl, rfl⟩))
    | ((go_at_call 32; refine HRM.out.mono ?_; rintro e w2 ⟨rfl, ho2, ⟨k, hb2⟩, d1, hpu⟩; have d3 := hb2.cell_some (o := 3) rfl; have d4 := hb2.cell_some (o := 4) rfl; have e3 := hb2.free 3; have e4 := hb2.free 4; have HPU := Lib.hid hpu; clear ho2 hb2 hpu))
    | ((go_at_call 29; refine HPU.out.mono ?_; rintro e w3 ⟨rfl, hg3, f0⟩; have HR3 := Lib.hid (HRW.out.of_only (hg3.only.alloc (.cells #[.int .i64 o.id] 3)) (fun g hg hb => HNB.out g hg hb)); have HG := Lib.hid hg3; clear hg3))
    | ((at_builtin; refine wpList_append_row ty_ints rfl _ _ rfl rfl HR3.out ⟨w3.heap.size, 0, none⟩ 1 1 [.int .i64 o.id] rfl rfl (by decide) ?_ ?_ ?_ ?_ ?_; (exact one_new _ _ _ (by simp)); (simp [Value.oneCell']); (unfold maxLen; omega); (omega)))
    | ((with_reducible refine Reg.wp_region_text ?_ ?_ ?_); (kernel_rfl); (kernel_rfl))
    | ((with_reducible refine Reg.text_nil ?_))
    | ((with_reducible refine Reg.text_plain ?_ ?_); (rfl); (intro K hK))
    | ((with_reducible apply Reg.text_nilCheck); (rfl); (intro K hK))
    | ((with_reducible apply Reg.text_bin); (rfl); (rfl); (intro K hK))
    | ((with_reducible refine Reg.text_loud ?_ ?_); (rfl); (intro K hK))
    | ((with_reducible refine Reg.text_skipG ?_ ?_); (rfl); (intro K hK)))
        intro g' cap' w4 tail' q1 q2 q4
        have hA' := Lib.hid (HST.out w3 w4 _ _ _ hdue HG.out (((Only.refl _ w3).alloc _).trans q4 (fun _ _ h => h)) q1 (q2.elim (fun h => .inl h.symm) (fun h => .inr ⟨g', rfl, by rw [h]; simp⟩)))
        have hl9 := hA'.out.le8
        simp only [List.length_append, List.length_cons, List.length_nil] at hl9
        clear q1 q2 q4 HR3
        go_wp2
        go_roundw
        case rel => exact ⟨_, hA'⟩
        case measure => simp [lenV]; omega
      · have hnd : now < o.till := by omega
        go_wp2_with (first
    | ((go_at_call 35; refine HLEN.out.mono ?_; rintro e w2 ⟨rfl, rfl⟩))
    | ((with_reducible refine Reg.wp_region_text ?_ ?_ ?_); (kernel_rfl); (kernel_rfl))
    | ((with_reducible refine Reg.text_nil ?_))
    | ((with_reducible refine Reg.text_plain ?_ ?_); (rfl); (intro K hK))
    | ((with_reducible apply Reg.text_nilCheck); (rfl); (intro K hK))
    | ((with_reducible apply Reg.text_bin); (rfl); (rfl); (intro K hK))
    | ((with_reducible refine Reg.text_loud ?_ ?_); (rfl); (intro K hK))
    | ((with_reducible refine Reg.text_skipG ?_ ?_); (rfl); (intro K hK)))
        go_ret
        exact ⟨_, _, rfl, (HD.out hnd).1, (HD.out hnd).2⟩
end Go.Proofs.YtjchfkpcglpgdaaDoor
