/-
  A helper for walks, over any program: a region that draws its order, walked once in an order that the walker gives; loads may stand behind operations that are loud in some orders, if these leave what they load.
-/
import Derived.Test.YtjchfkpcglpgdaaDoorReg
set_option linter.unusedSimpArgs false
set_option linter.unusedVariables false
namespace Go.Ro
open Go.Reg

section
variable {P : Program} {ops : Array Oper}

/-- Is this pair listed? -/
def has (S : List (Tmp × Tmp)) (d e : Option Tmp) : Bool := match d, e with | some d, some e => S.contains (d, e) | _, _ => false
def stab (S : List (Tmp × Tmp)) (o oj : Oper) : Bool := has S o.dst oj.dst

/-- ONE WALK. 'S': the temporaries of the loads that may come up behind an operation that is loud. -/
def wpT (P : Program) (ops : Array Oper) (Q : Act → World → Prop) (S : List (Tmp × Tmp)) : List Oper → (Oper → World → Prop) → Act → World → Prop
  | [], _, a, w => Q a w
  | o :: rest, St, a, w =>
    if loud o = true then one P ops o (fun a' w' => St o w' ∧ wpT P ops Q S rest St a' w') a w
    else ∃ v, Yld P ops o v a w ∧ (Region.wanted o (yielded ops a.tmps) = true → Fits o a) ∧ wpT P ops Q S rest (fun oj w' => St oj w' ∧ (stab S o oj = true → Yld P ops o v a w')) (a.put o.dst v) w

theorem wpT_mono {Q : Act → World → Prop} {S : List (Tmp × Tmp)} (l : List Oper) : ∀ {St St' : Oper → World → Prop} (a : Act) (w : World), (∀ oj w, St oj w → St' oj w) → wpT P ops Q S l St a w → wpT P ops Q S l St' a w := by
  induction l with
  | nil => exact fun a w _ h => h
  | cons o l ih =>
    intro St St' a w hs h
    by_cases hl : loud o = true
    · simp only [wpT, hl, if_true] at h ⊢
      exact one_mono (fun a w q => ⟨hs _ _ q.1, ih a w hs q.2⟩) h
    · simp only [wpT, hl, if_false, Bool.false_eq_true] at h ⊢
      obtain ⟨v, h1, h2, h3⟩ := h
      exact ⟨v, h1, h2, ih _ _ (fun oj w q => ⟨hs _ _ q.1, q.2⟩) h3⟩

/-- May 'oj' come up ahead of 'oi', which stands ahead of it in the walk? -/
def compat (P : Program) (S : List (Tmp × Tmp)) (oi oj : Oper) : Bool :=
  match loud oi, loud oj with
  | true, true => false
  | true, false => pureK P oj
  | false, true => pureK P oi || stab S oi oj
  | false, false => true

structure Free (P : Program) (ops : Array Oper) (S : List (Tmp × Tmp)) (oi oj : Oper) : Prop where
  ij : oi.apart ops oj = true
  ji : oj.apart ops oi = true
  c : compat P S oi oj = true
  si : ∀ cs b, oi.op ≠ .select cs b
  sj : ∀ cs b, oj.op ≠ .select cs b

theorem take_calm {Q : Act → World → Prop} {S : List (Tmp × Tmp)} {oj : Oper} {post : List Oper} (hj : loud oj = false) (pre : List Oper) : ∀ (St : Oper → World → Prop) (a : Act) (w : World),
    (∀ oi ∈ pre, Free P ops S oi oj) → wpT P ops Q S (pre ++ oj :: post) St a w →
    ∃ v, Yld P ops oj v a w ∧ (Region.wanted oj (yielded ops a.tmps) = true → Fits oj a) ∧ wpT P ops Q S (pre ++ post) St (a.put oj.dst v) w := by
  induction pre with
  | nil =>
    intro St a w _ h
    simp only [List.nil_append, wpT, hj, Bool.false_eq_true, if_false] at h
    obtain ⟨v, h1, h2, h3⟩ := h
    exact ⟨v, h1, h2, wpT_mono _ _ _ (fun _ w q => q.1) h3⟩
  | cons oi pre ih =>
    intro St a w hfree h
    have F := hfree oi (by simp)
    have hp := fun o ho => hfree o (List.mem_cons_of_mem _ ho)
    obtain ⟨a1, a2, a3⟩ := Oper.apart_spec F.ij
    obtain ⟨b1, b2, b3⟩ := Oper.apart_spec F.ji
    by_cases hi : loud oi = true
    · have hpj : pureK P oj = true := by have := F.c; simpa [compat, hi, hj] using this
      simp only [List.cons_append, wpT, hi, if_true] at h
      have h' := one_out (one_mono (fun a' w' ⟨q1, q2⟩ => (⟨q1, ih St a' w' hp q2⟩ : St oi w' ∧ _)) h)
      obtain ⟨a', w', ⟨_, vj, hy, hf, _⟩, u, hu⟩ := one_some h'
      have hy1 : Yld P ops oj vj a w' := (hy.tmps hu).unput F.ji F.sj u
      have hf1 : Region.wanted oj (yielded ops a.tmps) = true → Fits oj a := fun hw => by
        rw [hu, wanted_put oj a oi.dst u b3] at hf
        exact (Fits.put_iff F.ji u).1 ((hf hw).tmps hu)
      have hyA := fun w2 => hy1.pure hpj hf1 w2
      refine ⟨vj, hyA w, hf1, ?_⟩
      simp only [List.cons_append, wpT, hi, if_true]
      refine one_put F.ij F.si vj (one_mono ?_ h')
      rintro b w2 ⟨⟨q1, vj', y', f', q2⟩, u', hu'⟩
      have hy2 : Yld P ops oj vj' a w2 := (y'.tmps hu').unput F.ji F.sj u'
      rw [Yld.one (hyA w2) hy2]
      exact ⟨q1, q2⟩
    · simp only [List.cons_append, wpT, hi] at h
      obtain ⟨vi, y1, f1, h1⟩ := h
      obtain ⟨vj, y2, f2, h2⟩ := ih _ _ _ hp h1
      refine ⟨vj, y2.unput F.ji F.sj vi, fun hw => (Fits.put_iff F.ji vi).1 (f2 (by rw [wanted_put oj a oi.dst vi b3]; exact hw)), ?_⟩
      simp only [List.cons_append, wpT, hi]
      refine ⟨vi, y1.put F.ij F.si vj, fun hw => (Fits.put_iff F.ij vj).2 (f1 (by rw [wanted_put oi a oj.dst vj a3] at hw; exact hw)), ?_⟩
      rw [Act.put_comm a vj vi b2]
      exact wpT_mono _ _ _ (fun _ w ⟨q1, q2⟩ => ⟨q1, fun hs => (q2 hs).put F.ij F.si vj⟩) h2

theorem take_loud {Q : Act → World → Prop} {S : List (Tmp × Tmp)} {oj : Oper} {post : List Oper} (hj : loud oj = true) (pre : List Oper) : ∀ (St : Oper → World → Prop) (a : Act) (w : World),
    (∀ oi ∈ pre, Free P ops S oi oj) → wpT P ops Q S (pre ++ oj :: post) St a w →
    one P ops oj (fun b w' => St oj w' ∧ wpT P ops Q S (pre ++ post) St b w') a w := by
  induction pre with
  | nil =>
    intro St a w _ h
    simp only [List.nil_append, wpT, hj, if_true] at h
    exact h
  | cons oi pre ih =>
    intro St a w hfree h
    have F := hfree oi (by simp)
    have hp := fun o ho => hfree o (List.mem_cons_of_mem _ ho)
    obtain ⟨a1, a2, a3⟩ := Oper.apart_spec F.ij
    obtain ⟨b1, b2, b3⟩ := Oper.apart_spec F.ji
    by_cases hi : loud oi = true
    · have := F.c; simp [compat, hi, hj] at this
    · have hc : pureK P oi = true ∨ stab S oi oj = true := by have := F.c; simpa [compat, hi, hj] using this
      simp only [List.cons_append, wpT, hi] at h
      obtain ⟨vi, y1, f1, h1⟩ := h
      refine one_mono ?_ (one_out (one_unput F.ji F.sj vi (ih _ _ _ hp h1)))
      rintro b w' ⟨⟨⟨q1, q2⟩, q3⟩, u, hu⟩
      refine ⟨q1, ?_⟩
      simp only [List.cons_append, wpT, hi]
      have yb : Yld P ops oi vi b w' := by
        have ya : Yld P ops oi vi a w' := by
          rcases hc with hc | hc
          · exact y1.pure hc f1 w'
          · exact q2 hc
        exact (ya.put F.ij F.si u).tmps hu.symm
      refine ⟨vi, yb, fun hw => ?_, ?_⟩
      · rw [hu, wanted_put oi a oj.dst u a3] at hw
        exact ((Fits.put_iff F.ij u).2 (f1 hw)).tmps hu.symm
      · exact wpT_mono _ _ _ (fun _ w ⟨q1, q2⟩ => ⟨q1, fun hs => ((q2 hs).put F.ij F.si u).tmps hu.symm⟩) q3

def freeB (P : Program) (ops : Array Oper) (S : List (Tmp × Tmp)) (i j : Nat) : Bool :=
  match ops[i]?, ops[j]? with
  | some oi, some oj => compat P S oi oj && oi.apart ops oj && oj.apart ops oi
  | _, _ => false

def pairB (P : Program) (ops : Array Oper) (S : List (Tmp × Tmp)) (B : Array Nat) (i j : Nat) : Bool :=
  !direct ops i j && ((B.getD j 0).testBit i || freeB P ops S i j)

theorem all_orders {Q : Act → World → Prop} {Q' : Exit → Act → World → Prop} {S : List (Tmp × Tmp)} {B : Array Nat} {c : List Nat} (hQ : ∀ a w, Q a w → Q' .normal a w) (hs : Region.noSelect ops = true)
    (hB : consistent ops B = true) (hin : ∀ i, i < ops.size → i ∈ c) (hnd : c.Nodup) (hp : c.Pairwise fun i j => pairB P ops S B i j = true) :
    ∀ (fuel : Nat) (listed : Array Bool) (St : Oper → World → Prop) (a : Act) (w : World), listed.size = ops.size → Closed ops listed → (rem c listed).length ≤ fuel →
      wpT P ops Q S (opsOf ops (rem c listed)) St a w → wpAny P .any ops Q' fuel listed a w := by
  intro fuel
  induction fuel with
  | zero =>
    intro listed St a w hsz hcl hlen h
    have hr : rem c listed = [] := List.eq_nil_of_length_eq_zero (by omega)
    refine ⟨?_, ?_⟩
    · refine List.eq_nil_iff_forall_not_mem.2 fun j hj => ?_
      obtain ⟨h0, o, ho, _⟩ := mem_ready.1 hj
      have : j ∈ rem c listed := List.mem_filter.2 ⟨hin j (Array.getElem?_eq_some_iff.1 ho).1, by simp only [h0, Bool.not_false]⟩
      rw [hr] at this; cases this
    · rw [hr] at h; exact hQ _ _ h
  | succ fuel ih =>
    intro listed St a w hsz hcl hlen h
    have hpr : (rem c listed).Pairwise fun i j => pairB P ops S B i j = true := hp.filter _
    refine ⟨fun h0 => ?_, fun j hj => ?_⟩
    · cases hr : rem c listed with
      | nil => rw [hr] at h; exact hQ _ _ h
      | cons i t =>
        exfalso
        have hi : i ∈ rem c listed := by rw [hr]; simp
        obtain ⟨hic, hiu⟩ := List.mem_filter.1 hi
        have hiu' : listed.getD i true = false := by simpa using hiu
        have his : i < ops.size := by
          rcases Nat.lt_or_ge i listed.size with h' | h'
          · omega
          · simp [Array.getElem?_eq_none h'] at hiu'
        have hio : ops[i]? = some ops[i] := Array.getElem?_eq_some_iff.2 ⟨his, rfl⟩
        have : i ∈ Region.ready .any ops listed := by
          refine mem_ready.2 ⟨hiu', _, hio, fun e he hb => ?_⟩
          have hlt := (consistent_spec hB hio).1 e he hb
          cases hl : listed.getD e.on false with
          | true => rfl
          | false =>
            exfalso
            have her : e.on ∈ rem c listed := List.mem_filter.2 ⟨hin _ (by omega), by rw [getD_ft (by omega), hl]; rfl⟩
            rw [hr] at her hpr
            rcases List.mem_cons.1 her with h2 | h2
            · omega
            · have h3 := (List.pairwise_cons.1 hpr).1 _ h2
              simp only [pairB, direct, hio, Bool.and_eq_true, Bool.not_eq_true'] at h3
              have h4 := h3.1
              rw [List.any_eq_false] at h4
              exact h4 e (by simpa using he) (by simp [hb])
        rw [h0] at this; cases this
    · obtain ⟨hju, oj, hoj, hall⟩ := mem_ready.1 hj
      have hjs : j < ops.size := (Array.getElem?_eq_some_iff.1 hoj).1
      have hjr : j ∈ rem c listed := List.mem_filter.2 ⟨hin j hjs, by simp only [hju, Bool.not_false]⟩
      obtain ⟨pre, post, hsplit⟩ := List.append_of_mem hjr
      have hndr : (rem c listed).Nodup := hnd.filter _
      have hrem : rem c (listed.setIfInBounds j true) = pre ++ post := by
        have h1 : rem c (listed.setIfInBounds j true) = (rem c listed).filter fun i => i != j := by
          unfold rem
          rw [List.filter_filter]
          refine List.filter_congr fun i _ => ?_
          by_cases hij : j = i
          · subst hij; simp [hsz, hjs]
          · rw [getD_set_ne true hij]; simp [Ne.symm hij]
        rw [h1, hsplit, List.filter_append, List.filter_cons]
        rw [hsplit] at hndr
        have hn := List.nodup_append.1 hndr
        have hn2 := List.nodup_cons.1 hn.2.1
        simp only [bne_self_eq_false, Bool.false_eq_true, if_false]
        rw [List.filter_eq_self.2, List.filter_eq_self.2]
        · intro x hx; simp only [bne_iff_ne]; rintro rfl; exact hn2.1 hx
        · intro x hx; simp only [bne_iff_ne]; rintro rfl; exact hn.2.2 x hx x (by simp) rfl
      have hnext : ∀ St a' w', wpT P ops Q S (opsOf ops (pre ++ post)) St a' w' → wpAny P .any ops Q' fuel (listed.setIfInBounds j true) a' w' := fun St a' w' h' => by
        refine ih (listed.setIfInBounds j true) St a' w' (by simp [hsz]) ?_ ?_ (by rw [hrem]; exact h')
        · intro k o ho hl e he hb
          by_cases hjk : j = k
          · subst hjk
            obtain rfl : o = oj := Option.some.inj (ho.symm.trans hoj)
            exact getD_set_true (hall e he hb)
          · rw [getD_set_ne false hjk] at hl
            exact getD_set_true (hcl k o ho hl e he hb)
        · rw [hrem]
          have := congrArg List.length hsplit
          simp only [List.length_append, List.length_cons] at this ⊢
          omega
      have hojD : ops.getD j default = oj := by simp [Array.getD_eq_getD_getElem?, hoj]
      have hfree : ∀ oi ∈ opsOf ops pre, Free P ops S oi oj := by
        intro oi hoi
        obtain ⟨i, hip, rfl⟩ := List.mem_map.1 hoi
        have hir : i ∈ rem c listed := by rw [hsplit]; exact List.mem_append_left _ hip
        have hiu : listed.getD i true = false := by simpa using (List.mem_filter.1 hir).2
        have his : i < ops.size := by
          rcases Nat.lt_or_ge i listed.size with h' | h'
          · omega
          · simp [Array.getElem?_eq_none h'] at hiu
        have hio : ops[i]? = some ops[i] := Array.getElem?_eq_some_iff.2 ⟨his, rfl⟩
        rw [hsplit] at hpr
        have hp1 := (List.pairwise_append.1 hpr).2.2 i hip j (by simp)
        simp only [pairB, Bool.and_eq_true, Bool.or_eq_true] at hp1
        have hnb : (B.getD j 0).testBit i ≠ true := fun hb => by
          have := waits_listed hB hcl j j oj (Nat.le_refl _) hoj hall i hb
          rw [← getD_ft (by omega), hiu] at this; cases this
        have hf := hp1.2.resolve_left hnb
        have hiD : ops.getD i default = ops[i] := by simp [Array.getD_eq_getD_getElem?, hio]
        simp only [freeB, hio, hoj, Bool.and_eq_true] at hf
        rw [hiD]
        exact ⟨hf.1.2, hf.2, hf.1.1, fun cs b => Region.noSelect_spec hs i _ cs b hio, fun cs b => Region.noSelect_spec hs j _ cs b hoj⟩
      rw [hsplit] at h
      simp only [opsOf, List.map_append, List.map_cons, hojD] at h
      by_cases hl : loud oj = true
      · have := take_loud (Q := Q) hl _ St a w hfree h
        exact one_wpOp hoj (one_mono (fun b w' q => hnext St b w' (by simp only [opsOf, List.map_append]; exact q.2)) this)
      · obtain ⟨v, hy, _, hk⟩ := take_calm (Q := Q) (by simpa using hl) _ St a w hfree h
        exact one_wpOp hoj (one_of_yld hy (hnext St _ _ (by simp only [opsOf, List.map_append]; exact hk)))

def okB (P : Program) (ops : Array Oper) (S : List (Tmp × Tmp)) (c : List Nat) : Bool :=
  Region.noSelect ops && consistent ops (Region.before ops) && (List.range ops.size).all (fun i => c.contains i) && c.all (fun i => decide (i < ops.size)) &&
    pairsB (fun i j => i != j && pairB P ops S (Region.before ops) i j) c

/-- ONE WALK SERVES EVERY ORDER. 'c': the order of the walk. -/
theorem wp_region_order {id : Nat} {Q : Exit → Act → World → Prop} {a : Act} {w : World} (S : List (Tmp × Tmp)) (c : List Nat) (hm : P.follows .mixedOrders = true) (hok : okB P ops S c = true)
    (h : wpT P ops (Q .normal) S (opsOf ops c) (fun _ _ => True) a w.drew) : (Code.region id ops true).wp P Q a w := by
  simp only [okB, Bool.and_eq_true] at hok
  obtain ⟨⟨⟨⟨h1, h2⟩, h3⟩, h5⟩, h4⟩ := hok
  have hpw := pairwise_of h4
  have hlt : ∀ i ∈ c, i < ops.size := fun i hi => by simpa using List.all_eq_true.1 h5 i hi
  have hrem : rem c (Array.replicate ops.size false) = c := List.filter_eq_self.2 fun i hi => by simp [hlt i hi]
  have hin : ∀ i, i < ops.size → i ∈ c := fun i hi => by
    have := List.all_eq_true.1 h3 i (List.mem_range.2 hi)
    simpa using this
  have hnd : c.Nodup := hpw.imp fun h => by
    simp only [Bool.and_eq_true, bne_iff_ne] at h
    exact h.1
  have hlen : c.length ≤ ops.size := by
    have h6 := hnd.length_le_of_subset (l₂ := List.range ops.size) fun i hi => List.mem_range.2 (hlt i hi)
    simpa using h6
  refine wp_region_any hm (all_orders (S := S) (B := Region.before ops) (c := c) (Q := Q .normal) (fun _ _ h => h) h1 h2 hin hnd (hpw.imp fun h => by
      simp only [Bool.and_eq_true] at h; exact h.2) ops.size _ (fun _ _ => True) a _ (by simp) ?_ (by rw [hrem]; exact hlen) (by rw [hrem]; exact h))
  intro j o _ hl
  rcases Nat.lt_or_ge j ops.size with h7 | h7 <;> simp [h7] at hl


/-- What loads that may come up late have loaded; who must leave it. -/
structure Fact where
  d : Option Tmp
  p : World → Prop
def Keeps (S : List (Tmp × Tmp)) (F : List Fact) (e : Option Tmp) (w : World) : Prop := ∀ f ∈ F, has S f.d e = true → f.p w

/-- The walk; 'F': what loads that may come up late have loaded. -/
def Walk (P : Program) (ops : Array Oper) (Q : Act → World → Prop) (S : List (Tmp × Tmp)) (l : List Oper) (F : List Fact) (a : Act) (w : World) : Prop :=
  ∀ St : Oper → World → Prop, (∀ oj w, Keeps S F oj.dst w → St oj w) → wpT P ops Q S l St a w

theorem wp_region_walk {id : Nat} {Q : Exit → Act → World → Prop} {a : Act} {w : World} {l : List Oper} (S : List (Tmp × Tmp)) (c : List Nat) (l' : List Oper) (hm : P.follows .mixedOrders = true) (hok : okB P l.toArray S c = true)
    (hl : opsOf l.toArray c = l') (h : Walk P l.toArray (Q .normal) S l' [] a w.drew) : (Code.region id l.toArray true).wp P Q a w := by
  refine wp_region_order S c hm hok ?_
  rw [hl]
  exact h _ fun _ _ _ => trivial

section steps
variable {Q : Act → World → Prop} {S : List (Tmp × Tmp)} {F : List Fact} {a : Act} {w : World} {rest : List Oper} {o : Oper}

theorem keeps_nil {e : Option Tmp} : Keeps S [] e w := by simp [Keeps]
theorem keeps_here {e d : Option Tmp} {ad : Addr} {v : Value} (_hh : has S d e = true) (h : w.cell? ad = some v) (hl : Keeps S F e w) : Keeps S (⟨d, fun w' => w'.cell? ad = some v⟩ :: F) e w := by
  intro q hq hb
  rcases List.mem_cons.1 hq with rfl | hq
  · exact h
  · exact hl q hq hb
theorem keeps_blk {e d : Option Tmp} {g : Nat} {cs : Array Value} {t : TypeId} (_hh : has S d e = true) (h : w.heap[g]? = some (.cells cs t (0, 0))) (hl : Keeps S F e w) : Keeps S (⟨d, fun w' => w'.heap[g]? = some (.cells cs t (0, 0))⟩ :: F) e w := by
  intro q hq hb
  rcases List.mem_cons.1 hq with rfl | hq
  · exact h
  · exact hl q hq hb
theorem keeps_skip {e d : Option Tmp} {p : World → Prop} (hh : has S d e = false) (hl : Keeps S F e w) : Keeps S (⟨d, p⟩ :: F) e w := by
  intro q hq hb
  rcases List.mem_cons.1 hq with rfl | hq
  · rw [hh] at hb; cases hb
  · exact hl q hq hb

theorem walk_nil (h : Q a w) : Walk P ops Q S [] F a w := fun _ _ => h

/-- What must hold behind what is loud. -/
structure Then (P : Program) (ops : Array Oper) (Q : Act → World → Prop) (S : List (Tmp × Tmp)) (rest : List Oper) (F : List Fact) (e : Option Tmp) (a : Act) (w : World) : Prop where
  keeps : Keeps S F e w
  walk : Walk P ops Q S rest F a w

theorem walk_loud (hl : loud o = true) (h : ∀ K : Act → World → Prop, (∀ a' w', Then P ops Q S rest F o.dst a' w' → K a' w') → wpList P ops (Exit.then K stay) [o] a w) : Walk P ops Q S (o :: rest) F a w := by
  intro St hSt
  simp only [wpT, hl, if_true]
  exact one_mono (fun a w q => ⟨hSt o w q.keeps, q.walk St hSt⟩) (one_of_list (h (Then P ops Q S rest F o.dst) fun _ _ q => q))

theorem walk_calm (hl : loud o = false) (hf : Region.wanted o (yielded ops a.tmps) = true → Fits o a) (hs : (S.any fun p => some p.1 == o.dst) = false)
    (h : ∀ K : Act → World → Prop, (∀ a', Walk P ops Q S rest F a' w → K a' w) → wpList P ops (Exit.then K stay) [o] a w) : Walk P ops Q S (o :: rest) F a w := by
  intro St hSt
  simp only [wpT, hl, Bool.false_eq_true, if_false]
  obtain ⟨v, hy, hk⟩ := yld_of_one hl hf (one_of_list (h (fun a' w' => w' = w ∧ Walk P ops Q S rest F a' w') fun a' q => ⟨rfl, q⟩))
  refine ⟨v, hy, hf, hk _ fun oj w q => ⟨hSt oj w q, fun h => ?_⟩⟩
  exfalso
  simp only [stab, has] at h
  split at h
  · rename_i d e hd _
    rw [List.any_eq_false] at hs
    have h : S.contains (d, e) = true := h
    rw [List.contains_iff_mem] at h
    exact hs _ h (by simp [hd])
  · cases h

/-- A load of one cell, that may come up late. -/
theorem walk_late {dst : Option Tmp} {t : TypeId} {x : Operand} {type : TypeId} {pos : String} {after : Array Edge} {ad : Addr} {v : Value} (hx : a.eval x = .pointer (some ad))
    (hone : ∀ w' : World, (isAgg t).run P w' = .ok false w') (hc : w.cell? ad = some v)
    (h : ∀ K : Act → World → Prop, (∀ a', Walk P ops Q S rest (⟨dst, fun w' => w'.cell? ad = some v⟩ :: F) a' w → K a' w) → wpList P ops (Exit.then K stay) [{ dst, op := .load t x, type, pos, after, guard := none }] a w) :
    Walk P ops Q S ({ dst, op := .load t x, type, pos, after, guard := none } :: rest) F a w := by
  intro St hSt
  have hrun : ∀ w' : World, w'.cell? ad = some v → Yld P ops { dst, op := .load t x, type, pos, after, guard := none } v a w' := fun w' h' => by
    refine .inl ⟨rfl, ?_⟩
    have := hone w'
    simp [execOp, hx, h', this, Instr.loadAt, Instr.sureAddr, loadVar]
  simp only [wpT, loud, Bool.false_eq_true, if_false]
  have h1 := one_of_list (h (fun a' w' => w' = w ∧ Walk P ops Q S rest (⟨dst, fun w' => w'.cell? ad = some v⟩ :: F) a' w') fun a' q => ⟨rfl, q⟩)
  obtain ⟨u, hy, hk⟩ := yld_of_one (o := { dst, op := .load t x, type, pos, after, guard := none }) (a := a) rfl (fun _ => trivial) h1
  obtain rfl : u = v := Yld.one hy (hrun w hc)
  exact ⟨u, hy, fun _ => trivial, hk _ fun oj w' q => ⟨hSt oj w' fun f hf => q f (List.mem_cons_of_mem _ hf), fun hst => hrun w' (q ⟨dst, fun w' => w'.cell? ad = some u⟩ (by simp) hst)⟩⟩

/-- A load of a whole block, that may come up late. -/
theorem walk_late_row {dst : Option Tmp} {t tt : TypeId} {x : Operand} {type : TypeId} {pos : String} {after : Array Edge} {g : Nat} {cs : Array Value} {d : TypeDesc} (hx : a.eval x = .pointer (some ⟨g, 0, none⟩)) (hc : w.heap[g]? = some (.cells cs tt (0, 0)))
    (hu : P.underlying t = some d) (hd : (match d with | .struct _ | .array _ _ => true | _ => false) = true) (hi : (P.info? t).map (·.size) = some cs.size)
    (h : ∀ K : Act → World → Prop, (∀ a', Walk P ops Q S rest (⟨dst, fun w' => w'.heap[g]? = some (.cells cs tt (0, 0))⟩ :: F) a' w → K a' w) → wpList P ops (Exit.then K stay) [{ dst, op := .load t x, type, pos, after, guard := none }] a w) :
    Walk P ops Q S ({ dst, op := .load t x, type, pos, after, guard := none } :: rest) F a w := by
  intro St hSt
  have hrun : ∀ w' : World, w'.heap[g]? = some (.cells cs tt (0, 0)) → Yld P ops { dst, op := .load t x, type, pos, after, guard := none } (.agg cs) a w' := fun w' h' => by
    refine .inl ⟨rfl, ?_⟩
    simp [execOp, hx, Instr.loadAt, Instr.sureAddr, run_loadVar_row w' g tt t cs (0, 0) d h' hu hd hi]
  simp only [wpT, loud, Bool.false_eq_true, if_false]
  have h1 := one_of_list (h (fun a' w' => w' = w ∧ Walk P ops Q S rest (⟨dst, fun w' => w'.heap[g]? = some (.cells cs tt (0, 0))⟩ :: F) a' w') fun a' q => ⟨rfl, q⟩)
  obtain ⟨u, hy, hk⟩ := yld_of_one (o := { dst, op := .load t x, type, pos, after, guard := none }) (a := a) rfl (fun _ => trivial) h1
  obtain rfl : u = .agg cs := Yld.one hy (hrun w hc)
  exact ⟨_, hy, fun _ => trivial, hk _ fun oj w' q => ⟨hSt oj w' fun f hf => q f (List.mem_cons_of_mem _ hf), fun hst => hrun w' (q ⟨dst, fun w' => w'.heap[g]? = some (.cells cs tt (0, 0))⟩ (by simp) hst)⟩⟩

theorem walk_plain (hl : plainK o = true) (hs : (S.any fun p => some p.1 == o.dst) = false) (h : ∀ K : Act → World → Prop, (∀ a', Walk P ops Q S rest F a' w → K a' w) → wpList P ops (Exit.then K stay) [o] a w) : Walk P ops Q S (o :: rest) F a w := by
  simp only [plainK, Bool.and_eq_true, Bool.not_eq_true'] at hl
  refine walk_calm hl.1 (fun hw => ?_) hs h
  clear hw h hs
  obtain ⟨dst, op, type, pos, after, guard⟩ := o
  unfold Fits
  cases op <;> simp only <;> simp only [Bool.false_eq_true, and_false] at hl
  case binOp op _ _ _ _ => cases op <;> simp_all

theorem walk_bin {dst : Option Tmp} {op : BinOp} {t yt : TypeId} {x y : Operand} {type : TypeId} {pos : String} {after : Array Edge} {guard : Option (Nat × Bool)} {k k' : IntKind} {n m : Int}
    (hx : a.eval x = .int k n) (hy : a.eval y = .int k' m) (hs : (S.any fun p => some p.1 == dst) = false)
    (h : ∀ K : Act → World → Prop, (∀ a', Walk P ops Q S rest F a' w → K a' w) → wpList P ops (Exit.then K stay) [{ dst, op := .binOp op t x y yt, type, pos, after, guard }] a w) :
    Walk P ops Q S ({ dst, op := .binOp op t x y yt, type, pos, after, guard } :: rest) F a w :=
  walk_calm rfl (fun _ => .inr (.inr ⟨k, n, k', m, hx, hy⟩)) hs h

theorem walk_nilCheck {dst : Option Tmp} {x : Operand} {type : TypeId} {pos : String} {after : Array Edge} {guard : Option (Nat × Bool)} {p : Option Addr} (hx : a.eval x = .pointer p) (hs : (S.any fun p => some p.1 == dst) = false)
    (h : ∀ K : Act → World → Prop, (∀ a', Walk P ops Q S rest F a' w → K a' w) → wpList P ops (Exit.then K stay) [{ dst, op := .nilCheck x, type, pos, after, guard }] a w) :
    Walk P ops Q S ({ dst, op := .nilCheck x, type, pos, after, guard } :: rest) F a w :=
  walk_calm rfl (fun _ => ⟨p, hx⟩) hs h
end steps
end
end Go.Ro
