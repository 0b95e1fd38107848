/-
  A helper for walks, over any program: a region that draws its order may be walked once, in the order of the text, under a static look at which operations are ordered.
-/
import Derived.WalkKit
set_option linter.unusedSimpArgs false
set_option linter.unusedVariables false
namespace Go.Reg

/-- Operations that may change the world, or call. -/
def loud (o : Oper) : Bool :=
  match o.op with
  | .move _ | .assign _ | .pick .. | .load .. | .nilCheck _ | .binOp .. | .unOp .. | .makeInterface .. | .slice .. | .fieldAddr .. | .field ..
  | .indexAddr .. | .index .. | .lookup .. | .extract .. | .build .. | .convert .. | .typeAssert .. => false
  | .call { callee := .builtin .len, .. } | .call { callee := .builtin .cap, .. } | .call { callee := .builtin .min, .. } | .call { callee := .builtin .max, .. } => false
  | _ => true

/-- Operations whose value hangs on no memory. -/
def pureK (P : Program) (o : Oper) : Bool :=
  match o.op with
  | .move _ | .assign _ | .extract .. | .nilCheck _ => true
  | .indexAddr t _ _ => match P.underlying t with
    | some (.slice _) => true
    | _ => false
  | .fieldAddr s _ f => match P.underlying s with
    | some (.struct fs) => match fs[f]? with
      | some fd => match P.info? fd.type with
        | some i => i.size != 0
        | none => false
      | none => false
    | _ => false
  | .binOp op _ _ _ _ => match op with
    | .eql | .neq => false
    | _ => true
  | _ => false

/-- What is asked of the operands besides. -/
def Fits (o : Oper) (a : Act) : Prop :=
  match o.op with
  | .binOp op _ x y _ => op = .eql ∨ op = .neq ∨ ∃ k n k' m, a.eval x = .int k n ∧ a.eval y = .int k' m
  | .nilCheck x => ∃ p, a.eval x = .pointer p
  | _ => True

def stay : Exit → Act → World → Prop := fun _ _ _ => False

theorem not_lets (K : Act → World → Prop) : ¬ LetsOut (Exit.then K stay) := fun ⟨_, _, h⟩ => h

section
variable {P : Program} {ops : Array Oper}

/-- What an operation that is not loud does: it yields a value, in the world that it got. -/
def Yld (P : Program) (ops : Array Oper) (o : Oper) (v : Value) (a : Act) (w : World) : Prop :=
  (Region.wanted o (yielded ops a.tmps) = true ∧ (execOp a.eval o).run P w = .ok (.value v) w) ∨
  (Region.wanted o (yielded ops a.tmps) = false ∧ v = undef)

theorem value_of_bind {s : Sem Value} {w w' : World} {n : Next} (h : (s >>= fun v => pure (Next.value v)).run P w = .ok n w') : ∃ v, n = .value v := by
  rw [Sem.run_bind] at h
  cases hs : s.run P w with
  | ok v w1 => rw [hs] at h; simp only [Result.andThen_ok, Sem.run_pure, Result.ok.injEq] at h; exact ⟨v, h.1.symm⟩
  | halt x w1 => rw [hs] at h; simp only [Result.andThen_halt, reduceCtorEq] at h

theorem value_of_calm {o : Oper} {a : Act} {w w' : World} {n : Next} (hl : loud o = false) (hf : Fits o a) (h : (execOp a.eval o).run P w = .ok n w') : ∃ v, n = .value v := by
  obtain ⟨dst, op, type, pos, after, guard⟩ := o
  cases op
  case move x => simp only [execOp, Sem.run_pure, Result.ok.injEq] at h; exact ⟨_, h.1.symm⟩
  case assign x => simp only [execOp, Sem.run_pure, Result.ok.injEq] at h; exact ⟨_, h.1.symm⟩
  case pick c x y =>
    simp only [execOp, Sem.run_bind] at h
    cases hs : (asBool (a.eval c)).run P w with
    | ok v w1 => rw [hs] at h; simp only [Result.andThen_ok, Sem.run_pure, Result.ok.injEq] at h; exact ⟨_, h.1.symm⟩
    | halt x w1 => rw [hs] at h; simp only [Result.andThen_halt, reduceCtorEq] at h
  case nilCheck x =>
    obtain ⟨p, hp⟩ := hf
    cases p with
    | none => simp [execOp, hp, runtimePanic] at h
    | some p => simp only [execOp, hp, Sem.run_pure, Result.ok.injEq] at h; exact ⟨_, h.1.symm⟩
  case call c =>
    obtain ⟨callee, args, ats⟩ := c
    cases callee with
    | value f => simp [loud] at hl
    | invoke r m => simp [loud] at hl
    | builtin b =>
      cases b <;> simp [loud] at hl
      case cap => exact value_of_bind h
      case len => exact value_of_bind h
      case max => exact value_of_bind h
      case min => exact value_of_bind h
  all_goals first
    | exact value_of_bind h
    | simp [loud] at hl

theorem bounds_no {α : Type} (k : IntKind) (x y : Int) (c : BoundsCode) (w w' : World) (v : α) : (boundsPanic k x y c : Sem α).run P w ≠ .ok v w' := by
  intro h
  simp only [boundsPanic, runtimePanic, Sem.run_ite, Sem.run_bind, Sem.run_map, run_choose, run_program, Result.andThen_ok, Sem.run_pure, Result.andThen_ite, run_goPanic] at h
  (repeat' split at h) <;> simp at h

theorem index_pure {t : TypeId} {e : TypeId} {x i : Operand} {a : Act} {w : World} {v : Value} {dst : Option Tmp} {type : TypeId} {pos : String} {after : Array Edge} {guard : Option (Nat × Bool)}
    (hu : P.underlying t = some (.slice e)) (h : (execOp a.eval { dst, op := .indexAddr t x i, type, pos, after, guard }).run P w = .ok (.value v) w) (w2 : World) :
    (execOp a.eval { dst, op := .indexAddr t x i, type, pos, after, guard }).run P w2 = .ok (.value v) w2 := by
  have hr : ∀ w, (underlying t).run P w = .ok (.slice e) w := fun w => by simp [underlying, hu]
  simp only [execOp, Instr.indexAt, Sem.run_bind] at h ⊢
  cases hi : a.eval i
  case int k n =>
    simp only [hi, asIntOf, Sem.run_pure, Result.andThen_ok, hr] at h ⊢
    cases hx : a.eval x
    case slice b l c =>
      simp only [hx, Sem.run_pure, Result.andThen_ok, hr, Sem.run_bind] at h ⊢
      cases b with
      | none =>
        revert h
        generalize hb : (boundsPanic k n 0 BoundsCode.index : Sem Value).run P w = r
        cases r with
        | halt y w1 => intro h; simp at h
        | ok y w1 => exact absurd hb (bounds_no _ _ _ _ _ _ _)
      | some b =>
        simp only [Sem.run_ite] at h ⊢
        split at h
        · rename_i hin
          rw [if_pos hin]
          revert h
          cases hz : P.info? e with
          | none => intro h; simp [sizeOf, typeInfo, hz, stuck] at h
          | some i => intro h; simp [sizeOf, typeInfo, hz] at h ⊢; exact h
        · simp only [Bool.and_false, Bool.false_eq_true, if_false] at h
          revert h
          generalize hb : (boundsPanic k n _ BoundsCode.index : Sem Value).run P w = r
          cases r with
          | halt y w1 => intro h; simp at h
          | ok y w1 => exact absurd hb (bounds_no _ _ _ _ _ _ _)
    all_goals (simp [hx, stuck] at h)
  case pointer p => cases p <;> simp [hi, asIntOf, stuck, unsupported] at h
  all_goals (simp [hi, asIntOf, stuck] at h)

theorem value_of_pure {o : Oper} {a : Act} {w : World} {v : Value} (hk : pureK P o = true) (hf : Fits o a) (h : (execOp a.eval o).run P w = .ok (.value v) w) (w2 : World) :
    (execOp a.eval o).run P w2 = .ok (.value v) w2 := by
  obtain ⟨dst, op, type, pos, after, guard⟩ := o
  cases op <;> simp [pureK] at hk
  case move x => simp only [execOp, Sem.run_pure, Result.ok.injEq] at h ⊢; exact ⟨h.1, trivial⟩
  case assign x => simp only [execOp, Sem.run_pure, Result.ok.injEq] at h ⊢; exact ⟨h.1, trivial⟩
  case nilCheck x =>
    obtain ⟨p, hp⟩ := hf
    cases p with
    | none => simp [execOp, hp, runtimePanic] at h
    | some p => simp only [execOp, hp, Sem.run_pure, Result.ok.injEq] at h ⊢; exact ⟨h.1, trivial⟩
  case extract t i =>
    simp only [execOp, Instr.extract, Sem.run_bind] at h ⊢
    cases ht : a.eval t <;> simp only [ht] at h ⊢ <;> try (simp [stuck] at h; done)
    rename_i vs
    cases hv : vs[i]? <;> simp only [hv] at h ⊢ <;> simp_all [stuck]
  case binOp op t x y yt =>
    simp only [execOp, Sem.run_bind] at h ⊢
    rcases hf with rfl | rfl | ⟨k, n, k', m, hx, hy⟩
    · simp at hk
    · simp at hk
    · simp only [hx, hy] at h ⊢
      cases op <;> simp at hk <;> simp only [eqGuard, binOp, Op.shift, Op.intArith, Op.intDiv, Op.intBits, Op.intCmp, runtimePanic] at h ⊢ <;> (repeat' split at h) <;> simp_all
  case fieldAddr s x f =>
    split at hk
    · rename_i fs hs
      split at hk
      · rename_i fd hfd
        split at hk
        · rename_i i hi
          simp only [execOp, Instr.fieldAt, Sem.run_bind] at h ⊢
          have hu : ∀ w, (underlying s).run P w = .ok (.struct fs) w := fun w => by simp [underlying, hs]
          simp only [hu, Result.andThen_ok, hfd, Sem.run_bind] at h ⊢
          cases hx : a.eval x <;> simp only [hx, Instr.sureAddr] at h ⊢ <;> try (simp [stuck] at h; done)
          rename_i p
          cases p <;> simp only at h ⊢ <;> try (simp [stuck] at h; done)
          simp [fieldPlace, sizeOf, typeInfo, hi] at h ⊢
          rw [if_neg (by simpa using hk)] at h ⊢
          simp at h ⊢
          exact h
        · simp at hk
      · simp at hk
    · simp at hk
  case indexAddr t x i =>
    split at hk
    · rename_i e hu
      exact index_pure hu h w2
    · simp at hk

/-- One operation, carried out; no way out but on. -/
def one (P : Program) (ops : Array Oper) (o : Oper) (K : Act → World → Prop) (a : Act) (w : World) : Prop :=
  if Region.wanted o (yielded ops a.tmps) then o.wp P a w K stay else K (a.put o.dst undef) w

theorem one_of_list {o : Oper} {K : Act → World → Prop} {a : Act} {w : World} (h : wpList P ops (Exit.then K stay) [o] a w) : one P ops o K a w := by
  unfold one
  simp only [wpList] at h
  split
  · rename_i hw
    rw [if_pos hw] at h
    rcases h with h | h
    · have hq : ∀ e a w, Exit.then K stay e a w → (match e with | .normal => K a w | _ => stay e a w) := fun e a w q => by cases e <;> exact q
      unfold Oper.wp at h ⊢
      revert h
      generalize (execOp a.eval o).run P w = r
      intro h
      cases r with
      | ok n w' => cases n <;> simp only [Oper.upon] at h ⊢ <;> first | exact h | (exact Calls.mono h fun e w'' he => by cases e <;> first | exact he | exact (not_lets K he).elim) | exact Rows.mono h fun _ _ he => he
      | halt x w' => cases x <;> simp only [Oper.upon] at h ⊢ <;> exact h
    · exact (not_lets K h.2).elim
  · rename_i hw
    rw [if_neg hw] at h
    exact h

theorem one_mono {o : Oper} {K K' : Act → World → Prop} {a : Act} {w : World} (hk : ∀ a w, K a w → K' a w) (h : one P ops o K a w) : one P ops o K' a w := by
  unfold one at *
  split
  · rename_i hw; rw [if_pos hw] at h; exact Oper.wp_mono hk h
  · rename_i hw; rw [if_neg hw] at h; exact hk _ _ h

/-- What a calm operation does, out of its walk. -/
theorem yld_of_one {o : Oper} {K : Act → World → Prop} {a : Act} {w : World} (hl : loud o = false) (hf : Region.wanted o (yielded ops a.tmps) = true → Fits o a)
    (h : one P ops o (fun a' w' => w' = w ∧ K a' w') a w) : ∃ v, Yld P ops o v a w ∧ K (a.put o.dst v) w := by
  unfold one at h
  by_cases hw : Region.wanted o (yielded ops a.tmps) = true
  · rw [if_pos hw] at h
    unfold Oper.wp at h
    revert h
    generalize hr : (execOp a.eval o).run P w = r
    intro h
    cases r with
    | ok n w' =>
      obtain ⟨v, rfl⟩ := value_of_calm hl (hf hw) hr
      simp only [Oper.upon] at h
      obtain ⟨rfl, h⟩ := h
      exact ⟨v, .inl ⟨hw, hr⟩, h⟩
    | halt x w' => cases x <;> simp [Oper.upon, stay] at h
  · rw [if_neg hw] at h
    exact ⟨undef, .inr ⟨by simpa using hw, rfl⟩, h.2⟩

theorem one_of_yld {o : Oper} {K : Act → World → Prop} {a : Act} {w : World} {v : Value} (hy : Yld P ops o v a w) (h : K (a.put o.dst v) w) : one P ops o K a w := by
  unfold one
  rcases hy with ⟨hw, hr⟩ | ⟨hw, rfl⟩
  · rw [if_pos hw]; simp only [Oper.wp, hr, Oper.upon]; exact h
  · rw [if_neg (by simp [hw])]; exact h

theorem one_wpOp {j : Nat} {o : Oper} {Q : Exit → Act → World → Prop} {K : Act → World → Prop} {a : Act} {w : World} (hj : ops[j]? = some o) (h : one P ops o K a w) : wpOp P ops Q j K a w := by
  unfold one at h
  unfold wpOp
  simp only [hj]
  split
  · rename_i hw
    rw [if_pos hw] at h
    refine .inl ?_
    unfold Oper.wp at h ⊢
    revert h
    generalize (execOp a.eval o).run P w = r
    intro h
    cases r with
    | ok n w' => cases n <;> simp only [Oper.upon] at h ⊢ <;> first | exact h | (exact Calls.mono h fun e w'' he => by cases e <;> first | exact he | exact he.elim | exact (let ⟨_, _, q⟩ := he; q.elim)) | exact Rows.mono h fun _ _ he => he
    | halt x w' => cases x <;> simp only [Oper.upon] at h ⊢ <;> exact h.elim
  · rename_i hw
    rw [if_neg hw] at h
    exact h

theorem Yld.put {oi oj : Oper} {v : Value} {a : Act} {w : World} (hap : oi.apart ops oj = true) (hsi : ∀ cs b, oi.op ≠ .select cs b) (u : Value) (h : Yld P ops oi v a w) :
    Yld P ops oi v (a.put oj.dst u) w := by
  obtain ⟨h1, h2, h3⟩ := Oper.apart_spec hap
  unfold Yld at *
  rw [execOp_put oi hsi a oj.dst u h3, wanted_put oi a oj.dst u h3]
  exact h

theorem Yld.unput {oi oj : Oper} {v : Value} {a : Act} {w : World} (hap : oi.apart ops oj = true) (hsi : ∀ cs b, oi.op ≠ .select cs b) (u : Value) (h : Yld P ops oi v (a.put oj.dst u) w) :
    Yld P ops oi v a w := by
  obtain ⟨h1, h2, h3⟩ := Oper.apart_spec hap
  unfold Yld at *
  rw [execOp_put oi hsi a oj.dst u h3, wanted_put oi a oj.dst u h3] at h
  exact h

theorem Yld.one {oi : Oper} {v v' : Value} {a : Act} {w : World} (h : Yld P ops oi v a w) (h' : Yld P ops oi v' a w) : v = v' := by
  rcases h with ⟨h1, h2⟩ | ⟨h1, rfl⟩ <;> rcases h' with ⟨h3, h4⟩ | ⟨h3, rfl⟩
  · rw [h2] at h4; simpa using h4
  · rw [h1] at h3; cases h3
  · rw [h1] at h3; cases h3
  · rfl

theorem eval_tmps {a b : Act} (h : a.tmps = b.tmps) : a.eval = b.eval := by
  funext x
  cases x <;> simp [Act.eval, h]

theorem Yld.tmps {o : Oper} {v : Value} {a b : Act} {w : World} (h : a.tmps = b.tmps) (hy : Yld P ops o v a w) : Yld P ops o v b w := by
  unfold Yld at *
  rw [← eval_tmps h, ← h]
  exact hy

theorem Fits.tmps {o : Oper} {a b : Act} (h : a.tmps = b.tmps) (hy : Fits o a) : Fits o b := by
  unfold Fits at *
  rw [← eval_tmps h]
  exact hy

theorem Fits.put_iff {oi oj : Oper} {a : Act} (hap : oi.apart ops oj = true) (u : Value) : Fits oi (a.put oj.dst u) ↔ Fits oi a := by
  obtain ⟨h1, h2, h3⟩ := Oper.apart_spec hap
  have key : ∀ x, x ∈ oi.op.operands → (a.put oj.dst u).eval x = a.eval x := fun x hx => Act.eval_put fun d hd hxd => h3 d hd (by
    subst hxd
    exact List.mem_append_left _ (List.mem_filterMap.2 ⟨.tmp d, by simpa using hx, rfl⟩))
  obtain ⟨dst, op, type, pos, after, guard⟩ := oi
  unfold Fits
  cases op <;> simp only <;> simp only [Op.operands] at key
  case binOp op t x y yt => rw [key x (by simp), key y (by simp)]
  case nilCheck x => rw [key x (by simp)]

theorem wanted_tmps {o : Oper} {a b : Act} (h : a.tmps = b.tmps) : Region.wanted o (yielded ops a.tmps) = Region.wanted o (yielded ops b.tmps) := by rw [h]

theorem Act.put_tmps {a b : Act} (h : a.tmps = b.tmps) (d : Option Tmp) (v : Value) : (a.put d v).tmps = (b.put d v).tmps := by
  cases d <;> simp [Act.put, h]

/-- Of an outcome: what it did to the temporaries. -/
theorem one_out {o : Oper} {K : Act → World → Prop} {a : Act} {w : World} (h : one P ops o K a w) : one P ops o (fun a' w' => K a' w' ∧ ∃ u, a'.tmps = (a.put o.dst u).tmps) a w := by
  unfold one at *
  split
  · rename_i hw
    rw [if_pos hw] at h
    unfold Oper.wp at h ⊢
    revert h
    generalize (execOp a.eval o).run P w = r
    intro h
    cases r with
    | ok n w' =>
      cases n <;> simp only [Oper.upon] at h ⊢
      case value v => exact ⟨h, v, rfl⟩
      case skip => exact ⟨h, undef, rfl⟩
      case defer d => exact ⟨h, undef, Act.put_tmps (a := { a with defers := d :: a.defers }) (b := a) rfl _ _⟩
      case enter f args => exact Calls.mono h fun e w'' he => by cases e <;> first | exact ⟨he, _, rfl⟩ | exact he
      case row r args => exact Rows.mono h fun v _ he => ⟨he, v, rfl⟩
    | halt x w' => cases x <;> simp only [Oper.upon] at h ⊢ <;> exact h
  · rename_i hw
    rw [if_neg hw] at h
    exact ⟨h, undef, rfl⟩

theorem one_some {o : Oper} {K : Act → World → Prop} {a : Act} {w : World} (h : one P ops o K a w) : ∃ a' w', K a' w' := by
  unfold one at h
  split at h
  · unfold Oper.wp at h
    revert h
    generalize (execOp a.eval o).run P w = r
    intro h
    cases r with
    | ok n w' =>
      cases n <;> simp only [Oper.upon] at h
      case value v => exact ⟨_, _, h⟩
      case skip => exact ⟨_, _, h⟩
      case defer d => exact ⟨_, _, h⟩
      case enter f args =>
        obtain ⟨e, w'', _, he, _⟩ := h []
        cases e with
        | returned v => exact ⟨_, _, he⟩
        | panicked c => exact he.elim
        | outgrown => exact (let ⟨_, _, q⟩ := he; q.elim)
      case row r args =>
        obtain ⟨v, w'', he, _⟩ := h default []
        exact ⟨_, _, he⟩
    | halt x w' => cases x <;> simp only [Oper.upon] at h <;> exact h.elim
  · exact ⟨_, _, h⟩

theorem one_unput {oi oj : Oper} {K : Act → World → Prop} {a : Act} {w : World} (hap : oi.apart ops oj = true) (hsi : ∀ cs b, oi.op ≠ .select cs b) (u : Value)
    (h : one P ops oi K (a.put oj.dst u) w) : one P ops oi (fun b w' => K (b.put oj.dst u) w') a w := by
  obtain ⟨h1, h2, h3⟩ := Oper.apart_spec hap
  unfold one at *
  rw [wanted_put oi a oj.dst u h3] at h
  split
  · rename_i hw
    rw [if_pos hw] at h
    unfold Oper.wp at h ⊢
    rw [execOp_put oi hsi a oj.dst u h3] at h
    revert h
    generalize (execOp a.eval oi).run P w = r
    intro h
    cases r with
    | ok n w' =>
      cases n <;> simp only [Oper.upon] at h ⊢
      case value v => rw [Act.put_comm a v u h2]; exact h
      case skip => rw [Act.put_comm a undef u h2]; exact h
      case defer d => rw [Act.put_comm _ undef u h2, ← Act.put_defers]; exact h
      case enter f args =>
        refine Calls.mono h fun e w'' he => ?_
        cases e with
        | returned v => simp only at he ⊢; rw [Act.put_comm a v u h2]; exact he
        | panicked c => exact he
        | outgrown => exact (let ⟨_, _, q⟩ := he; q.elim)
      case row r args => exact Rows.mono h fun v _ he => (by rw [Act.put_comm a v u h2]; exact he)
    | halt x w' => cases x <;> simp only [Oper.upon] at h ⊢ <;> exact h
  · rename_i hw
    rw [if_neg hw] at h
    rw [Act.put_comm a undef u h2]; exact h

theorem one_put {oi oj : Oper} {K : Act → World → Prop} {a : Act} {w : World} (hap : oi.apart ops oj = true) (hsi : ∀ cs b, oi.op ≠ .select cs b) (u : Value)
    (h : one P ops oi (fun b w' => K (b.put oj.dst u) w') a w) : one P ops oi K (a.put oj.dst u) w := by
  obtain ⟨h1, h2, h3⟩ := Oper.apart_spec hap
  unfold one at *
  rw [wanted_put oi a oj.dst u h3]
  split
  · rename_i hw
    rw [if_pos hw] at h
    unfold Oper.wp at h ⊢
    rw [execOp_put oi hsi a oj.dst u h3]
    revert h
    generalize (execOp a.eval oi).run P w = r
    intro h
    cases r with
    | ok n w' =>
      cases n <;> simp only [Oper.upon] at h ⊢
      case value v => rw [← Act.put_comm a v u h2]; exact h
      case skip => rw [← Act.put_comm a undef u h2]; exact h
      case defer d => rw [Act.put_defers, ← Act.put_comm _ undef u h2]; exact h
      case enter f args =>
        refine Calls.mono h fun e w'' he => ?_
        cases e with
        | returned v => simp only at he ⊢; rw [← Act.put_comm a v u h2]; exact he
        | panicked c => exact he
        | outgrown => exact (let ⟨_, _, q⟩ := he; q.elim)
      case row r args => exact Rows.mono h fun v _ he => (by rw [← Act.put_comm a v u h2]; exact he)
    | halt x w' => cases x <;> simp only [Oper.upon] at h ⊢ <;> exact h
  · rename_i hw
    rw [if_neg hw] at h
    rw [← Act.put_comm a undef u h2]; exact h

theorem Yld.pure {o : Oper} {v : Value} {a : Act} {w : World} (hk : pureK P o = true) (hf : Region.wanted o (yielded ops a.tmps) = true → Fits o a) (h : Yld P ops o v a w) (w2 : World) : Yld P ops o v a w2 := by
  rcases h with ⟨h1, h2⟩ | h
  · exact .inl ⟨h1, value_of_pure hk (hf h1) h2 w2⟩
  · exact .inr h

def stab (S : List Tmp) (o : Oper) : Bool := match o.dst with | some d => S.contains d | none => false

/-- ONE WALK. 'S': the temporaries of the loads that may come up behind an operation that is loud. -/
def wpT (P : Program) (ops : Array Oper) (Q : Act → World → Prop) (S : List Tmp) : List Oper → (World → Prop) → Act → World → Prop
  | [], _, a, w => Q a w
  | o :: rest, St, a, w =>
    if loud o = true then one P ops o (fun a' w' => St w' ∧ wpT P ops Q S rest St a' w') a w
    else ∃ v, Yld P ops o v a w ∧ (Region.wanted o (yielded ops a.tmps) = true → Fits o a) ∧ wpT P ops Q S rest (fun w' => St w' ∧ (stab S o = true → Yld P ops o v a w')) (a.put o.dst v) w

theorem wpT_mono {Q : Act → World → Prop} {S : List Tmp} (l : List Oper) : ∀ {St St' : World → Prop} (a : Act) (w : World), (∀ w, St w → St' w) → wpT P ops Q S l St a w → wpT P ops Q S l St' a w := by
  induction l with
  | nil => exact fun a w _ h => h
  | cons o l ih =>
    intro St St' a w hs h
    by_cases hl : loud o = true
    · simp only [wpT, hl, if_true] at h ⊢
      exact one_mono (fun a w q => ⟨hs _ q.1, ih a w hs q.2⟩) h
    · simp only [wpT, hl, if_false, Bool.false_eq_true] at h ⊢
      obtain ⟨v, h1, h2, h3⟩ := h
      exact ⟨v, h1, h2, ih _ _ (fun w q => ⟨hs _ q.1, q.2⟩) h3⟩

/-- May 'oj' come up ahead of 'oi', which stands ahead of it in the walk? -/
def compat (P : Program) (S : List Tmp) (oi oj : Oper) : Bool :=
  match loud oi, loud oj with
  | true, true => false
  | true, false => pureK P oj
  | false, true => pureK P oi || stab S oi
  | false, false => true

structure Free (P : Program) (ops : Array Oper) (S : List Tmp) (oi oj : Oper) : Prop where
  ij : oi.apart ops oj = true
  ji : oj.apart ops oi = true
  c : compat P S oi oj = true
  si : ∀ cs b, oi.op ≠ .select cs b
  sj : ∀ cs b, oj.op ≠ .select cs b

theorem take_calm {Q : Act → World → Prop} {S : List Tmp} {oj : Oper} {post : List Oper} (hj : loud oj = false) (pre : List Oper) : ∀ (St : World → Prop) (a : Act) (w : World),
    (∀ oi ∈ pre, Free P ops S oi oj) → wpT P ops Q S (pre ++ oj :: post) St a w →
    ∃ v, Yld P ops oj v a w ∧ (Region.wanted oj (yielded ops a.tmps) = true → Fits oj a) ∧ wpT P ops Q S (pre ++ post) St (a.put oj.dst v) w := by
  induction pre with
  | nil =>
    intro St a w _ h
    simp only [List.nil_append, wpT, hj, Bool.false_eq_true, if_false] at h
    obtain ⟨v, h1, h2, h3⟩ := h
    exact ⟨v, h1, h2, wpT_mono _ _ _ (fun w q => q.1) h3⟩
  | cons oi pre ih =>
    intro St a w hfree h
    have F := hfree oi (by simp)
    have hp := fun o ho => hfree o (List.mem_cons_of_mem _ ho)
    obtain ⟨a1, a2, a3⟩ := Oper.apart_spec F.ij
    obtain ⟨b1, b2, b3⟩ := Oper.apart_spec F.ji
    by_cases hi : loud oi = true
    · have hpj : pureK P oj = true := by have := F.c; simpa [compat, hi, hj] using this
      simp only [List.cons_append, wpT, hi, if_true] at h
      have h' := one_out (one_mono (fun a' w' ⟨q1, q2⟩ => (⟨q1, ih St a' w' hp q2⟩ : St w' ∧ _)) h)
      obtain ⟨a', w', ⟨_, vj, hy, hf, _⟩, u, hu⟩ := one_some h'
      have hy1 : Yld P ops oj vj a w' := (hy.tmps hu).unput F.ji F.sj u
      have hf1 : Region.wanted oj (yielded ops a.tmps) = true → Fits oj a := fun hw => by
        rw [hu, wanted_put oj a oi.dst u b3] at hf
        exact (Fits.put_iff F.ji u).1 ((hf hw).tmps hu)
      have hyA := fun w2 => hy1.pure hpj hf1 w2
      refine ⟨vj, hyA w, hf1, ?_⟩
      simp only [List.cons_append, wpT, hi, if_true]
      refine one_put F.ij F.si vj (one_mono ?_ h')
      rintro b w2 ⟨⟨q1, vj', y', f', q2⟩, u', hu'⟩
      have hy2 : Yld P ops oj vj' a w2 := (y'.tmps hu').unput F.ji F.sj u'
      rw [Yld.one (hyA w2) hy2]
      exact ⟨q1, q2⟩
    · simp only [List.cons_append, wpT, hi] at h
      obtain ⟨vi, y1, f1, h1⟩ := h
      obtain ⟨vj, y2, f2, h2⟩ := ih _ _ _ hp h1
      refine ⟨vj, y2.unput F.ji F.sj vi, fun hw => (Fits.put_iff F.ji vi).1 (f2 (by rw [wanted_put oj a oi.dst vi b3]; exact hw)), ?_⟩
      simp only [List.cons_append, wpT, hi]
      refine ⟨vi, y1.put F.ij F.si vj, fun hw => (Fits.put_iff F.ij vj).2 (f1 (by rw [wanted_put oi a oj.dst vj a3] at hw; exact hw)), ?_⟩
      rw [Act.put_comm a vj vi b2]
      exact wpT_mono _ _ _ (fun w ⟨q1, q2⟩ => ⟨q1, fun hs => (q2 hs).put F.ij F.si vj⟩) h2

theorem take_loud {Q : Act → World → Prop} {S : List Tmp} {oj : Oper} {post : List Oper} (hj : loud oj = true) (pre : List Oper) : ∀ (St : World → Prop) (a : Act) (w : World),
    (∀ oi ∈ pre, Free P ops S oi oj) → wpT P ops Q S (pre ++ oj :: post) St a w →
    one P ops oj (fun b w' => St w' ∧ wpT P ops Q S (pre ++ post) St b w') a w := by
  induction pre with
  | nil =>
    intro St a w _ h
    simp only [List.nil_append, wpT, hj, if_true] at h
    exact h
  | cons oi pre ih =>
    intro St a w hfree h
    have F := hfree oi (by simp)
    have hp := fun o ho => hfree o (List.mem_cons_of_mem _ ho)
    obtain ⟨a1, a2, a3⟩ := Oper.apart_spec F.ij
    obtain ⟨b1, b2, b3⟩ := Oper.apart_spec F.ji
    by_cases hi : loud oi = true
    · have := F.c; simp [compat, hi, hj] at this
    · have hc : pureK P oi = true ∨ stab S oi = true := by have := F.c; simpa [compat, hi, hj] using this
      simp only [List.cons_append, wpT, hi] at h
      obtain ⟨vi, y1, f1, h1⟩ := h
      refine one_mono ?_ (one_out (one_unput F.ji F.sj vi (ih _ _ _ hp h1)))
      rintro b w' ⟨⟨⟨q1, q2⟩, q3⟩, u, hu⟩
      refine ⟨q1, ?_⟩
      simp only [List.cons_append, wpT, hi]
      have yb : Yld P ops oi vi b w' := by
        have ya : Yld P ops oi vi a w' := by
          rcases hc with hc | hc
          · exact y1.pure hc f1 w'
          · exact q2 hc
        exact (ya.put F.ij F.si u).tmps hu.symm
      refine ⟨vi, yb, fun hw => ?_, ?_⟩
      · rw [hu, wanted_put oi a oj.dst u a3] at hw
        exact ((Fits.put_iff F.ij u).2 (f1 hw)).tmps hu.symm
      · exact wpT_mono _ _ _ (fun w ⟨q1, q2⟩ => ⟨q1, fun hs => ((q2 hs).put F.ij F.si u).tmps hu.symm⟩) q3

/-! ### The static look, and the theorem -/

def orOf (B : Array Nat) (es : List Edge) : Nat := es.foldl (fun s e => if Region.binds .any e then s ||| 2 ^ e.on ||| B.getD e.on 0 else s) 0

/-- 'B': of each operation, which it waits for, straight or through others. -/
def consistent (ops : Array Oper) (B : Array Nat) : Bool :=
  (List.range ops.size).all fun j => match ops[j]? with
    | some o => (B.getD j 0 == orOf B o.after.toList) && o.after.toList.all fun e => !Region.binds .any e || decide (e.on < j)
    | none => true

def direct (ops : Array Oper) (j i : Nat) : Bool :=
  match ops[j]? with
  | some o => o.after.toList.any fun e => Region.binds .any e && e.on == i
  | none => false

def freeB (P : Program) (ops : Array Oper) (S : List Tmp) (i j : Nat) : Bool :=
  match ops[i]?, ops[j]? with
  | some oi, some oj => compat P S oi oj && oi.apart ops oj && oj.apart ops oi
  | _, _ => false

def pairB (P : Program) (ops : Array Oper) (S : List Tmp) (B : Array Nat) (i j : Nat) : Bool :=
  !direct ops i j && ((B.getD j 0).testBit i || freeB P ops S i j)

def pairsB (f : Nat → Nat → Bool) : List Nat → Bool
  | [] => true
  | i :: l => l.all (f i) && pairsB f l

theorem pairwise_of {f : Nat → Nat → Bool} : ∀ {l : List Nat}, pairsB f l = true → l.Pairwise fun i j => f i j = true
  | [], _ => .nil
  | i :: l, h => by
    simp only [pairsB, Bool.and_eq_true, List.all_eq_true] at h
    exact .cons h.1 (pairwise_of h.2)

theorem testBit_orOf {B : Array Nat} {i : Nat} (es : List Edge) : ∀ s, (es.foldl (fun s e => if Region.binds .any e then s ||| 2 ^ e.on ||| B.getD e.on 0 else s) s).testBit i = true →
    s.testBit i = true ∨ ∃ e ∈ es, Region.binds .any e = true ∧ (e.on = i ∨ (B.getD e.on 0).testBit i = true) := by
  induction es with
  | nil => intro s h; exact .inl h
  | cons e es ih =>
    intro s h
    simp only [List.foldl_cons] at h
    rcases ih _ h with h | ⟨e', he, h⟩
    · split at h
      · rename_i hb
        simp only [Nat.testBit_or, Bool.or_eq_true, Nat.testBit_two_pow, decide_eq_true_eq] at h
        rcases h with (h | h) | h
        · exact .inl h
        · exact .inr ⟨e, by simp, hb, .inl h⟩
        · exact .inr ⟨e, by simp, hb, .inr h⟩
      · exact .inl h
    · exact .inr ⟨e', by simp [he], h⟩

def Closed (ops : Array Oper) (listed : Array Bool) : Prop :=
  ∀ j o, ops[j]? = some o → listed.getD j false = true → ∀ e ∈ o.after, Region.binds .any e = true → listed.getD e.on false = true

theorem consistent_spec {B : Array Nat} (h : consistent ops B = true) {j : Nat} {o : Oper} (hj : ops[j]? = some o) :
    (∀ e ∈ o.after, Region.binds .any e = true → e.on < j) ∧
    ∀ i, (B.getD j 0).testBit i = true → ∃ e ∈ o.after, Region.binds .any e = true ∧ (e.on = i ∨ (B.getD e.on 0).testBit i = true) := by
  have hlt : j < ops.size := (Array.getElem?_eq_some_iff.1 hj).1
  have h1 := List.all_eq_true.1 h j (List.mem_range.2 hlt)
  simp only [hj, Bool.and_eq_true, beq_iff_eq, List.all_eq_true, Bool.or_eq_true, Bool.not_eq_true', decide_eq_true_eq] at h1
  refine ⟨fun e he hb => ?_, fun i hi => ?_⟩
  · rcases h1.2 e (by simpa using he) with h2 | h2
    · rw [hb] at h2; cases h2
    · exact h2
  · rw [h1.1] at hi
    rcases testBit_orOf _ _ hi with h2 | ⟨e, he, h2⟩
    · simp at h2
    · exact ⟨e, by simpa using he, h2⟩

theorem waits_listed {B : Array Nat} (h : consistent ops B = true) {listed : Array Bool} (hc : Closed ops listed) : ∀ (n j : Nat) (o : Oper), j ≤ n → ops[j]? = some o →
    (∀ e ∈ o.after, Region.binds .any e = true → listed.getD e.on false = true) → ∀ i, (B.getD j 0).testBit i = true → listed.getD i false = true := by
  intro n
  induction n using Nat.strongRecOn with
  | _ n ih =>
    intro j o hjn hj hall i hi
    obtain ⟨h1, h2⟩ := consistent_spec h hj
    obtain ⟨e, he, hb, rfl | hB⟩ := h2 i hi
    · exact hall e he hb
    · have hlt := h1 e he hb
      have hjs : j < ops.size := (Array.getElem?_eq_some_iff.1 hj).1
      have hes : ops[e.on]? = some ops[e.on] := Array.getElem?_eq_some_iff.2 ⟨by omega, rfl⟩
      exact ih e.on (by omega) e.on _ (Nat.le_refl _) hes (hc _ _ hes (hall e he hb)) i hB

theorem getD_ft {listed : Array Bool} {i : Nat} (hi : i < listed.size) : listed.getD i true = listed.getD i false := by
  simp [hi]

def rem (c : List Nat) (listed : Array Bool) : List Nat := c.filter fun i => !listed.getD i true

def opsOf (ops : Array Oper) (l : List Nat) : List Oper := l.map fun i => ops.getD i default

theorem all_orders {Q : Act → World → Prop} {Q' : Exit → Act → World → Prop} {S : List Tmp} {B : Array Nat} {c : List Nat} (hQ : ∀ a w, Q a w → Q' .normal a w) (hs : Region.noSelect ops = true)
    (hB : consistent ops B = true) (hin : ∀ i, i < ops.size → i ∈ c) (hnd : c.Nodup) (hp : c.Pairwise fun i j => pairB P ops S B i j = true) :
    ∀ (fuel : Nat) (listed : Array Bool) (St : World → Prop) (a : Act) (w : World), listed.size = ops.size → Closed ops listed → (rem c listed).length ≤ fuel →
      wpT P ops Q S (opsOf ops (rem c listed)) St a w → wpAny P .any ops Q' fuel listed a w := by
  intro fuel
  induction fuel with
  | zero =>
    intro listed St a w hsz hcl hlen h
    have hr : rem c listed = [] := List.eq_nil_of_length_eq_zero (by omega)
    refine ⟨?_, ?_⟩
    · refine List.eq_nil_iff_forall_not_mem.2 fun j hj => ?_
      obtain ⟨h0, o, ho, _⟩ := mem_ready.1 hj
      have : j ∈ rem c listed := List.mem_filter.2 ⟨hin j (Array.getElem?_eq_some_iff.1 ho).1, by simp only [h0, Bool.not_false]⟩
      rw [hr] at this; cases this
    · rw [hr] at h; exact hQ _ _ h
  | succ fuel ih =>
    intro listed St a w hsz hcl hlen h
    have hpr : (rem c listed).Pairwise fun i j => pairB P ops S B i j = true := hp.filter _
    refine ⟨fun h0 => ?_, fun j hj => ?_⟩
    · cases hr : rem c listed with
      | nil => rw [hr] at h; exact hQ _ _ h
      | cons i t =>
        exfalso
        have hi : i ∈ rem c listed := by rw [hr]; simp
        obtain ⟨hic, hiu⟩ := List.mem_filter.1 hi
        have hiu' : listed.getD i true = false := by simpa using hiu
        have his : i < ops.size := by
          rcases Nat.lt_or_ge i listed.size with h' | h'
          · omega
          · simp [Array.getElem?_eq_none h'] at hiu'
        have hio : ops[i]? = some ops[i] := Array.getElem?_eq_some_iff.2 ⟨his, rfl⟩
        have : i ∈ Region.ready .any ops listed := by
          refine mem_ready.2 ⟨hiu', _, hio, fun e he hb => ?_⟩
          have hlt := (consistent_spec hB hio).1 e he hb
          cases hl : listed.getD e.on false with
          | true => rfl
          | false =>
            exfalso
            have her : e.on ∈ rem c listed := List.mem_filter.2 ⟨hin _ (by omega), by rw [getD_ft (by omega), hl]; rfl⟩
            rw [hr] at her hpr
            rcases List.mem_cons.1 her with h2 | h2
            · omega
            · have h3 := (List.pairwise_cons.1 hpr).1 _ h2
              simp only [pairB, direct, hio, Bool.and_eq_true, Bool.not_eq_true'] at h3
              have h4 := h3.1
              rw [List.any_eq_false] at h4
              exact h4 e (by simpa using he) (by simp [hb])
        rw [h0] at this; cases this
    · obtain ⟨hju, oj, hoj, hall⟩ := mem_ready.1 hj
      have hjs : j < ops.size := (Array.getElem?_eq_some_iff.1 hoj).1
      have hjr : j ∈ rem c listed := List.mem_filter.2 ⟨hin j hjs, by simp only [hju, Bool.not_false]⟩
      obtain ⟨pre, post, hsplit⟩ := List.append_of_mem hjr
      have hndr : (rem c listed).Nodup := hnd.filter _
      have hrem : rem c (listed.setIfInBounds j true) = pre ++ post := by
        have h1 : rem c (listed.setIfInBounds j true) = (rem c listed).filter fun i => i != j := by
          unfold rem
          rw [List.filter_filter]
          refine List.filter_congr fun i _ => ?_
          by_cases hij : j = i
          · subst hij; simp [hsz, hjs]
          · rw [getD_set_ne true hij]; simp [Ne.symm hij]
        rw [h1, hsplit, List.filter_append, List.filter_cons]
        rw [hsplit] at hndr
        have hn := List.nodup_append.1 hndr
        have hn2 := List.nodup_cons.1 hn.2.1
        simp only [bne_self_eq_false, Bool.false_eq_true, if_false]
        rw [List.filter_eq_self.2, List.filter_eq_self.2]
        · intro x hx; simp only [bne_iff_ne]; rintro rfl; exact hn2.1 hx
        · intro x hx; simp only [bne_iff_ne]; rintro rfl; exact hn.2.2 x hx x (by simp) rfl
      have hnext : ∀ St a' w', wpT P ops Q S (opsOf ops (pre ++ post)) St a' w' → wpAny P .any ops Q' fuel (listed.setIfInBounds j true) a' w' := fun St a' w' h' => by
        refine ih (listed.setIfInBounds j true) St a' w' (by simp [hsz]) ?_ ?_ (by rw [hrem]; exact h')
        · intro k o ho hl e he hb
          by_cases hjk : j = k
          · subst hjk
            obtain rfl : o = oj := Option.some.inj (ho.symm.trans hoj)
            exact getD_set_true (hall e he hb)
          · rw [getD_set_ne false hjk] at hl
            exact getD_set_true (hcl k o ho hl e he hb)
        · rw [hrem]
          have := congrArg List.length hsplit
          simp only [List.length_append, List.length_cons] at this ⊢
          omega
      have hojD : ops.getD j default = oj := by simp [Array.getD_eq_getD_getElem?, hoj]
      have hfree : ∀ oi ∈ opsOf ops pre, Free P ops S oi oj := by
        intro oi hoi
        obtain ⟨i, hip, rfl⟩ := List.mem_map.1 hoi
        have hir : i ∈ rem c listed := by rw [hsplit]; exact List.mem_append_left _ hip
        have hiu : listed.getD i true = false := by simpa using (List.mem_filter.1 hir).2
        have his : i < ops.size := by
          rcases Nat.lt_or_ge i listed.size with h' | h'
          · omega
          · simp [Array.getElem?_eq_none h'] at hiu
        have hio : ops[i]? = some ops[i] := Array.getElem?_eq_some_iff.2 ⟨his, rfl⟩
        rw [hsplit] at hpr
        have hp1 := (List.pairwise_append.1 hpr).2.2 i hip j (by simp)
        simp only [pairB, Bool.and_eq_true, Bool.or_eq_true] at hp1
        have hnb : (B.getD j 0).testBit i ≠ true := fun hb => by
          have := waits_listed hB hcl j j oj (Nat.le_refl _) hoj hall i hb
          rw [← getD_ft (by omega), hiu] at this; cases this
        have hf := hp1.2.resolve_left hnb
        have hiD : ops.getD i default = ops[i] := by simp [Array.getD_eq_getD_getElem?, hio]
        simp only [freeB, hio, hoj, Bool.and_eq_true] at hf
        rw [hiD]
        exact ⟨hf.1.2, hf.2, hf.1.1, fun cs b => Region.noSelect_spec hs i _ cs b hio, fun cs b => Region.noSelect_spec hs j _ cs b hoj⟩
      rw [hsplit] at h
      simp only [opsOf, List.map_append, List.map_cons, hojD] at h
      by_cases hl : loud oj = true
      · have := take_loud (Q := Q) hl _ St a w hfree h
        exact one_wpOp hoj (one_mono (fun b w' q => hnext St b w' (by simp only [opsOf, List.map_append]; exact q.2)) this)
      · obtain ⟨v, hy, _, hk⟩ := take_calm (Q := Q) (by simpa using hl) _ St a w hfree h
        exact one_wpOp hoj (one_of_yld hy (hnext St _ _ (by simp only [opsOf, List.map_append]; exact hk)))

def okB (P : Program) (ops : Array Oper) (S : List Tmp) (c : List Nat) : Bool :=
  Region.noSelect ops && consistent ops (Region.before ops) && (List.range ops.size).all (fun i => c.contains i) && c.all (fun i => decide (i < ops.size)) &&
    pairsB (fun i j => i != j && pairB P ops S (Region.before ops) i j) c

/-- ONE WALK SERVES EVERY ORDER. 'c': the order of the walk. -/
theorem wp_region_order {id : Nat} {Q : Exit → Act → World → Prop} {a : Act} {w : World} (S : List Tmp) (c : List Nat) (hm : P.follows .mixedOrders = true) (hok : okB P ops S c = true)
    (h : wpT P ops (Q .normal) S (opsOf ops c) (fun _ => True) a w.drew) : (Code.region id ops true).wp P Q a w := by
  simp only [okB, Bool.and_eq_true] at hok
  obtain ⟨⟨⟨⟨h1, h2⟩, h3⟩, h5⟩, h4⟩ := hok
  have hpw := pairwise_of h4
  have hlt : ∀ i ∈ c, i < ops.size := fun i hi => by simpa using List.all_eq_true.1 h5 i hi
  have hrem : rem c (Array.replicate ops.size false) = c := List.filter_eq_self.2 fun i hi => by simp [hlt i hi]
  have hin : ∀ i, i < ops.size → i ∈ c := fun i hi => by
    have := List.all_eq_true.1 h3 i (List.mem_range.2 hi)
    simpa using this
  have hnd : c.Nodup := hpw.imp fun h => by
    simp only [Bool.and_eq_true, bne_iff_ne] at h
    exact h.1
  have hlen : c.length ≤ ops.size := by
    have h6 := hnd.length_le_of_subset (l₂ := List.range ops.size) fun i hi => List.mem_range.2 (hlt i hi)
    simpa using h6
  refine wp_region_any hm (all_orders (S := S) (B := Region.before ops) (c := c) (Q := Q .normal) (fun _ _ h => h) h1 h2 hin hnd (hpw.imp fun h => by
      simp only [Bool.and_eq_true] at h; exact h.2) ops.size _ (fun _ => True) a _ (by simp) ?_ (by rw [hrem]; exact hlen) (by rw [hrem]; exact h))
  intro j o _ hl
  rcases Nat.lt_or_ge j ops.size with h7 | h7 <;> simp [h7] at hl

/-- The walk in the text's order; no load may come up behind what is loud. -/
def Text (P : Program) (ops : Array Oper) (Q : Act → World → Prop) (l : List Oper) (a : Act) (w : World) : Prop :=
  ∀ St : World → Prop, (∀ w, St w) → wpT P ops Q [] l St a w

theorem opsOf_range (l : List Oper) : opsOf l.toArray (List.range l.length) = l := by
  apply List.ext_getElem
  · simp [opsOf]
  · intro i h1 h2
    simp [opsOf, h2]

theorem wp_region_text {id : Nat} {Q : Exit → Act → World → Prop} {a : Act} {w : World} {l : List Oper} (hm : P.follows .mixedOrders = true) (hok : okB P l.toArray [] (List.range l.length) = true)
    (h : Text P l.toArray (Q .normal) l a w.drew) : (Code.region id l.toArray true).wp P Q a w := by
  refine wp_region_order [] (List.range l.length) hm hok ?_
  rw [opsOf_range]
  exact h _ fun _ => trivial

section steps
variable {Q : Act → World → Prop} {a : Act} {w : World} {rest : List Oper} {o : Oper}

theorem text_nil (h : Q a w) : Text P ops Q [] a w := fun _ _ => h

theorem text_loud (hl : loud o = true) (h : ∀ K : Act → World → Prop, (∀ a' w', Text P ops Q rest a' w' → K a' w') → wpList P ops (Exit.then K stay) [o] a w) : Text P ops Q (o :: rest) a w := by
  intro St hSt
  simp only [wpT, hl, if_true]
  exact one_mono (fun a w q => ⟨hSt w, q St hSt⟩) (one_of_list (h (Text P ops Q rest) fun _ _ q => q))

theorem text_calm (hl : loud o = false) (hf : Region.wanted o (yielded ops a.tmps) = true → Fits o a)
    (h : ∀ K : Act → World → Prop, (∀ a', Text P ops Q rest a' w → K a' w) → wpList P ops (Exit.then K stay) [o] a w) : Text P ops Q (o :: rest) a w := by
  intro St hSt
  simp only [wpT, hl, Bool.false_eq_true, if_false]
  obtain ⟨v, hy, hk⟩ := yld_of_one hl hf (one_of_list (h (fun a' w' => w' = w ∧ Text P ops Q rest a' w') fun a' q => ⟨rfl, q⟩))
  exact ⟨v, hy, hf, hk _ fun w => ⟨hSt w, fun h => by simp only [stab] at h; split at h <;> simp at h⟩⟩

def plainK (o : Oper) : Bool :=
  !loud o && match o.op with
  | .binOp op .. => match op with
    | .eql | .neq => true
    | _ => false
  | .nilCheck _ => false
  | _ => true

theorem text_plain (hl : plainK o = true) (h : ∀ K : Act → World → Prop, (∀ a', Text P ops Q rest a' w → K a' w) → wpList P ops (Exit.then K stay) [o] a w) : Text P ops Q (o :: rest) a w := by
  simp only [plainK, Bool.and_eq_true, Bool.not_eq_true'] at hl
  refine text_calm hl.1 (fun hw => ?_) h
  clear hw h
  obtain ⟨dst, op, type, pos, after, guard⟩ := o
  unfold Fits
  cases op <;> simp only <;> simp only [Bool.false_eq_true, and_false] at hl
  case binOp op _ _ _ _ => cases op <;> simp_all

theorem text_bin {dst : Option Tmp} {op : BinOp} {t yt : TypeId} {x y : Operand} {type : TypeId} {pos : String} {after : Array Edge} {guard : Option (Nat × Bool)} {k k' : IntKind} {n m : Int}
    (hx : a.eval x = .int k n) (hy : a.eval y = .int k' m)
    (h : ∀ K : Act → World → Prop, (∀ a', Text P ops Q rest a' w → K a' w) → wpList P ops (Exit.then K stay) [{ dst, op := .binOp op t x y yt, type, pos, after, guard }] a w) :
    Text P ops Q ({ dst, op := .binOp op t x y yt, type, pos, after, guard } :: rest) a w :=
  text_calm rfl (fun _ => .inr (.inr ⟨k, n, k', m, hx, hy⟩)) h

theorem text_nilCheck {dst : Option Tmp} {x : Operand} {type : TypeId} {pos : String} {after : Array Edge} {guard : Option (Nat × Bool)} {p : Option Addr} (hx : a.eval x = .pointer p)
    (h : ∀ K : Act → World → Prop, (∀ a', Text P ops Q rest a' w → K a' w) → wpList P ops (Exit.then K stay) [{ dst, op := .nilCheck x, type, pos, after, guard }] a w) :
    Text P ops Q ({ dst, op := .nilCheck x, type, pos, after, guard } :: rest) a w :=
  text_calm rfl (fun _ => ⟨p, hx⟩) h

theorem text_skip (hw : Region.wanted o (yielded ops a.tmps) = false)
    (h : ∀ K : Act → World → Prop, (∀ a', Text P ops Q rest a' w → K a' w) → wpList P ops (Exit.then K stay) [o] a w) : Text P ops Q (o :: rest) a w := by
  intro St hSt
  have h1 := one_of_list (h (fun a' w' => w' = w ∧ Text P ops Q rest a' w') fun a' q => ⟨rfl, q⟩)
  by_cases hl : loud o = true
  · simp only [wpT, hl, if_true]
    exact one_mono (fun a w' q => ⟨hSt w', q.2 St hSt⟩) h1
  · have hl' : loud o = false := by simpa using hl
    simp only [wpT, hl', Bool.false_eq_true, if_false]
    obtain ⟨v, hy, hk⟩ := yld_of_one hl' (fun q => by rw [hw] at q; cases q) h1
    exact ⟨v, hy, fun q => (by rw [hw] at q; cases q), hk _ fun w => ⟨hSt w, fun h => by simp only [stab] at h; split at h <;> simp at h⟩⟩
/-- An operation whose guard bars it. -/
theorem text_skipG {dst : Option Tmp} {op : Op} {type : TypeId} {pos : String} {after : Array Edge} {g : Nat × Bool} (hw : Region.wanted { dst, op, type, pos, after, guard := some g } (yielded ops a.tmps) = false)
    (h : ∀ K : Act → World → Prop, (∀ a', Text P ops Q rest a' w → K a' w) → wpList P ops (Exit.then K stay) [{ dst, op, type, pos, after, guard := some g }] a w) :
    Text P ops Q ({ dst, op, type, pos, after, guard := some g } :: rest) a w := text_skip hw h
end steps
end
end Go.Reg
