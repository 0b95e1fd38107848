/-
  The scheduler in memory: Used, Del.
-/
import Derived.Test.YtjchfkpcglpgdaaDoorSdE
set_option linter.unusedSimpArgs false
set_option linter.unusedVariables false
namespace Go.Proofs.YtjchfkpcglpgdaaDoor
open Go.RowKit Go.Hp

set_option maxRecDepth 100000 in
set_option maxHeartbeats 1000000 in
theorem used_some_core (bs bm bo : Nat) (id u : Int) (w : World) (h0 : w.cell? ⟨bs, 0, none⟩ = some (.map (some bm)))
    (hlk : ∀ w' : World, w'.heap[bm]? = w.heap[bm]? → (Instr.lookup 56 (.map (some bm)) (.int .i64 id) false).run Tryd.prog w' = .ok (.pointer (some ⟨bo, 0, none⟩)) w')
    (h2 : w.cell? ⟨bo, 2, none⟩ = some (.int .i64 u)) :
    Calls Tryd.prog 13 #[.pointer (some ⟨bs, 0, none⟩), .int .i64 id] w fun e w' => e = .returned (.tuple #[.int .i64 u, .bool true]) ∧ ∃ n, w' = w.drewN n := by
  go_enter Tryd.func13, Tryd.ntmps13
  go_wp2_with (first
    | ((with_reducible refine Reg.wp_region_text ?_ ?_ ?_); (kernel_rfl); (kernel_rfl))
    | ((with_reducible refine Reg.text_nil ?_))
    | ((with_reducible refine Reg.text_plain ?_ ?_); (rfl); (intro K hK))
    | ((with_reducible apply Reg.text_nilCheck); (rfl); (intro K hK))
    | ((with_reducible apply Reg.text_bin); (rfl); (rfl); (intro K hK))
    | ((with_reducible refine Reg.text_loud ?_ ?_); (rfl); (intro K hK))
    | ((with_reducible refine Reg.text_skipG ?_ ?_); (rfl); (intro K hK)))
  go_ret2
  exact ⟨rfl, by (repeat (first | exact drawn0 _ | apply drawn1 | apply drawnN))⟩

set_option maxRecDepth 100000 in
set_option maxHeartbeats 1000000 in
theorem del_core (s : Bool) (T : Turns) (bs bm bo i br ba : Nat) (id : Int) (w : World) (new : Obj) (P : World → Prop)
    (hbs : ¬ T.fp bs) (hbm : ¬ T.fp bm) (hbsl : bs < w.heap.size) (hbml : bm < w.heap.size)
    (h0 : w.cell? ⟨bs, 0, none⟩ = some (.map (some bm))) (h1 : w.cell? ⟨bs, 1, none⟩ = some (.pointer (some ⟨br, 0, none⟩))) (h2 : w.cell? ⟨bs, 2, none⟩ = some (.pointer (some ⟨ba, 0, none⟩)))
    (hlk : ∀ w' : World, w'.heap[bm]? = w.heap[bm]? → (Instr.lookup 56 (.map (some bm)) (.int .i64 id) false).run Tryd.prog w' = .ok (.pointer (some ⟨bo, 0, none⟩)) w')
    (h3 : w.cell? ⟨bo, 3, none⟩ = some (.bool s)) (h5 : w.cell? ⟨bo, 5, none⟩ = some (.int .i64 i))
    (hT : (if s then ba else br) = T.bt)
    (hrm : Hid (∀ n, Calls Tryd.prog 32 #[.iface 57 (.pointer (some ⟨T.bt, 0, none⟩)), .int .i64 i] (w.drewN n) fun e w' => e = .returned (.iface 63 (.pointer (some ⟨bo, 0, none⟩))) ∧ Only T.fp w w' ∧ P w'))
    (hdel : ∀ w' : World, w'.heap[bm]? = w.heap[bm]? → (Builtin.delete_ #[56, 3] 0 #[.map (some bm), .int .i64 id]).run Tryd.prog w' = .ok (.tuple #[]) (setObjW w' bm new)) :
    Calls Tryd.prog 14 #[.pointer (some ⟨bs, 0, none⟩), .int .i64 id] w fun e w' => e = .returned (.nilIface) ∧ ∃ w2 n, Only T.fp w w2 ∧ P w2 ∧ w' = (setObjW w2 bm new).drewN n := by
  cases s
  all_goals simp only [Bool.false_eq_true, if_false, if_true] at hT
  all_goals subst hT
  all_goals go_enter Tryd.func14, Tryd.ntmps14
  all_goals (go_wp2_with (first
    | ((go_at_call 31; go_in))
    | ((go_at_call 32; refine (hrm.out 1).mono ?_; rintro e w2 ⟨rfl, ho2, hP2⟩; have c0' := (World.cell?_of_block (a := ⟨bs, 0, none⟩) (ho2.block bs hbsl hbs)).trans h0; have cm' := ho2.block bm hbml hbm; have HO := Lib.hid ho2; have HP := Lib.hid hP2; clear ho2 hP2))
    | ((with_reducible refine Ro.wp_region_walk (id := 4) [(22, 17)] [4,5,6,7,0,1,2,3,8] _ ?_ ?_ (by simp only [Reg.opsOf, List.map_cons, List.map_nil, Array.getD_eq_getD_getElem?, List.getElem?_toArray, List.getElem?_cons_zero, List.getElem?_cons_succ, Option.getD_some]; rfl) ?_); (kernel_rfl); (kernel_rfl))
    | ((with_reducible refine Ro.walk_nil ?_))
    | ((with_reducible refine Ro.walk_plain ?_ ?_ ?_); (rfl); (rfl); (intro K hK))
    | ((with_reducible apply Ro.walk_late); (rfl); (intro w'; kernel_rfl); (focus (first | (with_reducible assumption) | (simp only [World.cell?_drew, World.cell?_drewN]; with_reducible assumption) | (go_simp; exact rfl) | (go_simp; done))); (intro K hK))
    | ((with_reducible apply Ro.walk_nilCheck); (rfl); (rfl); (intro K hK))
    | ((with_reducible apply Ro.walk_bin); (rfl); (rfl); (rfl); (intro K hK))
    | ((with_reducible refine Ro.walk_loud ?_ ?_); (rfl); (intro K hK))
    | ((with_reducible refine Ro.Then.mk ?_ ?_))
    | ((with_reducible exact Ro.keeps_nil))
    | ((with_reducible refine Ro.keeps_skip ?_ ?_); (rfl))
    | ((with_reducible refine Ro.keeps_here ?_ ?_ ?_); (rfl); (focus (first | (with_reducible assumption) | (simp only [World.cell?_drew, World.cell?_drewN]; with_reducible assumption) | (go_simp; exact rfl) | (go_simp; done))))
    | ((with_reducible refine Reg.wp_region_text ?_ ?_ ?_); (kernel_rfl); (kernel_rfl))
    | ((with_reducible refine Reg.text_nil ?_))
    | ((with_reducible refine Reg.text_plain ?_ ?_); (rfl); (intro K hK))
    | ((with_reducible apply Reg.text_nilCheck); (rfl); (intro K hK))
    | ((with_reducible apply Reg.text_bin); (rfl); (rfl); (intro K hK))
    | ((with_reducible refine Reg.text_loud ?_ ?_); (rfl); (intro K hK))
    | ((with_reducible refine Reg.text_skipG ?_ ?_); (rfl); (intro K hK))))
  all_goals go_ret
  all_goals exact ⟨rfl, _, 0, HO.out, HP.out, rfl⟩
end Go.Proofs.YtjchfkpcglpgdaaDoor
