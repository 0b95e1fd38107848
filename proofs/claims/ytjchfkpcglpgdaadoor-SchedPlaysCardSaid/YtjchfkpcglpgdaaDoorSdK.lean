/-
  The scheduler in memory: New.
-/
import Derived.Test.YtjchfkpcglpgdaaDoorSdJ
set_option linter.unusedSimpArgs false
set_option linter.unusedVariables false
namespace Go.Proofs.YtjchfkpcglpgdaaDoor
open Go.RowKit Go.Hp

theorem heap_nil (s : Bool) : Heap s [] := ⟨fun o ho => (by cases ho), fun k hk => (by simp at hk)⟩

theorem new_at (w : World) : ∃ bs B, Ending.returned (.pointer (some ⟨w.heap.size + 1 + 1 + 1, 0, none⟩)) = .returned (ptr bs) ∧
    SchAt ((((w.alloc (Obj.map #[] 0)).alloc (Obj.cells #[Value.slice none 0 0] 60)).alloc (Obj.cells #[Value.slice none 0 0] 60)).alloc
      (Obj.cells #[Value.map (some w.heap.size), Value.pointer (some { block := w.heap.size + 1, off := 0 }), Value.pointer (some { block := w.heap.size + 1 + 1, off := 0 })] 62)) bs B [] ∧
    (∀ b ∈ B, w.heap.size ≤ b) ∧
    Ext w ((((w.alloc (Obj.map #[] 0)).alloc (Obj.cells #[Value.slice none 0 0] 60)).alloc (Obj.cells #[Value.slice none 0 0] 60)).alloc
      (Obj.cells #[Value.map (some w.heap.size), Value.pointer (some { block := w.heap.size + 1, off := 0 }), Value.pointer (some { block := w.heap.size + 1 + 1, off := 0 })] 62)) := by
  have hx : Ext (w.alloc (Obj.map #[] 0)) ((((w.alloc (Obj.map #[] 0)).alloc (Obj.cells #[Value.slice none 0 0] 60)).alloc (Obj.cells #[Value.slice none 0 0] 60)).alloc
      (Obj.cells #[Value.map (some w.heap.size), Value.pointer (some { block := w.heap.size + 1, off := 0 }), Value.pointer (some { block := w.heap.size + 1 + 1, off := 0 })] 62)) :=
    (((Only.refl _ _).alloc _).alloc _).alloc _
  have s1 : (w.alloc (Obj.map #[] 0)).heap.size = w.heap.size + 1 := by simp
  have hm : MapAt (w.alloc (Obj.map #[] 0)) w.heap.size [] 0 := by
    show (w.heap.push _)[w.heap.size]? = _
    simp
  have s2 : ((w.alloc (Obj.map #[] 0)).alloc (Obj.cells #[Value.slice none 0 0] 60)).heap.size = w.heap.size + 1 + 1 := by simp
  have s3 : (((w.alloc (Obj.map #[] 0)).alloc (Obj.cells #[Value.slice none 0 0] 60)).alloc (Obj.cells #[Value.slice none 0 0] 60)).heap.size = w.heap.size + 1 + 1 + 1 := by simp
  have b1 := Blk.new (w.alloc (Obj.map #[] 0)) #[Value.slice none 0 0] 60
  rw [s1] at b1
  have b2 := Blk.new ((w.alloc (Obj.map #[] 0)).alloc (Obj.cells #[Value.slice none 0 0] 60)) #[Value.slice none 0 0] 60
  rw [s2] at b2
  have b3 := Blk.new (((w.alloc (Obj.map #[] 0)).alloc (Obj.cells #[Value.slice none 0 0] 60)).alloc (Obj.cells #[Value.slice none 0 0] 60)) #[Value.map (some w.heap.size), Value.pointer (some { block := w.heap.size + 1, off := 0 }), Value.pointer (some { block := w.heap.size + 1 + 1, off := 0 })] 62
  rw [s3] at b3
  refine ⟨w.heap.size + 1 + 1 + 1, _, rfl, ⟨⟨w.heap.size + 1 + 1 + 1, w.heap.size, 0, [], fun s => ⟨if s then w.heap.size + 1 + 1 else w.heap.size + 1, none, [], []⟩⟩, rfl, rfl, ?_, .refl _⟩, ?_, ?_⟩
  · refine ⟨b3, hx.map hm (fun h => h), fun s => ?_, ?_, .refl _, fun e he => (by cases he), List.nodup_nil, fun s => heap_nil s, List.nodup_nil, fun o ho => (by cases ho)⟩
    · have : ∀ n, Blk ((((w.alloc (Obj.map #[] 0)).alloc (Obj.cells #[Value.slice none 0 0] 60)).alloc (Obj.cells #[Value.slice none 0 0] 60)).alloc
          (Obj.cells #[Value.map (some w.heap.size), Value.pointer (some { block := w.heap.size + 1, off := 0 }), Value.pointer (some { block := w.heap.size + 1 + 1, off := 0 })] 62)) n #[Value.slice none 0 0] 60 →
          TurnsAt ((((w.alloc (Obj.map #[] 0)).alloc (Obj.cells #[Value.slice none 0 0] 60)).alloc (Obj.cells #[Value.slice none 0 0] 60)).alloc
          (Obj.cells #[Value.map (some w.heap.size), Value.pointer (some { block := w.heap.size + 1, off := 0 }), Value.pointer (some { block := w.heap.size + 1 + 1, off := 0 })] 62)) ⟨n, none, [], []⟩ := fun n hb =>
        ⟨hb, fun a ha => (by cases ha), fun _ => ⟨rfl, rfl⟩, fun i o hi => (by simp at hi), by simp [Turns.blocks], by simp, by simp⟩
      cases s
      · exact this _ ((b1.alloc _).alloc _)
      · exact this _ (b2.alloc _)
    · simp [Inn.blocks, Turns.blocks]
      omega
  · intro b hb
    simp [Inn.blocks, Turns.blocks] at hb
    omega
  · exact (((((Only.refl _ w).alloc _).alloc _).alloc _).alloc _)

set_option maxRecDepth 100000 in
set_option maxHeartbeats 1000000 in
theorem new_calls (w : World) : Calls Tryd.prog 10 #[] w fun e w' => ∃ bs B, e = .returned (ptr bs) ∧ SchAt w' bs B [] ∧ (∀ b ∈ B, w.heap.size ≤ b) ∧ Ext w w' := by
  have hmm := @run_makeMap Tryd.prog
  go_enter Tryd.func10, Tryd.ntmps10
  go_wp2_with (first
    | ((with_reducible refine Reg.wp_region_text ?_ ?_ ?_); (kernel_rfl); (kernel_rfl))
    | ((with_reducible refine Reg.text_nil ?_))
    | ((with_reducible refine Reg.text_plain ?_ ?_); (rfl); (intro K hK))
    | ((with_reducible apply Reg.text_nilCheck); (rfl); (intro K hK))
    | ((with_reducible apply Reg.text_bin); (rfl); (rfl); (intro K hK))
    | ((with_reducible refine Reg.text_loud ?_ ?_); (rfl); (intro K hK))
    | ((with_reducible refine Reg.text_skipG ?_ ?_); (rfl); (intro K hK)))
  go_ret
  exact new_at w
end Go.Proofs.YtjchfkpcglpgdaaDoor
