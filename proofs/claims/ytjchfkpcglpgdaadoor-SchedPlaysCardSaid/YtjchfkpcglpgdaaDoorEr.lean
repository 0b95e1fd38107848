/-
  Helpers over any program: package-level error variables of errors.New's make: which pointers they hold; that these differ.
-/
import Derived.Test.YtjchfkpcglpgdaaDoorHp
import Derived.Stop.LaidErr
import Derived.LaidEql
set_option linter.unusedSimpArgs false
set_option linter.unusedVariables false
namespace Go.Hp

/-- The variables 'G' hold pointers to 'as', which differ. -/
structure Errs (w : World) (tp : TypeId) (G : List Nat) (as : List Addr) : Prop where
  len : as.length = G.length
  cell : ∀ (i : Nat) (g : Nat) (a : Addr), G[i]? = some g → as[i]? = some a → w.cell? ⟨g, 0, none⟩ = some (.iface tp (.pointer (some a)))
  blk : ∀ a ∈ as, ∃ c t, w.heap[a.block]? = some (.cells c t (0, 0))
  glob : ∀ g ∈ G, g < w.heap.size
  nd : as.Nodup

theorem Errs.lt {w : World} {tp : TypeId} {G : List Nat} {as : List Addr} (h : Errs w tp G as) {a : Addr} (ha : a ∈ as) : a.block < w.heap.size := by
  obtain ⟨c, t, h1⟩ := h.blk a ha
  exact (Array.getElem?_eq_some_iff.1 h1).1
theorem Errs.of_only {w w' : World} {tp : TypeId} {G : List Nat} {as : List Addr} {F : Nat → Prop} (h : Errs w tp G as) (ho : Only F w w') (hg : ∀ g ∈ G, ¬ F g) (ha : ∀ a ∈ as, ¬ F a.block) : Errs w' tp G as := by
  refine ⟨h.len, fun i g a h1 h2 => ?_, fun a hm => ?_, fun g hm => Nat.lt_of_lt_of_le (h.glob g hm) ho.size, h.nd⟩
  · have hm := List.mem_of_getElem? h1
    exact (World.cell?_of_block (a := ⟨g, 0, none⟩) (ho.block g (h.glob g hm) (hg g hm))).trans (h.cell i g a h1 h2)
  · obtain ⟨c, t, h1⟩ := h.blk a hm
    exact ⟨c, t, (ho.block _ (h.lt hm) (ha a hm)).trans h1⟩
theorem Errs.ext {w w' : World} {tp : TypeId} {G : List Nat} {as : List Addr} (h : Errs w tp G as) (ho : Ext w w') : Errs w' tp G as := h.of_only ho (fun _ _ h => h) (fun _ _ h => h)

/-- What a row's list of such variables gives. -/
theorem errs_of_laid {P : Program} {W : World} {nm : String} {ti tp te ts : TypeId} {ms : Array (String × TypeId)} {f : Field}
    (hi : P.underlying ti = some (.interface ms)) (hrow : ∀ u, P.typeName? 3 u = some nm → u = tp)
    (hp : P.underlying tp = some (.pointer te)) (he : P.underlying te = some (.struct #[f])) (hft : f.type = ts) (hfo : f.offset = 0) (hs : P.underlying ts = some .string) (hc : P.cellsOf te = 1) (hcs : P.cellsOf ts = 1) :
    ∀ (L : List (String × List UInt8)) (G : List Nat), (L.map fun x => P.globalNamed x.1) = G.map some → (∀ g ∈ G, (P.globals[g]?).map (·.type) = some ti) →
      laidMet P (L.map fun x => (x.1, .iface nm (.ptr (.agg [.lit (.string x.2)])))) W → ∃ as, Errs W tp G as := by
  intro L
  suffices H : ∀ (L : List (String × List UInt8)) (G : List Nat) (ps : List MemPlace), (L.map fun x => P.globalNamed x.1) = G.map some → (∀ g ∈ G, (P.globals[g]?).map (·.type) = some ti) →
      DataW.LaidVars P W (L.map fun x => (x.1, .iface nm (.ptr (.agg [.lit (.string x.2)])))) ps → ps.Nodup → (∀ b off, MemPlace.cell b off ∈ ps →
    (∃ c t, W.heap[b]? = some (.cells c t (0, 0))) ∧ ∀ u v, W.cell? ⟨b, off, none⟩ = some (.iface u v) → Value.okWide P W .any 0 u v) →
      ∃ as : List Addr, as.length = G.length ∧ (∀ (i : Nat) (g : Nat) (a : Addr), G[i]? = some g → as[i]? = some a → W.cell? ⟨g, 0, none⟩ = some (.iface tp (.pointer (some a)))) ∧
        (∀ g ∈ G, MemPlace.cell g 0 ∈ ps) ∧ (∀ a ∈ as, MemPlace.cell a.block a.off ∈ ps) ∧ as.Nodup by
    intro G h1 h2 ⟨ps, hv, hnd, hrows⟩
    obtain ⟨as, e1, e2, e3, e4, e5⟩ := H L G ps h1 h2 hv hnd hrows
    exact ⟨as, e1, e2, fun a ha => (hrows _ _ (e4 a ha)).1, fun g hg => by
      obtain ⟨⟨c, t, h⟩, _⟩ := hrows _ _ (e3 g hg)
      exact (Array.getElem?_eq_some_iff.1 h).1, e5⟩
  intro L
  induction L with
  | nil =>
    intro G ps h1 _ _ _ _
    have : G = [] := by cases G <;> simp_all
    subst this
    exact ⟨[], rfl, fun i g a hg => by simp at hg, by simp, by simp, List.nodup_nil⟩
  | cons x L ih =>
    intro G ps h1 h2 hv hnd hrows
    obtain ⟨n, text⟩ := x
    cases G with
    | nil => simp at h1
    | cons g G =>
      simp only [List.map_cons, List.cons.injEq] at h1
      obtain ⟨hg, h1⟩ := h1
      obtain ⟨g0, t0, cs0, f0, p0, q0, hg0, ht0, hv0, hd0, hq, e0⟩ := hv
      obtain rfl := Option.some.inj (hg.symm.trans hg0)
      obtain rfl := Option.some.inj ((h2 _ (by simp)).symm.trans ht0)
      subst e0
      obtain ⟨l0⟩ := cs0
      have ok0 : ∀ u v, l0 = [.iface u v] → Value.okWide P W .any 0 u v := fun u v e => by
        subst e
        exact (hrows g 0 (by simp [MemPlace.row])).2 u v (by simpa using World.var?_cell hg0 hv0 0)
      obtain ⟨a0, s0, rfl, hc0, hs0, hz0, rfl⟩ := errorString_of_trod hi hrow hp he hft hfo hs hc hcs hd0 ok0
      have hnq := (List.nodup_append.1 hnd)
      obtain ⟨as, e1, e2, e3, e4, e5⟩ := ih G q0 h1 (fun g hg => h2 g (by simp [hg])) hq hnq.2.1 (fun b off hm => hrows b off (List.mem_append_right _ hm))
      refine ⟨a0 :: as, by simp [e1], ?_, ?_, ?_, ?_⟩
      · intro i g' a hgi hai
        cases i with
        | zero =>
          simp at hgi hai
          subst hgi hai
          simpa using World.var?_cell hg0 hv0 0
        | succ i =>
          simp at hgi hai
          exact e2 i g' a hgi hai
      · intro g' hg'
        rcases List.mem_cons.1 hg' with rfl | hg'
        · simp [MemPlace.row]
        · exact List.mem_append_right _ (e3 g' hg')
      · intro a ha
        rcases List.mem_cons.1 ha with rfl | ha
        · simp [MemPlace.row]
        · exact List.mem_append_right _ (e4 a ha)
      · refine List.nodup_cons.2 ⟨fun hm => ?_, e5⟩
        exact hnq.2.2 (.cell a0.block a0.off) (by simp [MemPlace.row]) _ (e4 a0 hm) rfl
end Go.Hp
