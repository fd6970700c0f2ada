/- 'for t := range tree.All(n)': a loop over all trees, whose body is told where the tree's branches lie. Inside the wide fence. -/
import Derived.Test.YtbmlkomfelkckaaAllTrees
import Derived.RangeFuncWrites
namespace Go.Proofs.Ytbmlkomfelkckaa
open Go Go.RowKit
set_option maxRecDepth 100000

/-- What the loop's own book-keeping and the iterator leave as it was: all but the loop's two records, which are no cells. -/
structure Keep (B : Nat) (W W' : World) : Prop where
  os : W'.os = W.os
  tape : W'.tape = W.tape
  output : W'.output = W.output
  size : W.heap.size ≤ W'.heap.size
  rest : ∀ k, k ≠ B → k ≠ B + 1 → k < W.heap.size → W'.heap[k]? = W.heap[k]?
  cells : ∀ (k : Nat) (o : Obj), W.heap[k]? = some o → o.isCells = true → W'.heap[k]? = some o

theorem Keep.of {W W' : World} (B : Nat) (h : Below W.heap.size W W') : Keep B W W' :=
  ⟨h.os, h.tape, h.output, h.size, fun k _ _ hk => h.block k hk, fun k _ ho _ => (h.block k (Array.getElem?_eq_some_iff.1 ho).1).trans ho⟩

theorem Keep.put {B : Nat} {W : World} {l : Nat} {o : Obj} (hB : l = B ∨ l = B + 1) (hl : W.heap[l]? = some o) (ho : o.isCells = false) (o' : Obj) : Keep B W (W.putObj l o') := by
  refine ⟨rfl, rfl, rfl, by simp, fun k _ _ _ => World.putObj_heap_other (by omega), fun k u hu hc => (World.putObj_heap_other ?_).trans hu⟩
  rintro rfl
  rw [hl] at hu
  cases hu
  rw [ho] at hc
  cases hc

theorem Keep.trans {B : Nat} {W W1 W2 : World} (h : Keep B W W1) (k : Keep B W1 W2) : Keep B W W2 :=
  ⟨k.os.trans h.os, k.tape.trans h.tape, k.output.trans h.output, Nat.le_trans h.size k.size, fun i h0 h1 hs => (k.rest i h0 h1 (Nat.lt_of_lt_of_le hs h.size)).trans (h.rest i h0 h1 hs), fun i o ho hc => k.cells i o (h.cells i o ho hc) hc⟩

theorem Keep.cell {B : Nat} {W W' : World} (h : Keep B W W') {a : Addr} {v : Value} (hc : W.cell? a = some v) : W'.cell? a = some v := by
  obtain ⟨o, ho, hs⟩ := cells_of_cell hc
  exact (World.cell?_of_block ((h.cells _ o ho hs).trans ho.symm)).trans hc

theorem Keep.frozen {B : Nat} {W W' : World} (h : Keep B W W') {a : Addr} {v : Value} {f : Bool} (hc : W.cell? a = some v) (hf : W.frozen? a = f) : W'.frozen? a = f := by
  obtain ⟨o, ho, hs⟩ := cells_of_cell hc
  exact (World.frozen?_of_block ((h.cells _ o ho hs).trans ho.symm)).trans hf

theorem Keep.own {B : Nat} {W W' : World} (h : Keep B W W') {base : Nat} {e : TypeId} {size n : Nat} {v : Value} {xs : List Value} (ho : W.ownsRow base e size v n xs) : W'.ownsRow base e size v n xs := by
  refine ⟨ho.1, ?_⟩
  rcases ho.2 with h2 | ⟨g, cap, cur, hv, hg, hh, r⟩
  · exact .inl h2
  · exact .inr ⟨g, cap, cur, hv, hg, h.cells g _ hh rfl, r⟩

theorem Keep.below {B n : Nat} {W0 W W' : World} (h : Keep B W W') (hb : Below n W0 W) (hn : n ≤ B) (hz : n ≤ W.heap.size) : Below n W0 W' :=
  ⟨h.os.trans hb.os, h.tape.trans hb.tape, h.output.trans hb.output, Nat.le_trans hb.size h.size, fun k hk => (h.rest k (by omega) (by omega) (by omega)).trans (hb.block k hk)⟩

theorem Keep.fat {B : Nat} {W W' : World} (h : Keep B W W') {g c : Nat} {xs : List Br} (hf : FAt W g c xs) : FAt W' g c xs :=
  ⟨hf.cap, hf.pos, Nat.lt_of_lt_of_le hf.lt h.size, hf.top, fun j u hu => h.cell (hf.cells j u hu)⟩

theorem ItKeep.keep {B B0 B1 : Nat} {W W1 W' : World} (k : ItKeep B0 B1 W W1) (h : Keep B W1 W') (hB : B + 2 ≤ B0) : ItKeep B0 B1 W W' :=
  ⟨Nat.le_trans k.size h.size, fun b cs hc => (h.cells b _ ((k.nodes b cs hc).trans hc) rfl).trans hc.symm, fun i h0 h1 hi => (h.rest i (by omega) (by omega) (Nat.lt_of_lt_of_le hi k.size)).trans (k.boxes i h0 h1 hi)⟩

/-- How the body of a round may be left. -/
def treePost (B B0 B1 : Nat) (W1 : World) (I : List NT → World → Prop) (Ix : Code → List NT → World → Prop) (pre : List NT) (W : World) : Exit → Act → World → Prop
  | .normal, _, W' => KeepsFrom B W W' ∧ ItKeep B0 B1 W1 W' ∧ I pre W'
  | .ret, _, W' => KeepsFrom B W W' ∧ Ix .ret pre W'
  | .exit id, _, W' => KeepsFrom B W W' ∧ Ix (.exit id) pre W'
  | .goto t, _, W' => KeepsFrom B W W' ∧ Ix (.goto t) pre W'
  | .panic _, _, _ => False
  | .outgrown, _, _ => False

theorem wpIn_rangeTrees {m bl : Nat} {z : Int} {g : Operand} {ps : Array Tmp} {assign body : Code} {Q : Exit → Act → World → Prop} {a : Act} {w : World}
    (hg : a.eval g = .func (.func 65) #[] #[.pointer (some ⟨bl, 0, none⟩)]) (hps : ps.size = 1) (hz : -9223372036854775808 ≤ z ∧ z ≤ 9223372036854775807) (hbl : w.cell? ⟨bl, 0, none⟩ = some (.int .i64 z))
    (I : List NT → World → Prop) (Ix : Code → List NT → World → Prop) (Rd : List NT → NT → World → Act → World → Prop)
    (hI : ∀ pre W W', I pre W → Keep w.heap.size W W' → I pre W') (hIx : ∀ c pre W W', Ix c pre W → Keep w.heap.size W W' → Ix c pre W') (hRd : ∀ pre T W1 a₁ W W', Rd pre T W1 a₁ W → Keep w.heap.size W W' → Rd pre T W1 a₁ W')
    (h0 : I [] w)
    (hassign : ∀ (l k : Nat) (T : NT) (A : Option Addr) (c : Nat) (pre : List NT) (W0 W1 : World), I pre W0 → w.heap.size + 2 + 1 + 2 * z.toNat ≤ W0.heap.size → Below W0.heap.size W0 W1 → W1.ownsRow W0.heap.size 64 3 (.slice A T.size c) T.size (brs (T.form 0)) → pre ++ [T] <+: treesOf z →
      assign.wpIn (Fence.wide.inRound l) k Try.prog (Exit.then (fun a₁ W₂ => KeepsFrom w.heap.size W1 W₂ ∧ Rd pre T W1 a₁ W₂) (fun _ _ _ => False)) { tmps := (ps.zip #[.agg #[.slice A T.size c]]).foldl (fun t (p, v) => t.setIfInBounds p v) a.tmps, defers := [] } W1)
    (hbody : ∀ (l k : Nat) (T : NT) (pre : List NT) (a₁ : Act) (W1 W : World), Rd pre T W1 a₁ W → w.heap.size + 1 ≤ l → pre ++ [T] <+: treesOf z →
      body.wpIn (Fence.wide.inRound l) k Try.prog (treePost w.heap.size (w.heap.size + 2) (w.heap.size + 2 + 1 + 2 * z.toNat) W1 I Ix (pre ++ [T]) W) a₁ W)
    (hdone : ∀ (D : Nat) (W : World), w.heap.size ≤ D → I (treesOf z) W → W.heap[D]? = some (.deferred (some [])) → Q .normal { a with defers := { target := .collected D, args := #[] } :: a.defers } W)
    (hstop : ∀ (D : Nat) (c : Code) (pre : List NT) (W : World), w.heap.size ≤ D → pre <+: treesOf z → Ix c pre W → W.heap[D]? = some (.deferred (some [])) → c.wpIn Fence.wide m Try.prog Q { a with defers := { target := .collected D, args := #[] } :: a.defers } W) :
    (Code.rangeFunc g ps assign body).wpIn Fence.wide m Try.prog Q a w := by
  refine wpIn_rangeFunc fun fn hfn => ?_
  obtain ⟨rec, hrec⟩ : ∃ rec : LoopState → Option Code → Loop, rec = fun st pe => { state := st, pending := pe, fn, tmps := a.tmps, params := ps, assign, body, defers := w.heap.size } := ⟨_, rfl⟩
  let WD := w.alloc (.deferred (some []))
  let WL := WD.alloc (.loop (rec .ready none))
  have hdz : WD.heap.size = w.heap.size + 1 := by simp [WD]
  have hlz : WL.heap.size = w.heap.size + 2 := by simp [WL, WD]
  have hD : WL.heap[w.heap.size]? = some (.deferred (some [])) := (Below.heap_alloc WD _ _ (by rw [hdz]; omega)).trans (World.alloc_heap_new w _)
  have hL : WL.heap[w.heap.size + 1]? = some (.loop (rec .ready none)) := by
    have := World.alloc_heap_new WD (.loop (rec .ready none))
    rwa [hdz] at this
  have hwl : Below w.heap.size w WL := (below_alloc w _).trans ((below_alloc WD _).mono (by rw [hdz]; omega))
  have hIL : I [] WL := hI _ _ _ h0 (Keep.of _ hwl)
  -- a turn of the loop's record is no matter
  have hput : ∀ {W : World} {r : Loop} (r' : Loop), W.heap[w.heap.size + 1]? = some (.loop r) → Keep w.heap.size W (W.putObj (w.heap.size + 1) (.loop r')) := fun r' h => Keep.put (.inr rfl) h rfl _
  have hputD : ∀ {W : World} {r' : Loop}, W.heap[w.heap.size]? = some (.deferred (some [])) → (W.putObj (w.heap.size + 1) (.loop r')).heap[w.heap.size]? = some (.deferred (some [])) := fun h => (World.putObj_heap_other (by omega)).trans h
  refine ⟨w.heap.size + 1, [{ target := .collected w.heap.size, args := #[] }], WL, { target := .fn (.func 65) #[.pointer (some ⟨bl, 0, none⟩)], args := #[.func (.yield (w.heap.size + 1)) #[] #[]] }, WL, 65,
    #[.func (.yield (w.heap.size + 1)) #[] #[], .pointer (some ⟨bl, 0, none⟩)], WL, ?_, ?_, fun _ _ => trivial, ?_, fun h => (by cases h), ?_⟩
  · have := run_enterLoop_outer (P := Try.prog) (w := w) fn a.tmps ps assign body
    simp only [WL, WD, hrec]
    exact this
  · simp only [resolve, hg]
    simp [go_sem]
  · simp [invoke, go_sem]
  · refine (all_in (m - 1) (w.heap.size + 1) bl z
      (fun pre W => I pre W ∧ W.heap[w.heap.size + 1]? = some (.loop (rec .ready none)) ∧ W.heap[w.heap.size]? = some (.deferred (some [])))
      (fun pre W => ∃ c, Ix c pre W ∧ W.heap[w.heap.size + 1]? = some (.loop (rec .done (some c))) ∧ W.heap[w.heap.size]? = some (.deferred (some [])))
      WL hz (cell_below hwl (cell_lt hbl) hbl) ?_ ?_ ⟨hIL, hL, hD⟩).mono ?_
    · rw [hlz]
      intro k T A c pre W0 W1 ⟨hi, hl, hd⟩ hB hb ho hpre
      have hl1 := (hb.block _ (Array.getElem?_eq_some_iff.1 hl).1).trans hl
      have hd1 := (hb.block _ (Array.getElem?_eq_some_iff.1 hd).1).trans hd
      have hlt := (Array.getElem?_eq_some_iff.1 hl1).1
      have hy := run_yield (P := Try.prog) (args := #[.agg #[.slice A T.size c]]) hl1 (by rw [hrec]; show 1 = ps.size; rw [hps])
      rw [hrec] at hy
      refine ⟨fn, _, assign, body, hy, roundIn_of_wpIn hfn (wpIn_mono (hassign (w.heap.size + 1) k T A c pre W0 W1 hi hB hb ho hpre) ?_)⟩
      intro e a₁ W₂ h
      cases e with
      | normal =>
        obtain ⟨hk2, hr2⟩ := h
        have hl2 := hk2.same _ _ (by omega) hl1 rfl
        have hd2 := hk2.same _ _ (Nat.le_refl _) hd1 rfl
        have hp2 := hput { rec .ready none with state := .busy } hl2
        refine ⟨_, run_beginRound hl2 (by rw [hrec]), ?_⟩
        have hl3 : (W₂.putObj (w.heap.size + 1) (.loop { rec .ready none with state := .busy })).heap[w.heap.size + 1]? = some (.loop { rec .ready none with state := .busy }) := World.putObj_heap_same (Array.getElem?_eq_some_iff.1 hl2).1
        have hd3 := hputD (r' := { rec .ready none with state := .busy }) hd2
        refine wpIn_mono (hbody (w.heap.size + 1) k T pre a₁ W1 _ (hRd _ _ _ _ _ _ hr2 hp2) (Nat.le_refl _) hpre) ?_
        have fin : ∀ (jump : Option Code) (W4 : World), KeepsFrom w.heap.size (W₂.putObj (w.heap.size + 1) (.loop { rec .ready none with state := .busy })) W4 →
            (Instr.endRound (w.heap.size + 1) jump).run Try.prog W4 = .ok (.bool jump.isNone) (W4.putObj (w.heap.size + 1) (.loop (rec (if jump.isNone then .ready else .done) jump))) ∧
            Keep w.heap.size W4 (W4.putObj (w.heap.size + 1) (.loop (rec (if jump.isNone then .ready else .done) jump))) ∧
            (W4.putObj (w.heap.size + 1) (.loop (rec (if jump.isNone then .ready else .done) jump))).heap[w.heap.size + 1]? = some (.loop (rec (if jump.isNone then .ready else .done) jump)) ∧
            (W4.putObj (w.heap.size + 1) (.loop (rec (if jump.isNone then .ready else .done) jump))).heap[w.heap.size]? = some (.deferred (some [])) := fun jump W4 hk => by
          have hl4 := hk.same _ _ (by omega) hl3 rfl
          have hr := run_endRound (P := Try.prog) jump hl4
          rw [hrec] at hr hl4 ⊢
          exact ⟨hr, hput _ hl4, World.putObj_heap_same (Array.getElem?_eq_some_iff.1 hl4).1, hputD (hk.same _ _ (Nat.le_refl _) hd3 rfl)⟩
        intro e a4 W4 hp
        cases e with
        | normal =>
          obtain ⟨hk4, hit4, hi4⟩ := hp
          obtain ⟨h1, h2, h3, h4⟩ := fin none W4 hk4
          exact ⟨_, _, h1, .inl ⟨rfl, ⟨hI _ _ _ hi4 h2, h3, h4⟩, hit4.keep h2 (Nat.le_refl _)⟩⟩
        | ret =>
          obtain ⟨hk4, hi4⟩ := hp
          obtain ⟨h1, h2, h3, h4⟩ := fin (some .ret) W4 hk4
          exact ⟨_, _, h1, .inr ⟨rfl, .ret, hIx _ _ _ _ hi4 h2, h3, h4⟩⟩
        | exit id =>
          obtain ⟨hk4, hi4⟩ := hp
          obtain ⟨h1, h2, h3, h4⟩ := fin (some (.exit id)) W4 hk4
          exact ⟨_, _, h1, .inr ⟨rfl, .exit id, hIx _ _ _ _ hi4 h2, h3, h4⟩⟩
        | goto t =>
          obtain ⟨hk4, hi4⟩ := hp
          obtain ⟨h1, h2, h3, h4⟩ := fin (some (.goto t)) W4 hk4
          exact ⟨_, _, h1, .inr ⟨rfl, .goto t, hIx _ _ _ _ hi4 h2, h3, h4⟩⟩
        | panic _ => exact hp.elim
        | outgrown => exact hp.elim
      | ret => exact h.elim
      | exit _ => exact h.elim
      | goto _ => exact h.elim
      | panic _ => exact h.elim
      | outgrown => exact h.elim
    · rintro pre A B ⟨h1, h2, h3⟩ hb
      exact ⟨hI _ _ _ h1 (Keep.of _ hb), (hb.block _ (Array.getElem?_eq_some_iff.1 h2).1).trans h2, (hb.block _ (Array.getElem?_eq_some_iff.1 h3).1).trans h3⟩
    · rintro e W2 ⟨⟨v, rfl⟩, ⟨hi, hl, hd⟩ | ⟨q, hq, c, hi, hl, hd⟩⟩
      · refine ⟨none, W2.putObj (w.heap.size + 1) (.loop { rec .ready none with state := .exhausted }), ?_, hdone _ _ (Nat.le_refl _) (hI _ _ _ hi (hput _ hl)) (hputD hd)⟩
        have := run_endLoop (P := Try.prog) hl (by rw [hrec]; simp)
        rw [hrec] at this ⊢
        exact this
      · refine ⟨some c, W2.putObj (w.heap.size + 1) (.loop { rec .done (some c) with state := .exhausted }), ?_, hstop _ c q _ (Nat.le_refl _) hq (hIx _ _ _ _ hi (hput _ hl)) (hputD hd)⟩
        have := run_endLoop (P := Try.prog) hl (by rw [hrec]; simp)
        rw [hrec] at this ⊢
        exact this
end Go.Proofs.Ytbmlkomfelkckaa
