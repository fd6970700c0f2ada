/- A web of arcs in memory. -/
import Derived.Test.YteonpfomlmfkjaaRkMem
import Derived.Test.YteonpfomlmfkjaaRankP
namespace Go.Proofs.Yteonpfomlmfkjaa
open Go Go.RowKit
set_option maxRecDepth 100000

theorem oneI (z : Int) : (#[Value.int .i64 z] : Array Value).size = 1 ∧ ∀ u ∈ (#[Value.int .i64 z] : Array Value).toList, u.oneCell' = true := by
  refine ⟨rfl, fun u hu => ?_⟩
  obtain rfl : u = Value.int .i64 z := by simpa using hu
  rfl

/-- Arcs that can be read. -/
def RdArcs (w : World) (A : Option Addr) (arcs : List (Int × Int)) : Prop :=
  ∀ (i : Nat) a, arcs[i]? = some a → ∃ ad, A = some ad ∧ w.cell? (ad.add (i * 2)) = some (.int .i64 a.1) ∧ w.cell? ⟨(ad.add (i * 2)).block, (ad.add (i * 2)).off + 1, none⟩ = some (.int .i64 a.2)

theorem RdArcs.below {w w' : World} {A : Option Addr} {arcs : List (Int × Int)} (h : RdArcs w A arcs) (hb : Below w.heap.size w w') : RdArcs w' A arcs := by
  intro i x hx
  obtain ⟨ad, rfl, h0, h1⟩ := h i x hx
  exact ⟨ad, rfl, (hb.cell (World.block_lt_of_cell? w _ h0)).trans h0, (hb.cell (World.block_lt_of_cell? w _ h1)).trans h1⟩

/-- May these arcs be? -/
def arcsOk (n : Int) (arcs : List (Int × Int)) : Prop := 0 ≤ n ∧ n ≤ 4096 ∧ arcs.length ≤ 16384 ∧ ∀ a ∈ arcs, 0 ≤ a.1 ∧ a.1 < n ∧ 0 ≤ a.2 ∧ a.2 < n

/-- How many arcs lead to v. -/
def into (arcs : List (Int × Int)) (v : Int) : Int := ((arcs.countP fun a => a.2 == v : Nat) : Int)

/-- The web's blocks: 'f': the rows' values. -/
structure Web (W : World) (base p gT gW n : Nat) (tos : Nat → List Int) (wt : Nat → Int) (f : Nat → Value) : Prop where
  pT : base ≤ gT
  pW : base ≤ gW
  pP : base ≤ p
  lP : p < W.heap.size
  neTW : gT ≠ gW
  neTP : gT ≠ p
  neWP : gW ≠ p
  b0 : W.cell? ⟨p, 0, none⟩ = some (.slice (some ⟨gT, 0, none⟩) n n)
  b1 : W.cell? ⟨p, 1, none⟩ = some (.slice (some ⟨gW, 0, none⟩) n n)
  to : W.rowIs gT 25 n f
  wait : W.rowIs gW 3 n fun v => .int .i64 (wt v)
  row : ∀ v, v < n → W.ownsRow base 3 1 (f v) (tos v).length (intCells (tos v)) ∧ ∀ g, (f v).ownBlock = some g → g ≠ gW ∧ g ≠ gT ∧ g ≠ p
  sep : ∀ u v g, u < n → v < n → (f u).ownBlock = some g → (f v).ownBlock = some g → u = v
  nil0 : ∀ v, v < n → tos v = [] → f v = .slice none 0 0

theorem Web.congr {W : World} {base p gT gW n : Nat} {tos tos' : Nat → List Int} {wt wt' : Nat → Int} {f : Nat → Value} (h : Web W base p gT gW n tos wt f) (ht : ∀ v, v < n → tos v = tos' v) (hw : ∀ v, v < n → wt v = wt' v) : Web W base p gT gW n tos' wt' f :=
  ⟨h.pT, h.pW, h.pP, h.lP, h.neTW, h.neTP, h.neWP, h.b0, h.b1, h.to, h.wait.congr fun v hv => by rw [hw v hv], fun v hv => by rw [← ht v hv]; exact h.row v hv, h.sep, fun v hv e => h.nil0 v hv (by rw [ht v hv]; exact e)⟩

theorem Web.below {W W' : World} {base p gT gW n : Nat} {tos : Nat → List Int} {wt : Nat → Int} {f : Nat → Value} (h : Web W base p gT gW n tos wt f) (k : Below W.heap.size W W') : Web W' base p gT gW n tos wt f :=
  ⟨h.pT, h.pW, h.pP, Nat.lt_of_lt_of_le h.lP k.size, h.neTW, h.neTP, h.neWP, cell_below k h.lP h.b0, cell_below k h.lP h.b1, h.to.of_block (k.block _ h.to.lt), h.wait.of_block (k.block _ h.wait.lt),
    fun v hv => ⟨own_below (h.row v hv).1 k, (h.row v hv).2⟩, h.sep, h.nil0⟩

/-- An arc to b is counted. -/
theorem Web.count {W : World} {base p gT gW n : Nat} {tos : Nat → List Int} {wt : Nat → Int} {f : Nat → Value} (h : Web W base p gT gW n tos wt f) (b : Nat) (z : Int) : Web (W.setCell ⟨gW, b, none⟩ (.int .i64 z)) base p gT gW n tos (fun v => if v = b then z else wt v) f := by
  refine ⟨h.pT, h.pW, h.pP, by simpa using h.lP, h.neTW, h.neTP, h.neWP, mem_ne (.inl (Ne.symm h.neWP)) h.b0, mem_ne (.inl (Ne.symm h.neWP)) h.b1, h.to.setOther h.neTW _, (h.wait.set b _).congr fun v _ => by by_cases e : v = b <;> simp [e], fun v hv => ?_, h.sep, h.nil0⟩
  obtain ⟨h1, h2⟩ := h.row v hv
  exact ⟨ownsRow_setCell_other h1 (fun e => (h2 _ e).1 rfl) _, h2⟩

/-- An arc from a is entered: its row has grown, and stands in the web. -/
theorem Web.push {W W1 : World} {base p gT gW n : Nat} {tos : Nat → List Int} {wt : Nat → Int} {f : Nat → Value} (h : Web W base p gT gW n tos wt f) (_hbase : base ≤ W.heap.size) {a : Nat} (ha : a < n) {b : Int} {v' : Value}
    (ho : W1.ownsRow base 3 1 v' ((tos a).length + 1) (intCells (tos a) ++ [.int .i64 b])) (hu : Upd W W1 (f a) v') :
    Web (W1.setCell ⟨gT, a, none⟩ v') base p gT gW n (fun v => if v = a then tos a ++ [b] else tos v) wt (fun v => if v = a then v' else f v) := by
  obtain ⟨ha1, ha2⟩ := h.row a ha
  obtain ⟨hg, hn⟩ := hu
  have hblk : ∀ k, k < W.heap.size → (∀ g, (f a).ownBlock = some g → k ≠ g) → W1.heap[k]? = W.heap[k]? := fun k hk hne => hg.block k hk (fun e => hne k e.symm rfl)
  have hv' : ∀ g, v'.ownBlock = some g → g ≠ gW ∧ g ≠ gT ∧ g ≠ p ∧ ∀ u, u < n → u ≠ a → (f u).ownBlock ≠ some g := by
    intro g hgv
    rcases hn with e | ⟨g', e, hge⟩
    · rw [e] at hgv
      obtain ⟨k1, k2, k3⟩ := ha2 g hgv
      exact ⟨k1, k2, k3, fun u hu hne hh => hne (h.sep u a g hu ha hh hgv)⟩
    · rw [e] at hgv
      obtain rfl : g' = g := by simpa using hgv
      refine ⟨fun e => ?_, fun e => ?_, fun e => ?_, fun u hu _ hh => ?_⟩
      · have := h.wait.lt; omega
      · have := h.to.lt; omega
      · have := h.lP; omega
      · have := ((h.row u hu).1.lt g' hh).2; omega
  have hbT := hblk gT h.to.lt fun g e e2 => (ha2 g e).2.1 e2.symm
  have hbW := hblk gW h.wait.lt fun g e e2 => (ha2 g e).1 e2.symm
  have hbP := hblk p h.lP fun g e e2 => (ha2 g e).2.2 e2.symm
  have hT1 : W1.rowIs gT 25 n f := h.to.of_block hbT
  refine ⟨h.pT, h.pW, h.pP, by simpa using Nat.lt_of_lt_of_le h.lP hg.size, h.neTW, h.neTP, h.neWP, mem_ne (.inl (Ne.symm h.neTP)) ((World.cell?_of_block (a := ⟨p, 0, none⟩) hbP).trans h.b0), mem_ne (.inl (Ne.symm h.neTP)) ((World.cell?_of_block (a := ⟨p, 1, none⟩) hbP).trans h.b1),
    hT1.set a v', (h.wait.of_block hbW).setOther (Ne.symm h.neTW) _, fun v hv => ?_, fun u v g hu hv e1 e2 => ?_, fun v hv e => ?_⟩
  · by_cases e : v = a
    · subst e
      simp only [if_true]
      refine ⟨?_, fun g e => ⟨(hv' g e).1, (hv' g e).2.1, (hv' g e).2.2.1⟩⟩
      rw [intCells_append, List.length_append]
      exact ownsRow_setCell_other ho (fun e => (hv' _ e).2.1 rfl) _
    · simp only [if_neg e]
      obtain ⟨h1, h2⟩ := h.row v hv
      refine ⟨ownsRow_setCell_other (h1.kept hg ?_) (fun e => (h2 _ e).2.1 rfl) _, h2⟩
      cases hb : (f v).ownBlock with
      | none => exact .inl rfl
      | some g => exact .inr fun e3 => e (h.sep v a g hv ha hb e3.symm)
  · by_cases eu : u = a
    · by_cases ev : v = a
      · omega
      · subst eu
        simp only [if_true, if_neg ev] at e1 e2
        exact absurd e2 ((hv' g e1).2.2.2 v hv ev)
    · by_cases ev : v = a
      · subst ev
        simp only [if_true, if_neg eu] at e1 e2
        exact absurd e1 ((hv' g e2).2.2.2 u hu eu)
      · simp only [if_neg eu, if_neg ev] at e1 e2
        exact h.sep u v g hu hv e1 e2
  · by_cases ev : v = a
    · subst ev
      simp at e
    · simp only [if_neg ev] at e ⊢
      exact h.nil0 v hv e

/-- The web at first. -/
theorem Web.start {W : World} {base p gT gW n : Nat} (h1 : base ≤ gT) (h2 : base ≤ gW) (h3 : base ≤ p) (h4 : p < W.heap.size) (h5 : gT ≠ gW) (h6 : gT ≠ p) (h7 : gW ≠ p) (b0 : W.cell? ⟨p, 0, none⟩ = some (.slice (some ⟨gT, 0, none⟩) n n))
    (b1 : W.cell? ⟨p, 1, none⟩ = some (.slice (some ⟨gW, 0, none⟩) n n)) (h8 : W.rowIs gT 25 n fun _ => .slice none 0 0) (h9 : W.rowIs gW 3 n fun _ => .int .i64 0) :
    Web W base p gT gW n (fun _ => []) (fun _ => 0) (fun _ => .slice none 0 0) :=
  ⟨h1, h2, h3, h4, h5, h6, h7, b0, b1, h8, h9, fun v hv => ⟨World.ownsRow_nil _ _ _ _, fun g e => (by cases e)⟩, fun u v g _ _ e => (by cases e), fun _ _ _ => rfl⟩

theorem outs_snoc (arcs : List (Int × Int)) (a : Int × Int) (v : Int) : outs (arcs ++ [a]) v = if v = a.1 then outs arcs v ++ [a.2] else outs arcs v := by
  unfold outs
  rw [List.filter_append, List.map_append]
  by_cases h : v = a.1
  · rw [if_pos h]
    congr 1
    simp [h]
  · rw [if_neg h]
    have : ([a].filter fun a => a.1 == v) = [] := by simp [Ne.symm h]
    rw [this]
    simp

theorem into_snoc (arcs : List (Int × Int)) (a : Int × Int) (v : Int) : into (arcs ++ [a]) v = if v = a.2 then into arcs v + 1 else into arcs v := by
  unfold into
  rw [List.countP_append]
  by_cases h : v = a.2
  · rw [if_pos h]
    simp [h]
  · rw [if_neg h]
    simp [Ne.symm h]
end Go.Proofs.Yteonpfomlmfkjaa
