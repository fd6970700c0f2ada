/- Memory words: nodes of trees in the heap, what a call keeps, cells of what came in. No walk here. -/
import Derived.Test.YtbmlkomfelkckaaProg
import Derived.WalkKit
import Derived.WalkSpells
import Derived.Lib.Hide
import Derived.Maps.AppendAt
import Derived.Laws.MakeOwn
import Derived.Deep.AppendLies
import Derived.Deep.LoopGhost
import Derived.Deep.Draws
import Derived.KernelRfl
import Derived.RowKit
namespace Go.Proofs.Ytbmlkomfelkckaa
open Go Go.RowKit

/-- A part of a tree: a leaf with its number, or two parts. -/
inductive NT where
  | leaf (k : Nat)
  | fork (a b : NT)
deriving DecidableEq, Repr

/-- The leaf number that a node bears: that of its first leaf. -/
def NT.key : NT → Nat
  | .leaf k => k
  | .fork a _ => a.key

/-- Of two parts, the lesser key first. -/
def mkFork (x y : NT) : NT := if y.key < x.key then .fork y x else .fork x y

/-- 'p' leads to a node that stands for the part. -/
def Nd (w : World) : NT → Value → Prop
  | .leaf k, p => ∃ b, p = .pointer (some ⟨b, 0, none⟩) ∧ w.heap[b]? = some (.cells #[.int .i64 (k : Int), .pointer none, .pointer none] 98 (0, 0))
  | .fork x y, p => ∃ b px py, p = .pointer (some ⟨b, 0, none⟩) ∧ w.heap[b]? = some (.cells #[.int .i64 (x.key : Int), px, py] 98 (0, 0)) ∧ Nd w x px ∧ Nd w y py

/-- The element type of a block, where it is one of cells. -/
def elemAt (w : World) (b : Nat) : Option TypeId := match w.heap[b]? with | some (.cells _ e _) => some e | _ => none

theorem Nd.top {w : World} {T : NT} {p : Value} (h : Nd w T p) : ∃ b pa pb, p = .pointer (some ⟨b, 0, none⟩) ∧ w.heap[b]? = some (.cells #[.int .i64 (T.key : Int), pa, pb] 98 (0, 0)) := by
  cases T with
  | leaf k => obtain ⟨b, hp, hb⟩ := h; exact ⟨b, _, _, hp, hb⟩
  | fork x y => obtain ⟨b, px, py, hp, hb, _⟩ := h; exact ⟨b, _, _, hp, hb⟩

theorem Nd.lt {w : World} {T : NT} {b : Nat} (h : Nd w T (.pointer (some ⟨b, 0, none⟩))) : b < w.heap.size := by
  obtain ⟨b', pa, pb, hp, hb⟩ := h.top
  obtain rfl : b = b' := by simpa using hp
  exact (Array.getElem?_eq_some_iff.1 hb).1

/-- Nodes live on while no node's block is written. -/
theorem Nd.keep {w w' : World} (hk : ∀ (b : Nat) (cs : Array Value), w.heap[b]? = some (.cells cs 98 (0, 0)) → w'.heap[b]? = w.heap[b]?) : ∀ {T : NT} {p : Value}, Nd w T p → Nd w' T p
  | .leaf _, _, ⟨b, hp, hb⟩ => ⟨b, hp, (hk b _ hb).trans hb⟩
  | .fork _ _, _, ⟨b, px, py, hp, hb, hx, hy⟩ => ⟨b, px, py, hp, (hk b _ hb).trans hb, Nd.keep hk hx, Nd.keep hk hy⟩

theorem Nd.below {w w' : World} {T : NT} {p : Value} (h : Nd w T p) (hb : Below w.heap.size w w') : Nd w' T p :=
  Nd.keep (fun b _ hc => hb.block b (Array.getElem?_eq_some_iff.1 hc).1) h

/-- A write to one row whose elements are no nodes. -/
theorem Nd.grown {w w' : World} {T : NT} {p : Value} (h : Nd w T p) {row : Option Nat} (hg : w.grownBy w' row) (hr : ∀ k, row = some k → elemAt w k ≠ some 98) : Nd w' T p :=
  Nd.keep (fun b cs hc => hg.block b (Array.getElem?_eq_some_iff.1 hc).1 (fun e => hr b e.symm (by simp [elemAt, hc]))) h

theorem Nd.alloc {w : World} {T : NT} {p : Value} (h : Nd w T p) (o : Obj) : Nd (w.alloc o) T p := h.grown (World.grownBy_alloc w o none) (by simp)
theorem Nd.drew {w : World} {T : NT} {p : Value} (h : Nd w T p) : Nd w.drew T p := Nd.keep (w := w) (w' := w.drew) (fun _ _ _ => rfl) h

theorem Nd.cell {w : World} {b : Nat} {cs : Array Value} {e : TypeId} {fr : Nat × Nat} (h : w.heap[b]? = some (.cells cs e fr)) (j : Nat) : w.cell? ⟨b, j, none⟩ = cs[j]? := by simp [World.cell?, h]

theorem key_mkFork (x y : NT) : (mkFork x y).key = min x.key y.key := by
  unfold mkFork
  split
  · simp only [NT.key]; omega
  · simp only [NT.key]; omega

theorem alloc_at (w : World) (o : Obj) : (w.alloc o).heap[w.heap.size]? = some o := heap_alloc_new w o

/-! ### A row of the call's own that is appended to -/

/-- What an append (or what appends alone) to the row 'v' leaves: other blocks stand; the row stays where it was, or lies in a new block. -/
def Upd (w w' : World) (v v' : Value) : Prop := w.grownBy w' v.ownBlock ∧ (v'.ownBlock = v.ownBlock ∨ ∃ b, v'.ownBlock = some b ∧ w.heap.size ≤ b)

theorem Upd.refl (w : World) (v : Value) : Upd w w v v := ⟨⟨rfl, rfl, rfl, Nat.le_refl _, fun _ _ _ => rfl⟩, .inl rfl⟩

theorem Upd.trans {w w1 w2 : World} {v v1 v2 : Value} (h : Upd w w1 v v1) (k : Upd w1 w2 v1 v2) : Upd w w2 v v2 := by
  obtain ⟨hg, ho⟩ := h
  obtain ⟨kg, ko⟩ := k
  refine ⟨⟨kg.os.trans hg.os, kg.tape.trans hg.tape, kg.output.trans hg.output, Nat.le_trans hg.size kg.size, fun i hi hne => ?_⟩, ?_⟩
  · have h1 := hg.block i hi hne
    refine (kg.block i (Nat.lt_of_lt_of_le hi hg.size) ?_).trans h1
    rcases ho with ho | ⟨b, hb, hge⟩
    · rw [ho]; exact hne
    · rw [hb]
      intro e
      have : i = b := by simpa using e
      omega
  · have hs := hg.size
    rcases ko with ko | ⟨b, hb, hge⟩
    · rw [ko]; exact ho
    · exact .inr ⟨b, hb, by omega⟩

/-- A step beside the row: draws, new blocks. -/
theorem Upd.beside {w w1 w2 : World} {v v1 : Value} (h : Upd w w1 v v1) (k : Below w1.heap.size w1 w2) : Upd w w2 v v1 :=
  h.trans ⟨⟨k.os, k.tape, k.output, k.size, fun i hi _ => k.block i hi⟩, .inl rfl⟩

theorem below_drewN (w : World) (n : Nat) : Below w.heap.size w (w.drewN n) := ⟨rfl, rfl, rfl, Nat.le_refl _, fun _ _ => rfl⟩
theorem below_alloc (w : World) (o : Obj) : Below w.heap.size w (w.alloc o) := (Below.refl _ _).alloc (Nat.le_refl _) o

theorem Below.then {B : Nat} {w w1 w2 : World} (h : Below B w w1) (hB : B ≤ w1.heap.size) (k : Below w1.heap.size w1 w2) : Below B w w2 := h.trans (k.mono hB)

/-- What is owned from 'B' on, written: below 'B' nothing turns. -/
theorem Upd.below {B : Nat} {w w' : World} {v v' : Value} (h : Upd w w' v v') (hB : B ≤ w.heap.size) (hv : ∀ k, v.ownBlock = some k → B ≤ k) : Below B w w' :=
  ⟨h.1.os, h.1.tape, h.1.output, h.1.size, fun k hk => h.1.block k (by omega) (fun e => by have := hv k e.symm; omega)⟩

theorem Upd.below_nil {w w' : World} {v' : Value} (h : Upd w w' (.slice none 0 0) v') : Below w.heap.size w w' := h.below (Nat.le_refl _) (by simp [Value.ownBlock])

theorem own_base {w : World} {base : Nat} {e : TypeId} {size n : Nat} {v : Value} {xs : List Value} (h : w.ownsRow base e size v n xs) : ∀ k, v.ownBlock = some k → base ≤ k := fun k hk => (h.lt k hk).1

theorem own_elem {w : World} {base : Nat} {e : TypeId} {size n : Nat} {v : Value} {xs : List Value} (h : w.ownsRow base e size v n xs) : ∀ k, v.ownBlock = some k → elemAt w k = some e := by
  intro k hk
  rcases h.2 with ⟨rfl, _⟩ | ⟨g, cap, cur, rfl, _, hh, _⟩
  · simp [Value.ownBlock] at hk
  · obtain rfl : g = k := by simpa [Value.ownBlock] using hk
    simp [elemAt, hh]

theorem own_alloc {w : World} {base : Nat} {e : TypeId} {size n : Nat} {v : Value} {xs : List Value} (h : w.ownsRow base e size v n xs) (o : Obj) : (w.alloc o).ownsRow base e size v n xs := h.alloc o

theorem own_below {w w' : World} {base : Nat} {e : TypeId} {size n : Nat} {v : Value} {xs : List Value} (h : w.ownsRow base e size v n xs) (k : Below w.heap.size w w') : w'.ownsRow base e size v n xs :=
  h.kept (row := none) ⟨k.os, k.tape, k.output, k.size, fun i hi _ => k.block i hi⟩ (by cases v.ownBlock <;> simp)

/-- A node lives on while a row of another type is written. -/
theorem Nd.upd {w w' : World} {T : NT} {p v v' : Value} {base : Nat} {e : TypeId} {size n : Nat} {xs : List Value} (h : Nd w T p) (hu : Upd w w' v v') (ho : w.ownsRow base e size v n xs) (he : e ≠ 98) : Nd w' T p :=
  h.grown hu.1 (fun k hk => by rw [own_elem ho k hk]; simpa using he)

/-- 'append(s, x)' of one element of some cells, which the walk has laid in a new block. -/
theorem walk_append1 {P : Program} {ops : Array Oper} {rest : List Oper} {o : Oper} {a : Act} {Q : Exit → Act → World → Prop} {W : World} {base : Nat} {e : TypeId} {size : Nat} {v : Value} {n : Nat} {xs : List Value}
    (HO : W.ownsRow base e size v n xs) (hbase : base ≤ W.heap.size) (hl : n + 1 ≤ 1000000000) (t : TypeId) (ht : P.underlying t = some (.slice e)) {z : Value} {bytes : Nat}
    (hinfo : (P.info? e).map (fun i => (i.zero, i.size, i.bytes)) = some (some z, size, bytes)) (hz : z.cells.size = size ∧ 0 < size ∧ bytes ≤ 1000)
    (cs : Array Value) (h1 : cs.size = size ∧ ∀ u ∈ cs.toList, u.oneCell' = true)
    {s x : Operand} {q : Nat} (hop : o.guard = none ∧ o.op = .call { callee := .builtin .append, args := #[s, x], argTypes := #[t, t] } ∧ a.eval s = v ∧ a.eval x = .slice (some ⟨q, 0, none⟩) 1 1 ∧ q = W.heap.size)
    (h : ∀ v1 w1, w1.ownsRow base e size v1 (n + 1) (xs ++ cs.toList) → Upd W w1 v v1 → wpList P ops Q rest (a.put o.dst v1) w1) :
    wpList P ops Q (o :: rest) a (W.alloc (.cells cs e)) := by
  obtain ⟨hgd, ho, hs, hx, rfl⟩ := hop
  obtain ⟨i0, hi, hz0, hz1, hz2⟩ := info_parts hinfo
  have hb : (n + 1) * bytes ≤ 1000000000 * 1000 := Nat.mul_le_mul hl hz.2.2
  refine wpList_append_own_at (W.alloc (.cells cs e)) hgd s x t ho base e i0 z size bytes ht hi hz0 hz1 hz2 hz.1 hz.2.1 v n xs hs (HO.alloc _) ⟨W.heap.size, 0, none⟩ 1 1 cs.toList hx (by simp [h1.1])
    ?_ h1.2 (by simp only [maxLen]; omega) (by omega) (by simp; omega) ?_
  · intro j u hj
    have hadd : (⟨W.heap.size, 0, none⟩ : Addr).add j = ⟨W.heap.size, j, none⟩ := by unfold Addr.add; split <;> simp_all
    rw [hadd, Nd.cell (heap_alloc_new W _) j]
    simpa using hj
  · intro v1 w1 hown hg _ hat
    refine h v1 w1 hown ⟨World.grownBy.trans (World.grownBy_alloc W _ _) hg, ?_⟩
    rcases hat with hat | hat
    · exact .inl hat
    · exact .inr ⟨_, hat, by simp⟩

/-- The same as one step of a region that draws its order. -/
theorem step_append1 {P : Program} {ops : Array Oper} {o : Oper} {a : Act} {K : Act → World → Prop} {Q : Exit → Act → World → Prop} {E : Prop} {W : World} {base : Nat} {e : TypeId} {size : Nat} {v : Value} {n : Nat} {xs : List Value}
    (HO : W.ownsRow base e size v n xs) (hbase : base ≤ W.heap.size) (hl : n + 1 ≤ 1000000000) (t : TypeId) (ht : P.underlying t = some (.slice e)) {z : Value} {bytes : Nat}
    (hinfo : (P.info? e).map (fun i => (i.zero, i.size, i.bytes)) = some (some z, size, bytes)) (hz : z.cells.size = size ∧ 0 < size ∧ bytes ≤ 1000)
    (cs : Array Value) (h1 : cs.size = size ∧ ∀ u ∈ cs.toList, u.oneCell' = true)
    {s x : Operand} {q : Nat} (hop : o.guard = none ∧ o.op = .call { callee := .builtin .append, args := #[s, x], argTypes := #[t, t] } ∧ a.eval s = v ∧ a.eval x = .slice (some ⟨q, 0, none⟩) 1 1 ∧ q = W.heap.size)
    (h : ∀ v1 w1, w1.ownsRow base e size v1 (n + 1) (xs ++ cs.toList) → Upd W w1 v v1 → K (a.put o.dst v1) w1) :
    if Region.wanted o (yielded ops a.tmps) = true then Oper.wp P o a (W.alloc (.cells cs e)) K Q else E := by
  obtain ⟨hgd, ho, hs, hx, rfl⟩ := hop
  obtain ⟨i0, hi, hz0, hz1, hz2⟩ := info_parts hinfo
  have hb : (n + 1) * bytes ≤ 1000000000 * 1000 := Nat.mul_le_mul hl hz.2.2
  refine step_append_lies (W.alloc (.cells cs e)) hgd s x t ho base e i0 z size bytes ht hi hz0 hz1 hz2 hz.1 hz.2.1 v n xs hs (HO.alloc _) ⟨W.heap.size, 0, none⟩ 1 1 cs.toList hx (by simp [h1.1])
    ?_ h1.2 (by omega) (by simp only [maxLen]; omega) (by omega) (by simp; omega) _ rfl ?_
  · intro j u hj
    have hadd : (⟨W.heap.size, 0, none⟩ : Addr).add j = ⟨W.heap.size, j, none⟩ := by unfold Addr.add; split <;> simp_all
    rw [hadd, Nd.cell (heap_alloc_new W _) j]
    simpa using hj
  · intro g cap w1 hown hg hat _
    refine h _ w1 hown ⟨World.grownBy.trans (World.grownBy_alloc W _ _) hg, ?_⟩
    rcases hat with hat | hat
    · exact .inl hat.symm
    · exact .inr ⟨g, rfl, by rw [hat]; simp⟩

theorem own_slice {w : World} {base n : Nat} {e : TypeId} {size : Nat} {v : Value} {xs : List Value} (h : w.ownsRow base e size v n xs) : ∃ A c, v = .slice A n c ∧ n ≤ c := by
  rcases h.2 with ⟨rfl, rfl⟩ | ⟨g, cap, cur, rfl, _, _, hc, _⟩
  · exact ⟨none, 0, rfl, Nat.le_refl _⟩
  · exact ⟨_, cap, rfl, hc⟩

/-! ### Branches -/
structure Br where
  leaf : Int
  a : Int
  b : Int
deriving DecidableEq, Repr

def Br.cells (x : Br) : List Value := [.int .i64 x.leaf, .int .i64 x.a, .int .i64 x.b]
def brs (xs : List Br) : List Value := xs.flatMap Br.cells

theorem brs_nil : brs [] = [] := rfl
theorem brs_append (xs ys : List Br) : brs (xs ++ ys) = brs xs ++ brs ys := by simp [brs]
theorem brs_snoc (xs : List Br) (x : Br) : brs (xs ++ [x]) = brs xs ++ x.cells := by simp [brs]
theorem brs_length (xs : List Br) : (brs xs).length = xs.length * 3 := by
  induction xs with
  | nil => rfl
  | cons x xs ih => simp only [brs, List.flatMap_cons, List.length_append] at *; simp [Br.cells, ih]; omega

/-- How many branches a part has. -/
def NT.size : NT → Nat
  | .leaf _ => 1
  | .fork a b => a.size + b.size + 1

/-- The branches of a part's form, behind 'base' others. -/
def NT.form : NT → Nat → List Br
  | .leaf k, _ => [⟨k, 0, 0⟩]
  | .fork a b, base => a.form base ++ b.form (base + a.size) ++ [⟨0, ((base + a.size : Nat) : Int) - 1, ((base + a.size + b.size : Nat) : Int) - 1⟩]

theorem NT.size_pos (T : NT) : 0 < T.size := by cases T <;> simp [NT.size]

theorem NT.form_length : ∀ (T : NT) (base : Nat), (T.form base).length = T.size
  | .leaf _, _ => rfl
  | .fork a b, base => by simp [NT.form, NT.size, NT.form_length a, NT.form_length b]; omega

theorem one3 (a b c : Int) : (#[.int .i64 a, .int .i64 b, .int .i64 c] : Array Value).size = 3 ∧ ∀ u ∈ (#[.int .i64 a, .int .i64 b, .int .i64 c] : Array Value).toList, u.oneCell' = true := by
  refine ⟨rfl, ?_⟩
  intro u hu
  simp at hu
  rcases hu with rfl | rfl | rfl <;> rfl

theorem own_mono {w : World} {base base' : Nat} {e : TypeId} {size n : Nat} {v : Value} {xs : List Value} (h : w.ownsRow base e size v n xs) (hb : base' ≤ base) : w.ownsRow base' e size v n xs := by
  refine ⟨h.1, ?_⟩
  rcases h.2 with h2 | ⟨g, cap, cur, hv, hg, r⟩
  · exact .inl h2
  · exact .inr ⟨g, cap, cur, hv, Nat.le_trans hb hg, r⟩

/-- A block that a call of ours has made reads as before behind what keeps old blocks. -/
theorem cell_below {B : Nat} {w w' : World} (h : Below B w w') {b j : Nat} (hb : b < B) {v : Value} (hc : w.cell? ⟨b, j, none⟩ = some v) : w'.cell? ⟨b, j, none⟩ = some v := (h.cell (p := ⟨b, j, none⟩) hb).trans hc
theorem frozen_below {B : Nat} {w w' : World} (h : Below B w w') {b j : Nat} (hb : b < B) {v : Bool} (hc : w.frozen? ⟨b, j, none⟩ = v) : w'.frozen? ⟨b, j, none⟩ = v := (h.frozen (p := ⟨b, j, none⟩) hb).trans hc

theorem new_cell (w : World) (cs : Array Value) (e : TypeId) (j : Nat) : (w.alloc (.cells cs e)).cell? ⟨w.heap.size, j, none⟩ = cs[j]? := Nd.cell (alloc_at w _) j
theorem new_frozen (w : World) (cs : Array Value) (e : TypeId) (j : Nat) : (w.alloc (.cells cs e)).frozen? ⟨w.heap.size, j, none⟩ = false := by
  have h := alloc_at w (.cells cs e)
  simp only [World.frozen?, h]
  simp

/-- Into a box of the call's own. -/
theorem below_set {B : Nat} {w w1 : World} (h : Below B w w1) {b : Nat} (hb : B ≤ b) (j : Nat) (u : Value) : Below B w (w1.setCell ⟨b, j, none⟩ u) := h.setCell hb u
theorem set_cell_eq {w : World} {b j : Nat} {v : Value} (h : w.cell? ⟨b, j, none⟩ = some v) (u : Value) : (w.setCell ⟨b, j, none⟩ u).cell? ⟨b, j, none⟩ = some u := by
  simp only [World.cell?, World.setCell, Array.getElem?_modify] at *
  cases hh : w.heap[b]? with
  | none => simp [hh] at h
  | some o =>
    rw [hh] at h
    cases o <;> simp at h ⊢
    rw [Array.getElem?_setIfInBounds_self_of_lt (Array.getElem?_eq_some_iff.1 h).1]

/-! ### Branches that are read -/

/-- The branches lie at 'A', one behind the other. -/
def RdBr (w : World) (A : Option Addr) (xs : List Br) : Prop :=
  ∀ i x, xs[i]? = some x → ∃ ad, A = some ad ∧ w.cell? (ad.add (i * 3)) = some (.int .i64 x.leaf) ∧ w.cell? ⟨(ad.add (i * 3)).block, (ad.add (i * 3)).off + 1, none⟩ = some (.int .i64 x.a) ∧
    w.cell? ⟨(ad.add (i * 3)).block, (ad.add (i * 3)).off + 2, none⟩ = some (.int .i64 x.b)

theorem RdBr.below {w w' : World} {A : Option Addr} {xs : List Br} (h : RdBr w A xs) (hb : Below w.heap.size w w') : RdBr w' A xs := by
  intro i x hx
  obtain ⟨ad, rfl, h0, h1, h2⟩ := h i x hx
  have hl := World.block_lt_of_cell? w _ h0
  exact ⟨ad, rfl, (hb.cell hl).trans h0, (hb.cell (p := ⟨(ad.add (i * 3)).block, _, none⟩) hl).trans h1, (hb.cell (p := ⟨(ad.add (i * 3)).block, _, none⟩) hl).trans h2⟩

theorem cells_of_own {w : World} {base n : Nat} {e : TypeId} {size : Nat} {v : Value} {xs : List Value} (h : w.ownsRow base e size v n xs) : ∃ A c, v = .slice A n c ∧ n ≤ c ∧ ∀ j u, xs[j]? = some u → ∃ g, A = some ⟨g, 0, none⟩ ∧ w.cell? ⟨g, j, none⟩ = some u := by
  obtain ⟨A, c, rfl, hc⟩ := own_slice h
  refine ⟨A, c, rfl, hc, fun j u hu => ?_⟩
  rcases h.2 with ⟨h1, rfl⟩ | ⟨g, cap, cur, h1, _, hh, _, _, _, htake⟩
  · have := h.1
    have hj := (List.getElem?_eq_some_iff.1 hu).1
    omega
  · obtain ⟨rfl, _⟩ : A = some ⟨g, 0, none⟩ ∧ c = cap := by simpa using h1
    refine ⟨g, rfl, ?_⟩
    rw [Nd.cell hh]
    rw [← htake, List.getElem?_take] at hu
    split at hu
    · simpa using hu
    · cases hu

theorem brs_get : ∀ (xs : List Br) (i : Nat) (x : Br), xs[i]? = some x → (brs xs)[i * 3]? = some (.int .i64 x.leaf) ∧ (brs xs)[i * 3 + 1]? = some (.int .i64 x.a) ∧ (brs xs)[i * 3 + 2]? = some (.int .i64 x.b)
  | [], _, _, h => by simp at h
  | y :: ys, 0, x, h => by
    simp at h
    subst h
    simp [brs, Br.cells]
  | y :: ys, i + 1, x, h => by
    have ih := brs_get ys i x (by simpa using h)
    have e : brs (y :: ys) = y.cells ++ brs ys := by simp [brs]
    have hl : y.cells.length = 3 := rfl
    refine ⟨?_, ?_, ?_⟩ <;> rw [e, List.getElem?_append_right (by omega), hl]
    · rw [show (i + 1) * 3 - 3 = i * 3 by omega]; exact ih.1
    · rw [show (i + 1) * 3 + 1 - 3 = i * 3 + 1 by omega]; exact ih.2.1
    · rw [show (i + 1) * 3 + 2 - 3 = i * 3 + 2 by omega]; exact ih.2.2

theorem add_plain (g j : Nat) : (⟨g, 0, none⟩ : Addr).add j = ⟨g, j, none⟩ := by unfold Addr.add; split <;> simp_all

theorem own_rd {w : World} {base n c : Nat} {A : Option Addr} {xs : List Br} (h : w.ownsRow base 64 3 (.slice A n c) n (brs xs)) : RdBr w A xs ∧ xs.length = n := by
  obtain ⟨A', c', he, hc, hcell⟩ := cells_of_own h
  obtain ⟨rfl, rfl⟩ : A = A' ∧ c = c' := by simpa using he
  refine ⟨fun i x hx => ?_, ?_⟩
  · obtain ⟨h0, h1, h2⟩ := brs_get xs i x hx
    obtain ⟨g, rfl, c0⟩ := hcell _ _ h0
    obtain ⟨g1, e1, c1⟩ := hcell _ _ h1
    obtain ⟨g2, e2, c2⟩ := hcell _ _ h2
    obtain rfl : g = g1 := by simpa using e1
    obtain rfl : g = g2 := by simpa using e2
    exact ⟨_, rfl, by rw [add_plain]; exact c0, by rw [add_plain]; exact c1, by rw [add_plain]; exact c2⟩
  · have := h.1
    rw [brs_length] at this
    omega
end Go.Proofs.Ytbmlkomfelkckaa
