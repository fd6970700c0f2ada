/- Memory words of a seat without trees: rows of numbers, rows of rows; slices.Clone and slices.Sort. Printed out of the tree seat's texts by gen/rkmem.py. -/
import Derived.Test.YteonpfomlmfkjaaProg
import Derived.WalkKit
import Derived.WalkSpells
import Derived.Lib.Hide
import Derived.Maps.AppendAt
import Derived.Laws.MakeOwn
import Derived.Deep.AppendLies
import Derived.Deep.LoopGhost
import Derived.Deep.Draws
import Derived.KernelRfl
import Derived.RowKit
import Derived.Shelf.Lays
import Derived.Shelf.Sort.Plain
import Derived.Lib.SortBridge
import Derived.Lib.SliceRun
import Derived.Deep.OwnRows
namespace Go.Proofs.Yteonpfomlmfkjaa
open Go Go.RowKit Go.Sort
set_option maxRecDepth 100000

/-- The element type of a block, where it is one of cells. -/
def elemAt (w : World) (b : Nat) : Option TypeId := match w.heap[b]? with | some (.cells _ e _) => some e | _ => none

theorem Nd.cell {w : World} {b : Nat} {cs : Array Value} {e : TypeId} {fr : Nat × Nat} (h : w.heap[b]? = some (.cells cs e fr)) (j : Nat) : w.cell? ⟨b, j, none⟩ = cs[j]? := by simp [World.cell?, h]

theorem alloc_at (w : World) (o : Obj) : (w.alloc o).heap[w.heap.size]? = some o := heap_alloc_new w o

/-! ### A row of the call's own that is appended to -/

/-- What an append (or what appends alone) to the row 'v' leaves: other blocks stand; the row stays where it was, or lies in a new block. -/
def Upd (w w' : World) (v v' : Value) : Prop := w.grownBy w' v.ownBlock ∧ (v'.ownBlock = v.ownBlock ∨ ∃ b, v'.ownBlock = some b ∧ w.heap.size ≤ b)

theorem Upd.refl (w : World) (v : Value) : Upd w w v v := ⟨⟨rfl, rfl, rfl, Nat.le_refl _, fun _ _ _ => rfl⟩, .inl rfl⟩

theorem Upd.trans {w w1 w2 : World} {v v1 v2 : Value} (h : Upd w w1 v v1) (k : Upd w1 w2 v1 v2) : Upd w w2 v v2 := by
  obtain ⟨hg, ho⟩ := h
  obtain ⟨kg, ko⟩ := k
  refine ⟨⟨kg.os.trans hg.os, kg.tape.trans hg.tape, kg.output.trans hg.output, Nat.le_trans hg.size kg.size, fun i hi hne => ?_⟩, ?_⟩
  · have h1 := hg.block i hi hne
    refine (kg.block i (Nat.lt_of_lt_of_le hi hg.size) ?_).trans h1
    rcases ho with ho | ⟨b, hb, hge⟩
    · rw [ho]; exact hne
    · rw [hb]
      intro e
      have : i = b := by simpa using e
      omega
  · have hs := hg.size
    rcases ko with ko | ⟨b, hb, hge⟩
    · rw [ko]; exact ho
    · exact .inr ⟨b, hb, by omega⟩

/-- A step beside the row: draws, new blocks. -/
theorem Upd.beside {w w1 w2 : World} {v v1 : Value} (h : Upd w w1 v v1) (k : Below w1.heap.size w1 w2) : Upd w w2 v v1 :=
  h.trans ⟨⟨k.os, k.tape, k.output, k.size, fun i hi _ => k.block i hi⟩, .inl rfl⟩

theorem below_drewN (w : World) (n : Nat) : Below w.heap.size w (w.drewN n) := ⟨rfl, rfl, rfl, Nat.le_refl _, fun _ _ => rfl⟩

theorem below_alloc (w : World) (o : Obj) : Below w.heap.size w (w.alloc o) := (Below.refl _ _).alloc (Nat.le_refl _) o

theorem Below.then {B : Nat} {w w1 w2 : World} (h : Below B w w1) (hB : B ≤ w1.heap.size) (k : Below w1.heap.size w1 w2) : Below B w w2 := h.trans (k.mono hB)

/-- What is owned from 'B' on, written: below 'B' nothing turns. -/
theorem Upd.below {B : Nat} {w w' : World} {v v' : Value} (h : Upd w w' v v') (hB : B ≤ w.heap.size) (hv : ∀ k, v.ownBlock = some k → B ≤ k) : Below B w w' :=
  ⟨h.1.os, h.1.tape, h.1.output, h.1.size, fun k hk => h.1.block k (by omega) (fun e => by have := hv k e.symm; omega)⟩

theorem Upd.below_nil {w w' : World} {v' : Value} (h : Upd w w' (.slice none 0 0) v') : Below w.heap.size w w' := h.below (Nat.le_refl _) (by simp [Value.ownBlock])

theorem own_base {w : World} {base : Nat} {e : TypeId} {size n : Nat} {v : Value} {xs : List Value} (h : w.ownsRow base e size v n xs) : ∀ k, v.ownBlock = some k → base ≤ k := fun k hk => (h.lt k hk).1

theorem own_elem {w : World} {base : Nat} {e : TypeId} {size n : Nat} {v : Value} {xs : List Value} (h : w.ownsRow base e size v n xs) : ∀ k, v.ownBlock = some k → elemAt w k = some e := by
  intro k hk
  rcases h.2 with ⟨rfl, _⟩ | ⟨g, cap, cur, rfl, _, hh, _⟩
  · simp [Value.ownBlock] at hk
  · obtain rfl : g = k := by simpa [Value.ownBlock] using hk
    simp [elemAt, hh]

theorem own_alloc {w : World} {base : Nat} {e : TypeId} {size n : Nat} {v : Value} {xs : List Value} (h : w.ownsRow base e size v n xs) (o : Obj) : (w.alloc o).ownsRow base e size v n xs := h.alloc o

theorem own_below {w w' : World} {base : Nat} {e : TypeId} {size n : Nat} {v : Value} {xs : List Value} (h : w.ownsRow base e size v n xs) (k : Below w.heap.size w w') : w'.ownsRow base e size v n xs :=
  h.kept (row := none) ⟨k.os, k.tape, k.output, k.size, fun i hi _ => k.block i hi⟩ (by cases v.ownBlock <;> simp)

/-- 'append(s, x)' of one element of some cells, which the walk has laid in a new block. -/
theorem walk_append1 {P : Program} {ops : Array Oper} {rest : List Oper} {o : Oper} {a : Act} {Q : Exit → Act → World → Prop} {W : World} {base : Nat} {e : TypeId} {size : Nat} {v : Value} {n : Nat} {xs : List Value}
    (HO : W.ownsRow base e size v n xs) (hbase : base ≤ W.heap.size) (hl : n + 1 ≤ 1000000000) (t : TypeId) (ht : P.underlying t = some (.slice e)) {z : Value} {bytes : Nat}
    (hinfo : (P.info? e).map (fun i => (i.zero, i.size, i.bytes)) = some (some z, size, bytes)) (hz : z.cells.size = size ∧ 0 < size ∧ bytes ≤ 1000)
    (cs : Array Value) (h1 : cs.size = size ∧ ∀ u ∈ cs.toList, u.oneCell' = true)
    {s x : Operand} {q : Nat} (hop : o.guard = none ∧ o.op = .call { callee := .builtin .append, args := #[s, x], argTypes := #[t, t] } ∧ a.eval s = v ∧ a.eval x = .slice (some ⟨q, 0, none⟩) 1 1 ∧ q = W.heap.size)
    (h : ∀ v1 w1, w1.ownsRow base e size v1 (n + 1) (xs ++ cs.toList) → Upd W w1 v v1 → wpList P ops Q rest (a.put o.dst v1) w1) :
    wpList P ops Q (o :: rest) a (W.alloc (.cells cs e)) := by
  obtain ⟨hgd, ho, hs, hx, rfl⟩ := hop
  obtain ⟨i0, hi, hz0, hz1, hz2⟩ := info_parts hinfo
  have hb : (n + 1) * bytes ≤ 1000000000 * 1000 := Nat.mul_le_mul hl hz.2.2
  refine wpList_append_own_at (W.alloc (.cells cs e)) hgd s x t ho base e i0 z size bytes ht hi hz0 hz1 hz2 hz.1 hz.2.1 v n xs hs (HO.alloc _) ⟨W.heap.size, 0, none⟩ 1 1 cs.toList hx (by simp [h1.1])
    ?_ h1.2 (by simp only [maxLen]; omega) (by omega) (by simp; omega) ?_
  · intro j u hj
    have hadd : (⟨W.heap.size, 0, none⟩ : Addr).add j = ⟨W.heap.size, j, none⟩ := by unfold Addr.add; split <;> simp_all
    rw [hadd, Nd.cell (heap_alloc_new W _) j]
    simpa using hj
  · intro v1 w1 hown hg _ hat
    refine h v1 w1 hown ⟨World.grownBy.trans (World.grownBy_alloc W _ _) hg, ?_⟩
    rcases hat with hat | hat
    · exact .inl hat
    · exact .inr ⟨_, hat, by simp⟩

/-- The same as one step of a region that draws its order. -/
theorem step_append1 {P : Program} {ops : Array Oper} {o : Oper} {a : Act} {K : Act → World → Prop} {Q : Exit → Act → World → Prop} {E : Prop} {W : World} {base : Nat} {e : TypeId} {size : Nat} {v : Value} {n : Nat} {xs : List Value}
    (HO : W.ownsRow base e size v n xs) (hbase : base ≤ W.heap.size) (hl : n + 1 ≤ 1000000000) (t : TypeId) (ht : P.underlying t = some (.slice e)) {z : Value} {bytes : Nat}
    (hinfo : (P.info? e).map (fun i => (i.zero, i.size, i.bytes)) = some (some z, size, bytes)) (hz : z.cells.size = size ∧ 0 < size ∧ bytes ≤ 1000)
    (cs : Array Value) (h1 : cs.size = size ∧ ∀ u ∈ cs.toList, u.oneCell' = true)
    {s x : Operand} {q : Nat} (hop : o.guard = none ∧ o.op = .call { callee := .builtin .append, args := #[s, x], argTypes := #[t, t] } ∧ a.eval s = v ∧ a.eval x = .slice (some ⟨q, 0, none⟩) 1 1 ∧ q = W.heap.size)
    (h : ∀ v1 w1, w1.ownsRow base e size v1 (n + 1) (xs ++ cs.toList) → Upd W w1 v v1 → K (a.put o.dst v1) w1) :
    if Region.wanted o (yielded ops a.tmps) = true then Oper.wp P o a (W.alloc (.cells cs e)) K Q else E := by
  obtain ⟨hgd, ho, hs, hx, rfl⟩ := hop
  obtain ⟨i0, hi, hz0, hz1, hz2⟩ := info_parts hinfo
  have hb : (n + 1) * bytes ≤ 1000000000 * 1000 := Nat.mul_le_mul hl hz.2.2
  refine step_append_lies (W.alloc (.cells cs e)) hgd s x t ho base e i0 z size bytes ht hi hz0 hz1 hz2 hz.1 hz.2.1 v n xs hs (HO.alloc _) ⟨W.heap.size, 0, none⟩ 1 1 cs.toList hx (by simp [h1.1])
    ?_ h1.2 (by omega) (by simp only [maxLen]; omega) (by omega) (by simp; omega) _ rfl ?_
  · intro j u hj
    have hadd : (⟨W.heap.size, 0, none⟩ : Addr).add j = ⟨W.heap.size, j, none⟩ := by unfold Addr.add; split <;> simp_all
    rw [hadd, Nd.cell (heap_alloc_new W _) j]
    simpa using hj
  · intro g cap w1 hown hg hat _
    refine h _ w1 hown ⟨World.grownBy.trans (World.grownBy_alloc W _ _) hg, ?_⟩
    rcases hat with hat | hat
    · exact .inl hat.symm
    · exact .inr ⟨g, rfl, by rw [hat]; simp⟩

theorem own_slice {w : World} {base n : Nat} {e : TypeId} {size : Nat} {v : Value} {xs : List Value} (h : w.ownsRow base e size v n xs) : ∃ A c, v = .slice A n c ∧ n ≤ c := by
  rcases h.2 with ⟨rfl, rfl⟩ | ⟨g, cap, cur, rfl, _, _, hc, _⟩
  · exact ⟨none, 0, rfl, Nat.le_refl _⟩
  · exact ⟨_, cap, rfl, hc⟩

/-! ### Branches -/

theorem own_mono {w : World} {base base' : Nat} {e : TypeId} {size n : Nat} {v : Value} {xs : List Value} (h : w.ownsRow base e size v n xs) (hb : base' ≤ base) : w.ownsRow base' e size v n xs := by
  refine ⟨h.1, ?_⟩
  rcases h.2 with h2 | ⟨g, cap, cur, hv, hg, r⟩
  · exact .inl h2
  · exact .inr ⟨g, cap, cur, hv, Nat.le_trans hb hg, r⟩

/-- A block that a call of ours has made reads as before behind what keeps old blocks. -/
theorem cell_below {B : Nat} {w w' : World} (h : Below B w w') {b j : Nat} (hb : b < B) {v : Value} (hc : w.cell? ⟨b, j, none⟩ = some v) : w'.cell? ⟨b, j, none⟩ = some v := (h.cell (p := ⟨b, j, none⟩) hb).trans hc

theorem frozen_below {B : Nat} {w w' : World} (h : Below B w w') {b j : Nat} (hb : b < B) {v : Bool} (hc : w.frozen? ⟨b, j, none⟩ = v) : w'.frozen? ⟨b, j, none⟩ = v := (h.frozen (p := ⟨b, j, none⟩) hb).trans hc

theorem new_cell (w : World) (cs : Array Value) (e : TypeId) (j : Nat) : (w.alloc (.cells cs e)).cell? ⟨w.heap.size, j, none⟩ = cs[j]? := Nd.cell (alloc_at w _) j

theorem new_frozen (w : World) (cs : Array Value) (e : TypeId) (j : Nat) : (w.alloc (.cells cs e)).frozen? ⟨w.heap.size, j, none⟩ = false := by
  have h := alloc_at w (.cells cs e)
  simp only [World.frozen?, h]
  simp

/-- Into a box of the call's own. -/
theorem below_set {B : Nat} {w w1 : World} (h : Below B w w1) {b : Nat} (hb : B ≤ b) (j : Nat) (u : Value) : Below B w (w1.setCell ⟨b, j, none⟩ u) := h.setCell hb u

theorem set_cell_eq {w : World} {b j : Nat} {v : Value} (h : w.cell? ⟨b, j, none⟩ = some v) (u : Value) : (w.setCell ⟨b, j, none⟩ u).cell? ⟨b, j, none⟩ = some u := by
  simp only [World.cell?, World.setCell, Array.getElem?_modify] at *
  cases hh : w.heap[b]? with
  | none => simp [hh] at h
  | some o =>
    rw [hh] at h
    cases o <;> simp at h ⊢
    rw [Array.getElem?_setIfInBounds_self_of_lt (Array.getElem?_eq_some_iff.1 h).1]

/-! ### Branches that are read -/

theorem cells_of_own {w : World} {base n : Nat} {e : TypeId} {size : Nat} {v : Value} {xs : List Value} (h : w.ownsRow base e size v n xs) : ∃ A c, v = .slice A n c ∧ n ≤ c ∧ ∀ j u, xs[j]? = some u → ∃ g, A = some ⟨g, 0, none⟩ ∧ w.cell? ⟨g, j, none⟩ = some u := by
  obtain ⟨A, c, rfl, hc⟩ := own_slice h
  refine ⟨A, c, rfl, hc, fun j u hu => ?_⟩
  rcases h.2 with ⟨h1, rfl⟩ | ⟨g, cap, cur, h1, _, hh, _, _, _, htake⟩
  · have := h.1
    have hj := (List.getElem?_eq_some_iff.1 hu).1
    omega
  · obtain ⟨rfl, _⟩ : A = some ⟨g, 0, none⟩ ∧ c = cap := by simpa using h1
    refine ⟨g, rfl, ?_⟩
    rw [Nd.cell hh]
    rw [← htake, List.getElem?_take] at hu
    split at hu
    · simpa using hu
    · cases hu

theorem add_plain (g j : Nat) : (⟨g, 0, none⟩ : Addr).add j = ⟨g, j, none⟩ := by unfold Addr.add; split <;> simp_all

/-- Whole numbers at 'A', one behind the other. -/
def RdInt (w : World) (A : Option Addr) (xs : List Int) : Prop :=
  ∀ (i : Nat) (x : Int), xs[i]? = some x → ∃ ad, A = some ad ∧ w.cell? (ad.add i) = some (.int .i64 x)

theorem RdInt.below {w w' : World} {A : Option Addr} {xs : List Int} (h : RdInt w A xs) (hb : Below w.heap.size w w') : RdInt w' A xs := by
  intro i x hx
  obtain ⟨ad, rfl, h0⟩ := h i x hx
  exact ⟨ad, rfl, (hb.cell (World.block_lt_of_cell? w _ h0)).trans h0⟩

theorem info_intB : (Try.prog.info? 3).map (fun i => (i.zero, i.size, i.bytes)) = some (some (.int .i64 0), 1, 8) := by kernel_rfl

/-- Where an own row's cells lie. -/
theorem own_at {w : World} {base n c : Nat} {e : TypeId} {size : Nat} {A : Option Addr} {xs : List Value} (h : w.ownsRow base e size (.slice A n c) n xs) (hn : 0 < n) : ∃ g, A = some ⟨g, 0, none⟩ ∧ g < w.heap.size ∧ base ≤ g ∧ ∀ j u, xs[j]? = some u → w.cell? ((⟨g, 0, none⟩ : Addr).add j) = some u := by
  rcases h.2 with ⟨_, h1⟩ | ⟨g, cap, cur, h1, hg, hh, _⟩
  · omega
  · obtain ⟨A', c', he, _, hc⟩ := cells_of_own h
    obtain ⟨rfl, rfl⟩ : A = A' ∧ c = c' := by simpa using he
    obtain ⟨rfl, _⟩ : A = some ⟨g, 0, none⟩ ∧ c = cap := by simpa using h1
    refine ⟨g, rfl, (Array.getElem?_eq_some_iff.1 hh).1, hg, fun j u hu => ?_⟩
    obtain ⟨g', hg', hcell⟩ := hc j u hu
    obtain rfl : g = g' := by simpa using hg'
    rw [add_plain]
    exact hcell

/-- 'append(s, x...)' of an own row, at the walk. -/
theorem walk_appendRow {P : Program} {ops : Array Oper} {rest : List Oper} {o : Oper} {a : Act} {Q : Exit → Act → World → Prop} {W : World} {base base2 : Nat} {e : TypeId} {size : Nat} {v : Value} {n m c2 : Nat} {A2 : Option Addr} {xs ys : List Value}
    (HO : W.ownsRow base e size v n xs) (HO2 : W.ownsRow base2 e size (.slice A2 m c2) m ys) (hm : 0 < m) (hbase : base ≤ W.heap.size) (hl : n + m ≤ 1000000000) (t : TypeId) (ht : P.underlying t = some (.slice e)) {z : Value} {bytes : Nat}
    (hinfo : (P.info? e).map (fun i => (i.zero, i.size, i.bytes)) = some (some z, size, bytes)) (hz : z.cells.size = size ∧ 0 < size ∧ bytes ≤ 1000) (h1 : ∀ u ∈ ys, u.oneCell' = true)
    {s x : Operand} (hop : o.guard = none ∧ o.op = .call { callee := .builtin .append, args := #[s, x], argTypes := #[t, t] } ∧ a.eval s = v ∧ a.eval x = .slice A2 m c2)
    (h : ∀ v1 w1, w1.ownsRow base e size v1 (n + m) (xs ++ ys) → Upd W w1 v v1 → wpList P ops Q rest (a.put o.dst v1) w1) :
    wpList P ops Q (o :: rest) a W := by
  obtain ⟨hgd, ho, hs, hx⟩ := hop
  obtain ⟨g, rfl, _, _, hc⟩ := own_at HO2 hm
  obtain ⟨i0, hi, hz0, hz1, hz2⟩ := info_parts hinfo
  have hb : (n + m) * bytes ≤ 1000000000 * 1000 := Nat.mul_le_mul hl hz.2.2
  refine wpList_append_own_at W hgd s x t ho base e i0 z size bytes ht hi hz0 hz1 hz2 hz.1 hz.2.1 v n xs hs HO ⟨g, 0, none⟩ m c2 ys hx HO2.1 hc h1 (by simp only [maxLen]; omega) (by omega) hbase ?_
  intro v1 w1 hown hg _ hat
  refine h v1 w1 hown ⟨hg, ?_⟩
  rcases hat with hat | hat
  · exact .inl hat
  · exact .inr ⟨_, hat, Nat.le_refl _⟩

/-- The same as one step of a region that draws its order. -/
theorem step_appendRow {P : Program} {ops : Array Oper} {o : Oper} {a : Act} {K : Act → World → Prop} {Q : Exit → Act → World → Prop} {E : Prop} {W : World} {base base2 : Nat} {e : TypeId} {size : Nat} {v : Value} {n m c2 : Nat} {A2 : Option Addr} {xs ys : List Value}
    (HO : W.ownsRow base e size v n xs) (HO2 : W.ownsRow base2 e size (.slice A2 m c2) m ys) (hm : 0 < m) (hbase : base ≤ W.heap.size) (hl : n + m ≤ 1000000000) (t : TypeId) (ht : P.underlying t = some (.slice e)) {z : Value} {bytes : Nat}
    (hinfo : (P.info? e).map (fun i => (i.zero, i.size, i.bytes)) = some (some z, size, bytes)) (hz : z.cells.size = size ∧ 0 < size ∧ bytes ≤ 1000) (h1 : ∀ u ∈ ys, u.oneCell' = true)
    {s x : Operand} (hop : o.guard = none ∧ o.op = .call { callee := .builtin .append, args := #[s, x], argTypes := #[t, t] } ∧ a.eval s = v ∧ a.eval x = .slice A2 m c2)
    (h : ∀ v1 w1, w1.ownsRow base e size v1 (n + m) (xs ++ ys) → Upd W w1 v v1 → K (a.put o.dst v1) w1) :
    if Region.wanted o (yielded ops a.tmps) = true then Oper.wp P o a W K Q else E := by
  obtain ⟨hgd, ho, hs, hx⟩ := hop
  obtain ⟨g, rfl, _, _, hc⟩ := own_at HO2 hm
  obtain ⟨i0, hi, hz0, hz1, hz2⟩ := info_parts hinfo
  have hb : (n + m) * bytes ≤ 1000000000 * 1000 := Nat.mul_le_mul hl hz.2.2
  refine step_append_lies W hgd s x t ho base e i0 z size bytes ht hi hz0 hz1 hz2 hz.1 hz.2.1 v n xs hs HO ⟨g, 0, none⟩ m c2 ys hx HO2.1 hc h1 hm (by simp only [maxLen]; omega) (by omega) hbase _ rfl ?_
  intro g' cap w1 hown hg hat _
  refine h _ w1 hown ⟨hg, ?_⟩
  rcases hat with hat | hat
  · exact .inl hat.symm
  · exact .inr ⟨g', rfl, Nat.le_of_eq hat.symm⟩

/-- A row that was laid by the call itself, as an own row. -/
theorem own_new (w : World) (cs : Array Value) (e : TypeId) (size n base : Nat) (hb : base ≤ w.heap.size) (hs : cs.size = n * size) (hn : n ≤ 1000000000) :
    (w.alloc (.cells cs e)).ownsRow base e size (.slice (some ⟨w.heap.size, 0, none⟩) n n) n cs.toList :=
  ⟨by simpa using hs, .inr ⟨w.heap.size, n, cs, rfl, hb, alloc_at w _, Nat.le_refl _, by simp only [maxLen]; omega, hs, by rw [← hs]; first | exact (List.take_of_length_le (Nat.le_refl _)).symm | exact (List.take_of_length_le (Nat.le_refl _)) | simp⟩⟩

/-- Whole numbers as cells. -/
def intCells (l : List Int) : List Value := l.map (Value.int .i64)

theorem intCells_one (l : List Int) : ∀ u ∈ intCells l, u.oneCell' = true := by
  intro u hu
  obtain ⟨k, _, rfl⟩ := List.mem_map.1 hu
  rfl

theorem intCells_append (l m : List Int) : intCells (l ++ m) = intCells l ++ intCells m := List.map_append

theorem intCells_length (l : List Int) : (intCells l).length = l.length := by simp [intCells]

/-- What a call that makes a row of these whole numbers leaves. -/
def RetInts (w : World) (n : Nat) (l : List Int) (e : Ending) (w' : World) : Prop :=
  ∃ A c, e = .returned (.slice A n c) ∧ w'.ownsRow w.heap.size 3 1 (.slice A n c) n (intCells l) ∧ Below w.heap.size w w'

set_option maxHeartbeats 1000000 in
theorem clone_calls (A : Option Addr) (n c b : Nat) (l : List Int) (w : World) (o : w.ownsRow b 3 1 (.slice A n c) n (intCells l)) (h : 0 < n) (k : n ≤ 1000000000) :
    Calls Try.prog 23 #[.slice A n c] w (RetInts w n l) := by
  have hsl := fun (W : World) (a : Addr) (k q : Nat) => Lib.run_eql_slice_nil (P := Try.prog) W 25 3 (some a) k q 0 0 Try.underlying25
  simp only [Option.isNone_some] at hsl
  obtain ⟨g, rfl, hg, _, _⟩ := own_at o h
  have O := Lib.hid o
  clear o
  go_enter Try.func23, Try.ntmps23
  go_wp2_with (at_builtin; refine walk_appendRow (own_new w #[] 3 1 0 w.heap.size (Nat.le_refl _) rfl (by omega)) (O.out.alloc _) h (by simp) (by omega) 25 Try.underlying25 info_intB ⟨rfl, by decide, by decide⟩ (intCells_one _) (by exact ⟨rfl, rfl, rfl, rfl⟩) ?_; intro v1 w2 ho2 hu2)
  simp only [Nat.zero_add, List.nil_append] at ho2
  obtain ⟨A3, c3, rfl, _⟩ := own_slice ho2
  go_ret
  refine ⟨A3, c3, rfl, ho2, (below_alloc w _).trans (hu2.below (by simp) (by simp [Value.ownBlock]))⟩

/-- Numbers, sorted. -/
def sortI (l : List Int) : List Int := l.mergeSort fun x y => decide (x ≤ y)

theorem sortI_perm (l : List Int) : (sortI l).Perm l := List.mergeSort_perm _ _

theorem sortI_sorted (l : List Int) : (sortI l).Pairwise (· ≤ ·) := by
  have h := List.pairwise_mergeSort (le := fun x y : Int => decide (x ≤ y)) (by intro a b c h1 h2; simp at *; omega) (by intro a b; simp; omega) l
  exact h.imp (fun h => by simpa using h)

theorem sortI_eq {l m : List Int} (hp : m.Perm l) (hs : m.Pairwise (· ≤ ·)) : m = sortI l := by
  refine List.Perm.eq_of_pairwise (le := (· ≤ ·)) ?_ hs (sortI_sorted l) (hp.trans (sortI_perm l).symm)
  intro a b _ _ h1 h2
  omega

theorem sortI_length (l : List Int) : (sortI l).length = l.length := (sortI_perm l).length_eq

def sort_ren : Go.Shelf.Ren := ⟨fun | 189 => 24 | 125 => 30 | 257 => 29 | 128 => 42 | 129 => 43 | 294 => 33 | 295 => 34 | 296 => 35 | 297 => 36 | 298 => 37 | 299 => 38 | 216 => 39 | 300 => 40 | 301 => 41 | 328 => 45 | 329 => 46 | 330 => 47 | 331 => 48 | 332 => 49 | 215 => 50 | 343 => 51 | n => n, fun | 28 => 25 | 3 => 3 | 46 => 60 | 0 => 0 | 51 => 71 | 53 => 73 | 4 => 4 | 183 => 64 | 182 => 63 | 131 => 54 | 5 => 5 | 9 => 9 | 218 => 74 | 222 => 78 | 228 => 81 | 229 => 82 | n => n, fun | n => n⟩

theorem sort_lays : Go.Proofs.Lays.n189 Try.prog sort_ren :=
  { mixed := by kernel_rfl,
    f125 := Try.func30.trans (congrArg some (by kernel_rfl)),
    f128 := Try.func42.trans (congrArg some (by kernel_rfl)),
    f129 := Try.func43.trans (congrArg some (by kernel_rfl)),
    f189 := Try.func24.trans (congrArg some (by kernel_rfl)),
    f215 := Try.func50.trans (congrArg some (by kernel_rfl)),
    f216 := Try.func39.trans (congrArg some (by kernel_rfl)),
    f257 := Try.func29.trans (congrArg some (by kernel_rfl)),
    f294 := Try.func33.trans (congrArg some (by kernel_rfl)),
    f295 := Try.func34.trans (congrArg some (by kernel_rfl)),
    f296 := Try.func35.trans (congrArg some (by kernel_rfl)),
    f297 := Try.func36.trans (congrArg some (by kernel_rfl)),
    f298 := Try.func37.trans (congrArg some (by kernel_rfl)),
    f299 := Try.func38.trans (congrArg some (by kernel_rfl)),
    f300 := Try.func40.trans (congrArg some (by kernel_rfl)),
    f301 := Try.func41.trans (congrArg some (by kernel_rfl)),
    f328 := Try.func45.trans (congrArg some (by kernel_rfl)),
    f329 := Try.func46.trans (congrArg some (by kernel_rfl)),
    f330 := Try.func47.trans (congrArg some (by kernel_rfl)),
    f331 := Try.func48.trans (congrArg some (by kernel_rfl)),
    f332 := Try.func49.trans (congrArg some (by kernel_rfl)),
    f343 := Try.func51.trans (congrArg some (by kernel_rfl)),
    t0 := Try.underlying0,
    a0 := Try.isAgg0,
    z0 := Try.sizeOf0,
    v0 := Try.zeroValue0,
    t3 := Try.underlying3,
    a3 := Try.isAgg3,
    z3 := Try.sizeOf3,
    v3 := Try.zeroValue3,
    t4 := Try.underlying4,
    a4 := Try.isAgg4,
    z4 := Try.sizeOf4,
    v4 := Try.zeroValue4,
    t5 := Try.underlying5,
    a5 := Try.isAgg5,
    z5 := Try.sizeOf5,
    v5 := Try.zeroValue5,
    t9 := Try.underlying9,
    a9 := Try.isAgg9,
    z9 := Try.sizeOf9,
    v9 := Try.zeroValue9,
    t28 := Try.underlying25,
    a28 := Try.isAgg25,
    z28 := Try.sizeOf25,
    v28 := Try.zeroValue25,
    t46 := Try.underlying60,
    a46 := Try.isAgg60,
    z46 := Try.sizeOf60,
    v46 := Try.zeroValue60,
    t51 := Try.underlying71,
    a51 := Try.isAgg71,
    z51 := Try.sizeOf71,
    v51 := Try.zeroValue71,
    t53 := Try.underlying73,
    a53 := Try.isAgg73,
    z53 := Try.sizeOf73,
    v53 := Try.zeroValue73,
    t131 := Try.underlying54,
    a131 := Try.isAgg54,
    z131 := Try.sizeOf54,
    v131 := Try.zeroValue54,
    t182 := Try.underlying63,
    a182 := Try.isAgg63,
    z182 := Try.sizeOf63,
    v182 := Try.zeroValue63,
    t183 := Try.underlying64,
    a183 := Try.isAgg64,
    z183 := Try.sizeOf64,
    v183 := Try.zeroValue64,
    t218 := Try.underlying74,
    a218 := Try.isAgg74,
    z218 := Try.sizeOf74,
    v218 := Try.zeroValue74,
    t222 := Try.underlying78,
    a222 := Try.isAgg78,
    z222 := Try.sizeOf78,
    v222 := Try.zeroValue78,
    t228 := Try.underlying81,
    a228 := Try.isAgg81,
    z228 := Try.sizeOf81,
    v228 := Try.zeroValue81,
    t229 := Try.underlying82,
    a229 := Try.isAgg82,
    z229 := Try.sizeOf82,
    v229 := Try.zeroValue82 }

theorem own_setCells {base n c g : Nat} {e : TypeId} {size : Nat} : ∀ (vs : List Value) (o : Nat) (w : World) (xs : List Value), w.ownsRow base e size (.slice (some ⟨g, 0, none⟩) n c) n xs → o + vs.length = xs.length →
    (w.setCells g o vs).ownsRow base e size (.slice (some ⟨g, 0, none⟩) n c) n (xs.take o ++ vs) ∧ w.grownBy (w.setCells g o vs) (some g)
  | [], o, w, xs, h, hl => by
    refine ⟨?_, ⟨rfl, rfl, rfl, Nat.le_refl _, fun _ _ _ => rfl⟩⟩
    rw [List.append_nil, List.take_of_length_le (by simp at hl; omega)]
    exact h
  | v :: vs, o, w, xs, h, hl => by
    obtain ⟨h1, g1⟩ := h.stored o v
    simp only [List.length_cons] at hl
    obtain ⟨h2, g2⟩ := own_setCells vs (o + 1) _ _ h1 (by simp; omega)
    refine ⟨?_, World.grownBy.trans g1 g2⟩
    have e1 : (xs.set o v).take (o + 1) = xs.take o ++ [v] := by
      rw [List.take_succ_eq_append_getElem (by simp; omega), List.take_set_of_le (Nat.le_refl o)]
      simp
    rw [e1, List.append_assoc] at h2
    exact h2

/-- Sorted in place: the row's numbers, sorted; other blocks stand. -/
def RetSorted (w : World) (base n c : Nat) (A : Option Addr) (l : List Int) (e : Ending) (w' : World) : Prop :=
  e = .returned (.tuple #[]) ∧ w'.ownsRow base 3 1 (.slice A n c) n (intCells (sortI l)) ∧ Upd w w' (.slice A n c) (.slice A n c)

theorem sort_calls (A : Option Addr) (n c base : Nat) (l : List Int) (w : World) (o : w.ownsRow base 3 1 (.slice A n c) n (intCells l)) (h : 0 < n) (k : n ≤ 1000000000) :
    Calls Try.prog 24 #[.slice A n c] w (RetSorted w base n c A l) := by
  obtain ⟨g, rfl, hg, hb, hc⟩ := own_at o h
  have hn : l.length = n := by have := o.1; rw [intCells_length] at this; omega
  have hH : Holds (Value.int .i64) w g 0 l.toArray := by
    intro j hj
    have hj' : j < l.length := by simpa using hj
    have h1 := hc j (.int .i64 l[j]) (by simp [intCells, hj'])
    rw [add_plain] at h1
    refine ⟨?_, ?_⟩
    · rw [Nat.zero_add, h1]
      simp [hj']
    · rw [Nat.zero_add]
      rcases o.2 with ⟨h2, _⟩ | ⟨g', cap, cur, h2, _, hh, _⟩
      · cases h2
      · obtain ⟨rfl, _⟩ : g = g' ∧ c = cap := by simpa using h2
        simp [World.frozen?, hh]
  have hs := Any.slices_Sort_int sort_lays g 0 c l w hH hg (by omega)
  rw [hn] at hs
  refine Calls.mono hs ?_
  rintro e w' ⟨rfl, q, os, rfl⟩
  rw [Lib.sorted_world (Value.int .i64) w g 0 q l.toArray (l.mergeSort fun x y => decide (x ≤ y)) os hH (by simp)]
  have o1 : (w.drewN q).ownsRow base 3 1 (.slice (some ⟨g, 0, none⟩) n c) n (intCells l) := own_below o (below_drewN w q)
  obtain ⟨o2, g2⟩ := own_setCells (intCells (sortI l)) 0 _ _ o1 (by rw [intCells_length, intCells_length, sortI_length, Nat.zero_add])
  rw [List.take_zero, List.nil_append] at o2
  have hb3 : ∀ W : World, Below W.heap.size W (grow W os) := fun W => ⟨rfl, rfl, rfl, by simp, fun i hi => heap_grow_old W os hi⟩
  refine ⟨rfl, own_below o2 (hb3 _), ?_, .inl rfl⟩
  exact World.grownBy.trans (World.grownBy.trans (b := w.drewN q) ⟨rfl, rfl, rfl, Nat.le_refl _, fun _ _ _ => rfl⟩ g2) ⟨rfl, rfl, rfl, (hb3 _).size, fun i hi _ => (hb3 _).block i hi⟩
end Go.Proofs.Yteonpfomlmfkjaa

namespace Go.Proofs.Yteonpfomlmfkjaa
open Go Go.RowKit

theorem mem_ne {w : World} {b j : Nat} {u v : Value} {b' j' : Nat} (hne : b' ≠ b ∨ j' ≠ j) (h : w.cell? ⟨b', j', none⟩ = some v) : (w.setCell ⟨b, j, none⟩ u).cell? ⟨b', j', none⟩ = some v := by
  by_cases e : b' = b
  · subst e
    have hj : j ≠ j' := fun q => hne.elim (fun h1 => h1 rfl) (fun h1 => h1 q.symm)
    simp only [World.cell?, World.setCell, Array.getElem?_modify] at *
    cases hh : w.heap[b']? with
    | none => simp [hh] at h
    | some o =>
      rw [hh] at h
      cases o <;> simp at h ⊢
      rw [Array.getElem?_setIfInBounds_ne hj]
      exact h
  · exact (World.cell?_of_block (a := ⟨b', j', none⟩) (Below.heap_setCell _ _ _ _ e)).trans h

theorem oneSl (A : Option Addr) (n c : Nat) : (#[Value.slice A n c] : Array Value).size = 1 ∧ ∀ u ∈ (#[Value.slice A n c] : Array Value).toList, u.oneCell' = true := by
  refine ⟨rfl, ?_⟩
  intro u hu
  simp at hu
  subst hu
  rfl

/-- Rows of whole numbers below block B stand. -/
def KI (B : Nat) (w w' : World) : Prop := ∀ b, b < B → elemAt w b = some 3 → w'.heap[b]? = w.heap[b]?

theorem elemAt_eq {w w' : World} {b : Nat} (h : w'.heap[b]? = w.heap[b]?) : elemAt w' b = elemAt w b := by unfold elemAt; rw [h]

theorem KI.refl (B : Nat) (w : World) : KI B w w := fun _ _ _ => rfl

theorem KI.trans {B : Nat} {a b c : World} (h : KI B a b) (k : KI B b c) : KI B a c := fun i hi he => (k i hi ((elemAt_eq (h i hi he)).trans he)).trans (h i hi he)

theorem KI.below {B B' : Nat} {w w' : World} (h : Below B' w w') (hb : B ≤ B') : KI B w w' := fun i hi _ => h.block i (by omega)

theorem KI.grown {B : Nat} {w w' : World} {row : Option Nat} (h : w.grownBy w' row) (hB : B ≤ w.heap.size) (hr : ∀ k, row = some k → B ≤ k ∨ elemAt w k ≠ some 3) : KI B w w' := fun i hi he =>
  h.block i (by omega) (fun e => by
    rcases hr i e.symm with h1 | h1
    · omega
    · exact h1 he)

theorem own_KI {B : Nat} {w w' : World} {base n : Nat} {v : Value} {xs : List Value} (h : w.ownsRow base 3 1 v n xs) (hv : ∀ k, v.ownBlock = some k → k < B) (k : KI B w w') : w'.ownsRow base 3 1 v n xs := by
  refine ⟨h.1, ?_⟩
  rcases h.2 with h2 | ⟨g, cap, cur, rfl, hg, hh, r⟩
  · exact .inl h2
  · exact .inr ⟨g, cap, cur, rfl, hg, (k g (hv g rfl) (by simp [elemAt, hh])).trans hh, r⟩

/-- A row of these whole numbers, below block B. -/
def RowAt (B : Nat) (w : World) (base : Nat) (v : Value) (l : List Int) : Prop :=
  ∃ A c, v = .slice A l.length c ∧ w.ownsRow base 3 1 (.slice A l.length c) l.length (intCells l) ∧ ∀ k, v.ownBlock = some k → k < B

theorem RowAt.ki {B : Nat} {w w' : World} {base : Nat} {v : Value} {l : List Int} (h : RowAt B w base v l) (k : KI B w w') : RowAt B w' base v l := by
  obtain ⟨A, c, rfl, h1, h2⟩ := h
  exact ⟨A, c, rfl, own_KI h1 h2 k, h2⟩

theorem RowAt.mono {B B' : Nat} {w : World} {base base' : Nat} {v : Value} {l : List Int} (h : RowAt B w base v l) (hB : B ≤ B') (hb : base' ≤ base) : RowAt B' w base' v l := by
  obtain ⟨A, c, rfl, h1, h2⟩ := h
  exact ⟨A, c, rfl, own_mono h1 hb, fun k hk => by have := h2 k hk; omega⟩

theorem RowAt.new {w : World} {base n c : Nat} {A : Option Addr} {l : List Int} (h : w.ownsRow base 3 1 (.slice A n c) n (intCells l)) : RowAt w.heap.size w base (.slice A n c) l := by
  have hn : l.length = n := by have := h.1; rw [intCells_length] at this; omega
  subst hn
  exact ⟨A, c, rfl, h, fun k hk => (h.lt k hk).2⟩

theorem RowAt.rd {B : Nat} {w : World} {base : Nat} {A : Option Addr} {n c : Nat} {l : List Int} (h : RowAt B w base (.slice A n c) l) : RdInt w A l ∧ l.length = n ∧ n ≤ c := by
  obtain ⟨A', c', he, h1, _⟩ := h
  obtain ⟨rfl, rfl, rfl⟩ : A = A' ∧ n = l.length ∧ c = c' := by simpa using he
  obtain ⟨A'', c'', he, hc, hcell⟩ := cells_of_own h1
  obtain ⟨rfl, rfl⟩ : A = A'' ∧ c = c'' := by simpa using he
  refine ⟨fun i x hx => ?_, rfl, hc⟩
  obtain ⟨g, rfl, hg⟩ := hcell i (.int .i64 x) (by simp [intCells, hx])
  exact ⟨_, rfl, by rw [add_plain]; exact hg⟩

/-- Values that are rows of whole numbers, one for each list. -/
def RowsAt (B : Nat) (w : World) (base : Nat) (vs : List Value) (L : List (List Int)) : Prop :=
  vs.length = L.length ∧ ∀ (i : Nat) (l : List Int), L[i]? = some l → ∃ v, vs[i]? = some v ∧ RowAt B w base v l

theorem RowsAt.nil (B : Nat) (w : World) (base : Nat) : RowsAt B w base [] [] := ⟨rfl, fun i l h => by simp at h⟩

theorem RowsAt.ki {B : Nat} {w w' : World} {base : Nat} {vs : List Value} {L : List (List Int)} (h : RowsAt B w base vs L) (k : KI B w w') : RowsAt B w' base vs L :=
  ⟨h.1, fun i l hi => by obtain ⟨v, hv, hr⟩ := h.2 i l hi; exact ⟨v, hv, hr.ki k⟩⟩

theorem RowsAt.mono {B B' : Nat} {w : World} {base base' : Nat} {vs : List Value} {L : List (List Int)} (h : RowsAt B w base vs L) (hB : B ≤ B') (hb : base' ≤ base) : RowsAt B' w base' vs L :=
  ⟨h.1, fun i l hi => by obtain ⟨v, hv, hr⟩ := h.2 i l hi; exact ⟨v, hv, hr.mono hB hb⟩⟩

theorem RowsAt.snoc {B : Nat} {w : World} {base : Nat} {vs : List Value} {L : List (List Int)} {v : Value} {l : List Int} (h : RowsAt B w base vs L) (hv : RowAt B w base v l) : RowsAt B w base (vs ++ [v]) (L ++ [l]) := by
  refine ⟨by simp [h.1], fun i m hi => ?_⟩
  by_cases e : i < L.length
  · rw [List.getElem?_append_left e] at hi
    obtain ⟨u, hu, hr⟩ := h.2 i m hi
    exact ⟨u, by rw [List.getElem?_append_left (by rw [h.1]; exact e)]; exact hu, hr⟩
  · have hl : i = L.length := by
      have := (List.getElem?_eq_some_iff.1 hi).1
      simp at this
      omega
    subst hl
    rw [List.getElem?_append_right (Nat.le_refl _), Nat.sub_self] at hi
    obtain rfl : l = m := by simpa using hi
    exact ⟨v, by rw [List.getElem?_append_right (by rw [h.1]; exact Nat.le_refl _), h.1, Nat.sub_self]; rfl, hv⟩

theorem rowIs_elem {w : World} {b : Nat} {t : TypeId} {n : Nat} {f : Nat → Value} (h : w.rowIs b t n f) : elemAt w b = some t := by
  obtain ⟨c, hc, _⟩ := h
  simp [elemAt, hc]

theorem own_cell {w : World} {base n c g : Nat} {e : TypeId} {xs : List Value} (h : w.ownsRow base e 1 (.slice (some ⟨g, 0, none⟩) n c) n xs) (j : Nat) (hj : j < n) : ∃ v, xs[j]? = some v ∧ w.cell? ⟨g, j, none⟩ = some v := by
  have hl := h.1
  refine ⟨xs[j]'(by omega), List.getElem?_eq_getElem _, ?_⟩
  rw [h.cellAt j (by omega), List.getElem?_eq_getElem]

theorem own_none {w : World} {base n c : Nat} {e : TypeId} {xs : List Value} (h : w.ownsRow base e 1 (.slice none n c) n xs) : n = 0 := by
  rcases h.2 with ⟨_, h⟩ | ⟨_, _, _, h, _⟩
  · exact h
  · cases h

theorem below_grown {w w' : World} (h : Below w.heap.size w w') (row : Option Nat) : w.grownBy w' row := ⟨h.os, h.tape, h.output, h.size, fun k hk _ => h.block k hk⟩

theorem grown_below {w w1 w2 : World} {row : Option Nat} (h : w.grownBy w1 row) (k : Below w1.heap.size w1 w2) : w.grownBy w2 row :=
  ⟨k.os.trans h.os, k.tape.trans h.tape, k.output.trans h.output, Nat.le_trans h.size k.size, fun i hi hr => (k.block i (Nat.lt_of_lt_of_le hi h.size)).trans (h.block i hi hr)⟩

theorem grown_grown {w w1 w2 : World} {row : Option Nat} (h : w.grownBy w1 row) (k : w1.grownBy w2 row) : w.grownBy w2 row :=
  ⟨k.os.trans h.os, k.tape.trans h.tape, k.output.trans h.output, Nat.le_trans h.size k.size, fun i hi hr => (k.block i (Nat.lt_of_lt_of_le hi h.size) hr).trans (h.block i hi hr)⟩

/-- The first m of an own row. -/
theorem own_take {w : World} {base n m c g : Nat} {e : TypeId} {xs : List Value} (h : w.ownsRow base e 1 (.slice (some ⟨g, 0, none⟩) n c) n xs) (hm : m ≤ n) : w.ownsRow base e 1 (.slice (some ⟨g, 0, none⟩) m c) m (xs.take m) := by
  obtain ⟨h1, h2⟩ := h
  rcases h2 with ⟨h0, _⟩ | ⟨g', cap, cur, hv, hg, hh, hn, hcap, hsz, ht⟩
  · cases h0
  · cases hv
    refine ⟨by rw [List.length_take]; omega, .inr ⟨g, c, cur, rfl, hg, hh, by omega, hcap, hsz, ?_⟩⟩
    rw [← ht, List.take_take]
    congr 1
    omega

/-- Cells of an own row are set, from place o on: what stands ahead of o stays. -/
theorem ag_setCells {base n c g : Nat} {e : TypeId} : ∀ (l : List Value) (o : Nat) (w : World) (xs : List Value), w.ownsRow base e 1 (.slice (some ⟨g, 0, none⟩) n c) n xs →
    ∃ ys, (w.setCells g o l).ownsRow base e 1 (.slice (some ⟨g, 0, none⟩) n c) n ys ∧ ys.take o = xs.take o ∧ w.grownBy (w.setCells g o l) (some g)
  | [], o, w, xs, h => ⟨xs, h, rfl, below_grown (Below.refl _ _) _⟩
  | v :: l, o, w, xs, h => by
    obtain ⟨h1, h2⟩ := h.stored o v
    obtain ⟨ys, k1, k2, k3⟩ := ag_setCells l (o + 1) _ _ h1
    refine ⟨ys, k1, ?_, grown_grown h2 k3⟩
    have := congrArg (List.take o) k2
    rw [List.take_take, List.take_take, Nat.min_eq_left (by omega), List.take_set_of_le (by omega)] at this
    exact this

theorem get_bang {vs : List Value} {j : Nat} {v : Value} (h : vs[j]? = some v) : vs.toArray[j]! = v := by
  rw [getElem!_def, List.getElem?_toArray, h]

theorem own_max {w : World} {base n : Nat} {e : TypeId} {size : Nat} {v : Value} {xs : List Value} (h : w.ownsRow base e size v n xs) : n ≤ 9223372036854775807 := by
  rcases h.2 with ⟨_, rfl⟩ | ⟨_, _, _, _, _, _, h1, h2, _⟩
  · omega
  · unfold maxLen at h2; omega

end Go.Proofs.Yteonpfomlmfkjaa
