/- tree.Parse's memory: brackets that are open, each a row of nodes. No walk here. -/
import Derived.Test.YtbmlkomfelkckaaParseP
import Derived.Test.YtbmlkomfelkckaaRead
import Derived.Deep.OwnRows
namespace Go.Proofs.Ytbmlkomfelkckaa
open Go Go.RowKit
set_option maxRecDepth 100000

/-- A row whose own block is as it was. -/
theorem own_keep {w w' : World} {base : Nat} {e : TypeId} {size n : Nat} {v : Value} {xs : List Value} (h : w.ownsRow base e size v n xs) (hk : ∀ k, v.ownBlock = some k → w'.heap[k]? = w.heap[k]?) : w'.ownsRow base e size v n xs := by
  refine ⟨h.1, ?_⟩
  rcases h.2 with h2 | ⟨g, cap, cur, rfl, hg, hh, r⟩
  · exact .inl h2
  · exact .inr ⟨g, cap, cur, rfl, hg, (hk g rfl).trans hh, r⟩

/-- An open bracket: nothing stands in it yet, or one part. -/
def Lvl (w : World) (base : Nat) : Option NT → Value → Prop
  | none, v => v = .slice none 0 0
  | some A, v => ∃ b : Nat, w.ownsRow base 93 1 v 1 [.pointer (some ⟨b, 0, none⟩)] ∧ Nd w A (.pointer (some ⟨b, 0, none⟩))

/-- All open brackets, the innermost first; their rows lie apart. -/
inductive Lvls (w : World) (base : Nat) : List (Option NT) → List Value → Prop
  | nil : Lvls w base [] []
  | cons {o : Option NT} {u : Value} {st : List (Option NT)} {us : List Value} (h : Lvl w base o u) (apart : ∀ k, u.ownBlock = some k → ∀ u' ∈ us, u'.ownBlock ≠ some k) (t : Lvls w base st us) : Lvls w base (o :: st) (u :: us)

theorem Lvls.len {w : World} {base : Nat} {st : List (Option NT)} {us : List Value} (h : Lvls w base st us) : us.length = st.length := by
  induction h with
  | nil => rfl
  | cons _ _ _ ih => simp [ih]

theorem Lvl.block {w : World} {base : Nat} {o : Option NT} {u : Value} (h : Lvl w base o u) {k : Nat} (hk : u.ownBlock = some k) : base ≤ k ∧ elemAt w k = some 93 := by
  cases o with
  | none => rw [show u = .slice none 0 0 from h] at hk; simp [Value.ownBlock] at hk
  | some A =>
    obtain ⟨b, ho, _⟩ := h
    exact ⟨own_base ho k hk, own_elem ho k hk⟩

theorem Lvls.block {w : World} {base : Nat} {st : List (Option NT)} {us : List Value} (h : Lvls w base st us) : ∀ u ∈ us, ∀ k, u.ownBlock = some k → base ≤ k ∧ elemAt w k = some 93 := by
  induction h with
  | nil => intro u hu; simp at hu
  | cons h _ _ ih =>
    intro u hu k hk
    rcases List.mem_cons.1 hu with rfl | hu
    · exact h.block hk
    · exact ih u hu k hk

theorem elem_lt {w : World} {k : Nat} {e : TypeId} (h : elemAt w k = some e) : k < w.heap.size := by
  rcases Nat.lt_or_ge k w.heap.size with q | q
  · exact q
  · simp [elemAt, Array.getElem?_eq_none q] at h

theorem Lvl.keep {w w' : World} {base : Nat} {o : Option NT} {u : Value} (h : Lvl w base o u) (h1 : ∀ k, u.ownBlock = some k → w'.heap[k]? = w.heap[k]?)
    (h2 : ∀ (b : Nat) (cs : Array Value), w.heap[b]? = some (.cells cs 98 (0, 0)) → w'.heap[b]? = w.heap[b]?) : Lvl w' base o u := by
  cases o with
  | none => exact h
  | some A =>
    obtain ⟨b, ho, hn⟩ := h
    exact ⟨b, own_keep ho h1, hn.keep h2⟩

theorem Lvls.keep {w w' : World} {base : Nat} {st : List (Option NT)} {us : List Value} (h : Lvls w base st us) (h1 : ∀ u ∈ us, ∀ k, u.ownBlock = some k → w'.heap[k]? = w.heap[k]?)
    (h2 : ∀ (b : Nat) (cs : Array Value), w.heap[b]? = some (.cells cs 98 (0, 0)) → w'.heap[b]? = w.heap[b]?) : Lvls w' base st us := by
  induction h with
  | nil => exact .nil
  | cons h a _ ih => exact .cons (h.keep (h1 _ (by simp)) h2) a (ih (fun u hu => h1 u (by simp [hu])))

theorem Lvls.later {w w' : World} {base : Nat} {st : List (Option NT)} {us : List Value} (h : Lvls w base st us) (hb : Below w.heap.size w w') : Lvls w' base st us :=
  h.keep (fun u hu k hk => hb.block k (elem_lt (h.block u hu k hk).2)) (fun b _ hc => hb.block b (Array.getElem?_eq_some_iff.1 hc).1)

/-- What holds of all that the call has made, but for the brackets. -/
structure PBase (w wr : World) (had : List Nat) : Prop where
  below : Below w.heap.size w wr
  size : w.heap.size + 2 ≤ wr.heap.size
  box : wr.cell? ⟨w.heap.size, 0, none⟩ = some (.slice none 0 0)
  free : wr.frozen? ⟨w.heap.size, 0, none⟩ = false
  set : SetAt intKey wr (w.heap.size + 1) (had.map fun k : Nat => (k : Int))

theorem PBase.next {w wr W : World} {had : List Nat} (h : PBase w wr had) (hb : Below wr.heap.size wr W) : PBase w W had :=
  ⟨Below.then h.below h.below.size hb, Nat.le_trans h.size hb.size, cell_below hb (by have := h.size; omega) h.box, frozen_below hb (by have := h.size; omega) h.free, h.set.below hb⟩

/-- A write to what lies behind the box and the set. -/
theorem PBase.turn {w wr W : World} {had : List Nat} (h : PBase w wr had) (hb : Below (w.heap.size + 2) wr W) : PBase w W had :=
  ⟨Below.trans h.below (hb.mono (by omega)), Nat.le_trans h.size hb.size, cell_below hb (by omega) h.box, frozen_below hb (by omega) h.free, h.set.keep (hb.block _ (by omega))⟩

/-- All of it. -/
structure PInv (w wr : World) (st : MSt) (v : Value) (us : List Value) : Prop where
  base : PBase w wr st.had
  row : wr.ownsRow (w.heap.size + 2) 94 1 v st.stack.length us.reverse
  lv : Lvls wr (w.heap.size + 2) st.stack us
  few : st.stack.length ≤ st.at'

theorem PInv.next {w wr W : World} {st : MSt} {v : Value} {us : List Value} (h : PInv w wr st v us) (hb : Below wr.heap.size wr W) : PInv w W st v us :=
  ⟨h.base.next hb, own_below h.row hb, h.lv.later hb, h.few⟩

theorem pinv_start (w : World) : PInv w ((w.alloc (.cells #[.slice none 0 0] 26)).alloc (.map #[] 0)) ⟨0, [], []⟩ (.slice none 0 0) [] := by
  have h1 := below_alloc (w.alloc (.cells #[.slice none 0 0] 26)) (.map #[] 0)
  have h2 := SetAt.made intKey (w.alloc (.cells #[.slice none 0 0] 26))
  rw [World.size_alloc] at h2
  exact ⟨⟨Below.then (below_alloc w _) (by simp) h1, by simp, cell_below h1 (by simp) (new_cell w _ _ 0), frozen_below h1 (by simp) (new_frozen w _ _ 0), h2⟩, World.ownsRow_nil _ _ _ _, .nil, Nat.le_refl _⟩

/-- A bracket more. -/
theorem PInv.push {w wr W : World} {st : MSt} {v v1 : Value} {us : List Value} (h : PInv w wr st v us) (hu : Upd wr W v v1) (ho : W.ownsRow (w.heap.size + 2) 94 1 v1 (st.stack.length + 1) (us.reverse ++ [.slice none 0 0])) :
    PInv w W ⟨st.at' + 1, none :: st.stack, st.had⟩ v1 (.slice none 0 0 :: us) := by
  have hb := hu.below h.base.size (fun k hk => (h.row.lt k hk).1)
  refine ⟨h.base.turn hb, by simpa using ho, .cons rfl (fun k hk => by simp [Value.ownBlock] at hk) ?_, by have := h.few; simp; omega⟩
  refine h.lv.keep (fun u hu' k hk => ?_) (fun b cs hc => ?_)
  · have := (h.lv.block u hu' k hk).2
    exact upd_keep hu h.row k (elem_lt this) (by rw [this]; decide)
  · exact upd_keep hu h.row b (Array.getElem?_eq_some_iff.1 hc).1 (by simp [elemAt, hc])

theorem own_set_last {w : World} {base : Nat} {e : TypeId} {g m c : Nat} {xs : List Value} {u : Value} (h : w.ownsRow base e 1 (.slice (some ⟨g, 0, none⟩) (m + 1) c) (m + 1) (xs ++ [u])) (x : Value) :
    (w.setCell ⟨g, m, none⟩ x).ownsRow base e 1 (.slice (some ⟨g, 0, none⟩) (m + 1) c) (m + 1) (xs ++ [x]) := by
  have hlen := h.1
  refine ⟨by simpa using hlen, ?_⟩
  rcases h.2 with ⟨h1, _⟩ | ⟨g', cap, cur, h1, hg, hh, hc, hm, hs, ht⟩
  · simp at h1
  · obtain ⟨rfl, rfl⟩ : g = g' ∧ c = cap := by simpa using h1
    refine .inr ⟨g, c, cur.setIfInBounds m x, rfl, hg, ?_, hc, hm, by simpa using hs, ?_⟩
    · simp [World.setCell, Array.getElem?_modify, hh]
    · have hl : xs.length = m := by simp at hlen; exact hlen
      have hcm : m < cur.toList.length := by simp; omega
      rw [Nat.mul_one] at ht ⊢
      rw [Array.toList_setIfInBounds, List.take_set, ht, List.set_append_right _ _ (by omega), hl, Nat.sub_self]
      rfl

theorem own_take {w : World} {base : Nat} {e : TypeId} {g m c k : Nat} {xs ys : List Value} (h : w.ownsRow base e 1 (.slice (some ⟨g, 0, none⟩) m c) m (xs ++ ys)) (hk : xs.length = k) : w.ownsRow base e 1 (.slice (some ⟨g, 0, none⟩) k c) k xs := by
  have hlen := h.1
  refine ⟨by simpa using hk, ?_⟩
  rcases h.2 with ⟨h1, _⟩ | ⟨g', cap, cur, h1, hg, hh, hc, hm, hs, ht⟩
  · simp at h1
  · obtain ⟨rfl, rfl⟩ : g = g' ∧ c = cap := by simpa using h1
    refine .inr ⟨g, c, cur, rfl, hg, hh, by simp at hlen; omega, hm, hs, ?_⟩
    rw [Nat.mul_one] at ht ⊢
    have : xs = (xs ++ ys).take k := by rw [← hk, List.take_left]
    rw [this, ← ht, List.take_take]
    congr 1
    simp at hlen
    omega

/-- The innermost bracket's row. -/
theorem PInv.top {w wr : World} {st : MSt} {v : Value} {o : Option NT} {rest : List (Option NT)} {us : List Value} (h : PInv w wr st v us) (hs : st.stack = o :: rest) :
    ∃ u us' g c, us = u :: us' ∧ v = .slice (some ⟨g, 0, none⟩) (rest.length + 1) c ∧ rest.length + 1 ≤ c ∧ Lvl wr (w.heap.size + 2) o u ∧ us'.length = rest.length ∧ wr.cell? ⟨g, rest.length, none⟩ = some u ∧ wr.frozen? ⟨g, rest.length, none⟩ = false ∧ w.heap.size + 2 ≤ g ∧ g < wr.heap.size := by
  have hlv := h.lv
  rw [hs] at hlv
  cases hlv with
  | cons hl ha ht =>
    rename_i u us'
    have hlen := ht.len
    have hrow := h.row
    rw [hs] at hrow
    rcases hrow.2 with ⟨_, h1⟩ | ⟨g, cap, cur, rfl, hg, hh, hc, hm, hsz, htk⟩
    · simp at h1
    · refine ⟨u, us', g, cap, rfl, rfl, by simpa using hc, hl, hlen, ?_, by simp [World.frozen?, hh], hg, (Array.getElem?_eq_some_iff.1 hh).1⟩
      rw [Nd.cell hh]
      have h2 : (u :: us').reverse[rest.length]? = some u := by
        rw [List.reverse_cons, List.getElem?_append_right (by simp [hlen])]
        simp [hlen]
      rw [← htk, List.getElem?_take] at h2
      split at h2
      · simpa using h2
      · cases h2

/-- A name that is taken. -/
theorem PInv.put {w W W' : World} {i j k : Nat} {stack : List (Option NT)} {had : List Nat} {v : Value} {us : List Value} (h : PInv w W ⟨i, stack, had⟩ v us) (hs : SetAt intKey W' (w.heap.size + 1) (if (k : Int) ∈ had.map (fun k : Nat => (k : Int)) then had.map (fun k : Nat => (k : Int)) else had.map (fun k : Nat => (k : Int)) ++ [(k : Int)]))
    (hg : W.grownBy W' (some (w.heap.size + 1))) (hk : (k : Int) ∉ had.map fun k : Nat => (k : Int)) (hij : i ≤ j) : PInv w W' ⟨j, stack, had ++ [k]⟩ v us := by
  rw [if_neg hk] at hs
  have hsz := h.base.size
  have hset := h.base.set
  have hkeep : ∀ b, w.heap.size + 2 ≤ b → b < W.heap.size → W'.heap[b]? = W.heap[b]? := fun b h1 h2 => hg.block b h2 (fun e => by have := Option.some.inj e; omega)
  refine ⟨⟨h.base.below.grown hg (by omega) (fun c hc => by have := Option.some.inj hc; omega), Nat.le_trans hsz hg.size, hg.cell h.base.box (fun e => by have := Option.some.inj e; simp at this), ?_, by rw [List.map_append]; exact hs⟩, own_keep h.row (fun c hc => ?_), h.lv.keep (fun u hu c hc => ?_) (fun b cs hb => ?_), Nat.le_trans h.few hij⟩
  · have e := hg.block w.heap.size (by omega) (fun e => by have := Option.some.inj e; omega)
    exact (World.frozen?_of_block (a := ⟨w.heap.size, 0, none⟩) e).trans h.base.free
  · exact hkeep c (h.row.lt c hc).1 (h.row.lt c hc).2
  · have := h.lv.block u hu c hc
    exact hkeep c this.1 (elem_lt this.2)
  · refine hg.block b (Array.getElem?_eq_some_iff.1 hb).1 (fun e => ?_)
    have e2 : b = w.heap.size + 1 := Option.some.inj e
    have := hset.elem
    rw [← e2] at this
    simp [elemAt, hb] at this

theorem set_keep {w : World} {g j : Nat} {x : Value} {k : Nat} (h : k ≠ g) : (w.setCell ⟨g, j, none⟩ x).heap[k]? = w.heap[k]? := Below.heap_setCell _ _ _ _ h

theorem set_low {B : Nat} {w : World} {g : Nat} (h : B ≤ g) (j : Nat) (x : Value) : Below B w (w.setCell ⟨g, j, none⟩ x) := below_set (Below.refl _ _) h _ _

theorem own_elem_slice {w : World} {base : Nat} {e : TypeId} {size m g c : Nat} {xs : List Value} (h : w.ownsRow base e size (.slice (some ⟨g, 0, none⟩) m c) m xs) : elemAt w g = some e := own_elem h g rfl

/-- Another content of the innermost bracket. -/
theorem PInv.setTop {w W : World} {st : MSt} {g c : Nat} {o o' : Option NT} {rest : List (Option NT)} {u x : Value} {us : List Value} (h : PInv w W st (.slice (some ⟨g, 0, none⟩) (rest.length + 1) c) (u :: us)) (hs : st.stack = o :: rest)
    (hx : Lvl W (w.heap.size + 2) o' x) (ha : ∀ k, x.ownBlock = some k → ∀ u' ∈ us, u'.ownBlock ≠ some k) : PInv w (W.setCell ⟨g, rest.length, none⟩ x) ⟨st.at', o' :: rest, st.had⟩ (.slice (some ⟨g, 0, none⟩) (rest.length + 1) c) (x :: us) := by
  have hrow := h.row
  have hlv := h.lv
  rw [hs] at hrow hlv
  have hg := own_base hrow g rfl
  have he := own_elem_slice hrow
  have k1 : ∀ (u : Value) (k : Nat), u.ownBlock = some k → elemAt W k = some 93 → (W.setCell ⟨g, rest.length, none⟩ x).heap[k]? = W.heap[k]? := fun u k _ hk => set_keep (fun e => by rw [e, he] at hk; exact absurd hk (by decide))
  have k2 : ∀ (b : Nat) (cs : Array Value), W.heap[b]? = some (.cells cs 98 (0, 0)) → (W.setCell ⟨g, rest.length, none⟩ x).heap[b]? = W.heap[b]? := fun b cs hb => set_keep (fun e => by rw [e] at hb; simp [elemAt, hb] at he)
  cases hlv with
  | cons hl _ ht =>
    refine ⟨h.base.turn (set_low hg _ _), ?_, .cons (hx.keep (fun k hk => k1 x k hk (hx.block hk).2) k2) ha (ht.keep (fun u hu k hk => k1 u k hk (ht.block u hu k hk).2) k2), by have := h.few; rw [hs] at this; exact this⟩
    rw [List.reverse_cons] at hrow ⊢
    exact own_set_last hrow x

/-- The innermost bracket left out. -/
theorem PInv.pop {w W : World} {st : MSt} {g c : Nat} {o : Option NT} {rest : List (Option NT)} {u : Value} {us : List Value} (h : PInv w W st (.slice (some ⟨g, 0, none⟩) (rest.length + 1) c) (u :: us)) (hs : st.stack = o :: rest) {i : Nat} (hi : st.at' ≤ i) :
    PInv w W ⟨i, rest, st.had⟩ (.slice (some ⟨g, 0, none⟩) rest.length c) us := by
  have hrow := h.row
  have hlv := h.lv
  have hf := h.few
  rw [hs] at hrow hlv hf
  simp only [List.length_cons] at hf
  cases hlv with
  | cons hl _ ht =>
    rw [List.reverse_cons] at hrow
    exact ⟨h.base, own_take hrow (by rw [List.length_reverse, ht.len]), ht, by show rest.length ≤ i; omega⟩

/-- A second part goes into a bracket that is left out. -/
theorem PInv.apart {w W w1 : World} {st : MSt} {v u v1 : Value} {us : List Value} {n : Nat} {xs : List Value} (h : PInv w W st v us) (hu : Upd W w1 u v1) (ho : W.ownsRow (w.heap.size + 2) 93 1 u n xs) (ha : ∀ k, u.ownBlock = some k → ∀ u' ∈ us, u'.ownBlock ≠ some k) : PInv w w1 st v us := by
  refine ⟨h.base.turn (hu.below h.base.size (fun k hk => own_base ho k hk)), own_keep h.row (fun k hk => ?_), h.lv.keep (fun u' hu' k hk => ?_) (fun b cs hb => ?_), h.few⟩
  · have := own_elem h.row k hk
    exact upd_keep hu ho k (elem_lt this) (by rw [this]; decide)
  · exact hu.1.block k (elem_lt (h.lv.block u' hu' k hk).2) (fun e => ha k e.symm u' hu' hk)
  · exact upd_keep hu ho b (Array.getElem?_eq_some_iff.1 hb).1 (by simp [elemAt, hb])

theorem own_beyond {w : World} {base : Nat} {e : TypeId} {g m c : Nat} {xs : List Value} (h : w.ownsRow base e 1 (.slice (some ⟨g, 0, none⟩) m c) m xs) {j : Nat} (hj : m ≤ j) (x : Value) : (w.setCell ⟨g, j, none⟩ x).ownsRow base e 1 (.slice (some ⟨g, 0, none⟩) m c) m xs := by
  refine ⟨h.1, ?_⟩
  rcases h.2 with ⟨h1, _⟩ | ⟨g', cap, cur, h1, hg, hh, hc, hm, hs, ht⟩
  · simp at h1
  · obtain ⟨rfl, rfl⟩ : g = g' ∧ c = cap := by simpa using h1
    refine .inr ⟨g, c, cur.setIfInBounds j x, rfl, hg, by simp [World.setCell, Array.getElem?_modify, hh], hc, hm, by simpa using hs, ?_⟩
    rw [Nat.mul_one] at ht ⊢
    rw [Array.toList_setIfInBounds, List.take_set_of_le hj, ht]

/-- A write behind the brackets that are left. -/
theorem PInv.beyond {w W : World} {st : MSt} {g c : Nat} {us : List Value} (h : PInv w W st (.slice (some ⟨g, 0, none⟩) st.stack.length c) us) {j : Nat} (hj : st.stack.length ≤ j) (x : Value) : PInv w (W.setCell ⟨g, j, none⟩ x) st (.slice (some ⟨g, 0, none⟩) st.stack.length c) us := by
  have hg := own_base h.row g rfl
  have he := own_elem_slice h.row
  refine ⟨h.base.turn (set_low hg _ _), own_beyond h.row hj x, h.lv.keep (fun u hu k hk => set_keep (fun e => ?_)) (fun b cs hb => set_keep (fun e => ?_)), h.few⟩
  · have := (h.lv.block u hu k hk).2
    rw [e, he] at this
    exact absurd this (by decide)
  · rw [e] at hb
    simp [elemAt, hb] at he

theorem PInv.on {w W : World} {st : MSt} {v : Value} {us : List Value} (h : PInv w W st v us) {i : Nat} (hi : st.at' ≤ i) : PInv w W ⟨i, st.stack, st.had⟩ v us := ⟨h.base, h.row, h.lv, Nat.le_trans h.few hi⟩

theorem set_far {w : World} {b j b' j' : Nat} {v : Value} (h : b ≠ b') (u : Value) (hc : w.cell? ⟨b', j', none⟩ = some v) : (w.setCell ⟨b, j, none⟩ u).cell? ⟨b', j', none⟩ = some v :=
  (World.cell?_of_block (a := ⟨b', j', none⟩) (Below.heap_setCell _ _ _ _ (by show b' ≠ b; exact fun q => h q.symm))).trans hc
end Go.Proofs.Ytbmlkomfelkckaa
