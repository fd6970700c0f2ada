/- stemma.least over all trees: the trees of the least changes, in their order. -/
import Derived.Test.YtbmlkomfelkckaaRange
import Derived.Test.YtbmlkomfelkckaaFormed
import Derived.Test.YtbmlkomfelkckaaBox
import Derived.Maps.OwnIn
import Derived.Outline
namespace Go.Proofs.Ytbmlkomfelkckaa
open Go Go.RowKit
set_option maxRecDepth 100000
attribute [local go_sem] Oper.semAt_some

/-! ### In plain Lean -/
structure LS where
  l : List NT
  low : Option Nat

/-- One tree more: those of the least measure so far. -/
def lstep (cost : NT → Nat) (s : LS) (T : NT) : LS :=
  match s.low with
  | none => ⟨[T], some (cost T)⟩
  | some m => if cost T < m then ⟨[T], some (cost T)⟩ else if cost T = m then ⟨s.l ++ [T], some m⟩ else s

def lfold (cost : NT → Nat) (ts : List NT) : LS := ts.foldl (lstep cost) ⟨[], none⟩

theorem lfold_snoc (cost : NT → Nat) (ts : List NT) (T : NT) : lfold cost (ts ++ [T]) = lstep cost (lfold cost ts) T := by simp [lfold]

theorem lfold_none (cost : NT → Nat) (ts : List NT) : (lfold cost ts).low = none → (lfold cost ts).l = [] := by
  have h : ∀ (ts : List NT) (s : LS), (s.low = none → s.l = []) → ((ts.foldl (lstep cost) s).low = none → (ts.foldl (lstep cost) s).l = []) := by
    intro ts
    induction ts with
    | nil => intro s h; exact h
    | cons T ts ih =>
      intro s h
      rw [List.foldl_cons]
      refine ih _ ?_
      unfold lstep
      cases hs : s.low with
      | none => intro h; cases h
      | some m =>
        dsimp only
        split
        · intro h; cases h
        · split
          · intro h; cases h
          · intro h; rw [hs] at h; cases h
  exact h ts _ (fun _ => rfl)

theorem lfold_some (cost : NT → Nat) (ts : List NT) {m : Nat} : (lfold cost ts).low = some m → 0 < (lfold cost ts).l.length := by
  have h : ∀ (ts : List NT) (s : LS), (∀ m, s.low = some m → 0 < s.l.length) → ∀ m, (ts.foldl (lstep cost) s).low = some m → 0 < (ts.foldl (lstep cost) s).l.length := by
    intro ts
    induction ts with
    | nil => intro s h; exact h
    | cons T ts ih =>
      intro s h
      rw [List.foldl_cons]
      refine ih _ fun k => ?_
      unfold lstep
      cases hs : s.low with
      | none => intro _; simp
      | some m =>
        dsimp only
        split
        · intro _; simp
        · split
          · intro _; simp
          · intro hk; exact h k hk
  exact h ts _ (fun _ h => by cases h) m

theorem lfold_len (cost : NT → Nat) (ts : List NT) : (lfold cost ts).l.length ≤ ts.length := by
  have h : ∀ (ts : List NT) (s : LS), (ts.foldl (lstep cost) s).l.length ≤ s.l.length + ts.length := by
    intro ts
    induction ts with
    | nil => intro s; exact Nat.le_refl _
    | cons T ts ih =>
      intro s
      rw [List.foldl_cons, List.length_cons]
      refine Nat.le_trans (ih _) ?_
      unfold lstep
      cases hs : s.low with
      | none => simp; omega
      | some m =>
        dsimp only
        split
        · simp; omega
        · split
          · simp; omega
          · omega
  have := h ts ⟨[], none⟩
  simpa [lfold] using this

theorem trees_few {z : Int} (h : z ≤ 7) : (treesOf z).length ≤ 10395 := by
  unfold treesOf
  split
  · rw [trees_length _ (by omega)]
    exact Nat.le_trans (count_le _ 6 (by omega)) (by decide)
  · simp

theorem lfold_few (cost : NT → Nat) {pre : List NT} {T : NT} {z : Int} (h : pre ++ [T] <+: treesOf z) (hz : z ≤ 7) : (lfold cost pre).l.length ≤ 10395 := by
  have h1 := lfold_len cost pre
  have h2 := h.length_le
  have h3 := trees_few hz
  simp only [List.length_append, List.length_singleton] at h2
  omega

def lowI : Option Nat → Int
  | none => -1
  | some m => (m : Int)

/-! ### In memory -/
/-- A tree's branches lie in a row. -/
def TreeRow (W : World) (base : Nat) (T : NT) (v : Value) : Prop := ∃ A c, v = .slice A T.size c ∧ W.ownsRow base 64 3 (.slice A T.size c) T.size (brs (T.form 0))

/-- A list of trees, a cell each. -/
structure TreesAt (W : World) (base : Nat) (v : Value) (L : List NT) (vs : List Value) : Prop where
  own : W.ownsRow base 26 1 v L.length vs
  rows : ∀ (i : Nat) (T : NT), L[i]? = some T → ∃ u, vs[i]? = some u ∧ TreeRow W base T u

theorem TreeRow.keep {B base : Nat} {W W' : World} {T : NT} {v : Value} (h : TreeRow W base T v) (k : Keep B W W') : TreeRow W' base T v := by
  obtain ⟨A, c, hv, ho⟩ := h
  exact ⟨A, c, hv, k.own ho⟩

theorem TreeRow.below {base : Nat} {W W' : World} {T : NT} {v : Value} (h : TreeRow W base T v) (k : Below W.heap.size W W') : TreeRow W' base T v := h.keep (Keep.of 0 k)

theorem TreesAt.keep {B base : Nat} {W W' : World} {v : Value} {L : List NT} {vs : List Value} (h : TreesAt W base v L vs) (k : Keep B W W') : TreesAt W' base v L vs :=
  ⟨k.own h.own, fun i T hi => by obtain ⟨u, h1, h2⟩ := h.rows i T hi; exact ⟨u, h1, h2.keep k⟩⟩

theorem TreesAt.below {base : Nat} {W W' : World} {v : Value} {L : List NT} {vs : List Value} (h : TreesAt W base v L vs) (k : Below W.heap.size W W') : TreesAt W' base v L vs := h.keep (Keep.of 0 k)

/-- A tree's row stands while a row of trees is appended to. -/
theorem TreeRow.upd {W W' : World} {T : NT} {u v v' : Value} {b base n : Nat} {xs : List Value} (h : TreeRow W b T u) (hu : Upd W W' v v') (ho : W.ownsRow base 26 1 v n xs) : TreeRow W' b T u := by
  obtain ⟨A, c, hv, h2⟩ := h
  refine ⟨A, c, hv, h2.kept hu.1 ?_⟩
  by_cases hn : (Value.slice A T.size c).ownBlock = none
  · exact .inl hn
  · refine .inr fun e => ?_
    obtain ⟨k, hk⟩ := Option.ne_none_iff_exists'.1 hn
    have e1 := own_elem ho k (e.symm.trans hk)
    have e2 := own_elem h2 k hk
    rw [e1] at e2
    exact absurd e2 (by decide)

theorem info_treeT : (Try.prog.info? 26).map (fun i => (i.zero, i.size, i.bytes)) = some (some (.agg #[.slice none 0 0]), 1, 24) := by kernel_rfl

/-- Cut to nothing. -/
theorem own_cut {W : World} {base n c : Nat} {A : Option Addr} {e : TypeId} {size : Nat} {xs : List Value} (h : W.ownsRow base e size (.slice A n c) n xs) : W.ownsRow base e size (.slice A 0 c) 0 [] := by
  refine ⟨by simp, ?_⟩
  rcases h.2 with ⟨hv, -⟩ | ⟨g, cap, cur, hv, hg, hh, h1, h2, h3, -⟩
  · obtain ⟨rfl, -, rfl⟩ : A = none ∧ n = 0 ∧ c = 0 := by simpa using hv
    exact .inl ⟨rfl, rfl⟩
  · obtain ⟨rfl, -, rfl⟩ : A = some ⟨g, 0, none⟩ ∧ n = n ∧ c = cap := by simpa using hv
    exact .inr ⟨g, c, cur, rfl, hg, hh, Nat.zero_le _, h2, h3, by simp⟩

theorem TreesAt.nil (W : World) (base : Nat) : TreesAt W base (.slice none 0 0) [] [] := ⟨World.ownsRow_nil _ _ _ _, fun i T h => by simp at h⟩

theorem TreesAt.snoc {W W' : World} {base : Nat} {v v' u : Value} {L : List NT} {vs : List Value} {T : NT} (h : TreesAt W base v L vs) (ho : W'.ownsRow base 26 1 v' (L.length + 1) (vs ++ [u])) (hu : Upd W W' v v') (ht : TreeRow W' base T u) : TreesAt W' base v' (L ++ [T]) (vs ++ [u]) := by
  have hl : vs.length = L.length := by simpa using h.own.1
  refine ⟨by simpa using ho, fun i S hi => ?_⟩
  by_cases hil : i < L.length
  · rw [List.getElem?_append_left hil] at hi
    obtain ⟨x, h1, h2⟩ := h.rows i S hi
    exact ⟨x, by rw [List.getElem?_append_left (by omega)]; exact h1, h2.upd hu h.own⟩
  · have hlt := (List.getElem?_eq_some_iff.1 hi).1
    simp only [List.length_append, List.length_singleton] at hlt
    obtain rfl : i = L.length := by omega
    rw [List.getElem?_append_right (Nat.le_refl _), Nat.sub_self] at hi
    obtain rfl : T = S := by simpa using hi
    exact ⟨u, by rw [List.getElem?_append_right (by omega)]; simp [hl], ht⟩

set_option maxHeartbeats 1000000 in
/-- The measure: a tree's changes by the matrix. -/
theorem measure_calls (bM c2 n2 base : Nat) (A2 : Option Addr) (rows : List (List Int)) (T : NT) (v : Value) (W : World) (hv : TreeRow W base T v) (hz : T.size ≤ 1000) (hM : W.cell? ⟨bM, 0, none⟩ = some (.slice A2 n2 c2)) (hr : RdRows W A2 rows) (hn : rows.length = n2) (hcap : n2 ≤ 9223372036854775807) :
    Calls Try.prog 63 #[.agg #[v], .pointer (some ⟨bM, 0, none⟩)] W fun e w' => e = .returned (.int .i64 (sumNum (T.form 0) rows : Int)) ∧ Below W.heap.size W w' := by
  obtain ⟨A, c, rfl, ho⟩ := hv
  have hb := below_alloc W (.cells #[.slice A T.size c] 26)
  have hM := cell_below hb (cell_lt hM) hM
  have HS := Lib.hid (sum_calls A T.size c (T.form 0) A2 n2 c2 rows (W.alloc (.cells #[.slice A T.size c] 26)) ⟨(own_rd ho).1.below hb, NT.form_length T 0, by omega, hr.below hb, hn, hcap⟩)
  have HB := Lib.hid hb
  clear ho hb hr hn
  go_enter Try.func63, Try.ntmps63
  go_wp2_with fail
  (with_reducible refine HS.out.mono ?_)
  rintro e w1 ⟨rfl, hb1⟩
  have HB1 := Lib.hid (Below.then HB.out HB.out.size hb1)
  clear hb1 HS
  go_wp2_with fail
  go_ret
  exact ⟨rfl, HB1.out⟩

theorem TreeRow.set {W : World} {base b j : Nat} {T : NT} {v : Value} (h : TreeRow W base T v) (hb : b < base) (u : Value) : TreeRow (W.setCell ⟨b, j, none⟩ u) base T v := by
  obtain ⟨A, c, hv, ho⟩ := h
  exact ⟨A, c, hv, ownsRow_setCell_below ho (a := ⟨b, j, none⟩) hb u⟩

theorem TreesAt.set {W : World} {base b j : Nat} {v : Value} {L : List NT} {vs : List Value} (h : TreesAt W base v L vs) (hb : b < base) (u : Value) : TreesAt (W.setCell ⟨b, j, none⟩ u) base v L vs :=
  ⟨ownsRow_setCell_below h.own (a := ⟨b, j, none⟩) hb u, fun i T hi => by obtain ⟨x, h1, h2⟩ := h.rows i T hi; exact ⟨x, h1, h2.set hb u⟩⟩

/-- 'append(s, x)' of one element of some cells, inside a fence. -/
theorem gwalk_append1 {F : Fence} {nF : Nat} {P : Program} {ops : Array Oper} {rest : List Oper} {o : Oper} {a : Act} {Q : Exit → Act → World → Prop} {W : World} {base : Nat} {e : TypeId} {size : Nat} {v : Value} {n : Nat} {xs : List Value}
    (HO : W.ownsRow base e size v n xs) (hbase : base ≤ W.heap.size) (hl : n + 1 ≤ 1000000000) (t : TypeId) (ht : P.underlying t = some (.slice e)) {z : Value} {bytes : Nat}
    (hinfo : (P.info? e).map (fun i => (i.zero, i.size, i.bytes)) = some (some z, size, bytes)) (hz : z.cells.size = size ∧ 0 < size ∧ bytes ≤ 1000)
    (cs : Array Value) (h1 : cs.size = size ∧ ∀ u ∈ cs.toList, u.oneCell' = true)
    {s x : Operand} {q : Nat} (hop : o.guard = none ∧ o.op = .call { callee := .builtin .append, args := #[s, x], argTypes := #[t, t] } ∧ a.eval s = v ∧ a.eval x = .slice (some ⟨q, 0, none⟩) 1 1 ∧ q = W.heap.size)
    (h : ∀ v1 w1, w1.ownsRow base e size v1 (n + 1) (xs ++ cs.toList) → Upd W w1 v v1 → wpListIn F nF P ops Q rest (a.put o.dst v1) w1) :
    wpListIn F nF P ops Q (o :: rest) a (W.alloc (.cells cs e)) := by
  obtain ⟨hgd, ho, hs, hx, rfl⟩ := hop
  obtain ⟨i0, hi, hz0, hz1, hz2⟩ := info_parts hinfo
  have hb : (n + 1) * bytes ≤ 1000000000 * 1000 := Nat.mul_le_mul hl hz.2.2
  refine wpListIn_append_own_at (w := W.alloc (.cells cs e)) hgd s x t ho base e i0 z size bytes ht hi hz0 hz1 hz2 hz.1 hz.2.1 v n xs hs (HO.alloc _) ⟨W.heap.size, 0, none⟩ 1 1 cs.toList hx (by simp [h1.1])
    ?_ h1.2 (by simp only [maxLen]; omega) (by omega) (by simp; omega) ?_
  · intro j u hj
    rw [add_plain, Nd.cell (heap_alloc_new W _) j]
    simpa using hj
  · intro v1 w1 hown hg _ hat
    refine h v1 w1 hown ⟨World.grownBy.trans (World.grownBy_alloc W _ _) hg, ?_⟩
    rcases hat with hat | hat
    · exact .inl hat
    · exact .inr ⟨_, hat, by simp⟩

/-! ### What a round leaves to the iterator and the loop -/
theorem ItKeep.set {B0 B1 : Nat} {W : World} {b : Nat} {v : Value} {t : TypeId} (h : W.heap[b]? = some (.cells #[v] t (0, 0))) (ht : t ≠ 98) (hb : b < B0) (u : Value) : ItKeep B0 B1 W (W.setCell ⟨b, 0, none⟩ u) := by
  refine ⟨by simp, fun k cs hc => Below.heap_setCell _ _ _ _ ?_, fun k h0 _ _ => Below.heap_setCell _ _ _ _ (by show k ≠ b; omega)⟩
  rintro rfl
  rw [h] at hc
  simp only [Option.some.injEq, Obj.cells.injEq] at hc
  exact ht hc.2.1

theorem ItKeep.upd {B0 B1 : Nat} {W W' : World} {v v' : Value} {base n size : Nat} {e : TypeId} {xs : List Value} (hu : Upd W W' v v') (ho : W.ownsRow base e size v n xs) (he : e ≠ 98) (hb : B1 ≤ base) : ItKeep B0 B1 W W' := by
  refine ⟨hu.1.size, fun k cs hc => hu.1.block k (Array.getElem?_eq_some_iff.1 hc).1 ?_, fun k _ h1 hk => hu.1.block k hk ?_⟩
  · intro h
    have := own_elem ho k h.symm
    simp only [elemAt, hc, Option.some.injEq] at this
    exact he this.symm
  · intro h
    have := own_base ho k h.symm
    omega

theorem keepsOthers_upd {W W' : World} {v v' : Value} {base n size : Nat} {e : TypeId} {xs : List Value} (hu : Upd W W' v v') (ho : W.ownsRow base e size v n xs) : KeepsOthers W W' := by
  refine ⟨hu.1.size, fun k o hk hc => (hu.1.block k (Array.getElem?_eq_some_iff.1 hk).1 ?_).trans hk⟩
  intro h
  have := own_elem ho k h.symm
  unfold elemAt at this
  rw [hk] at this
  cases o <;> simp_all [Obj.isCells]

theorem keepsOthers_below {W W' : World} (h : Below W.heap.size W W') : KeepsOthers W W' := ⟨h.size, fun k _ hk _ => (h.block k (Array.getElem?_eq_some_iff.1 hk).1).trans hk⟩
end Go.Proofs.Ytbmlkomfelkckaa
