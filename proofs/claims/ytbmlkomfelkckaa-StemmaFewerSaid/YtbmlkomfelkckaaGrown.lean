/- tree.grown and its closure: all trees' nodes, one by one, handed to a function value. Inside the wide fence. -/
import Derived.RangeFuncKeeps
import Derived.RangeFuncBound
import Derived.RangeFuncLeaves
import Derived.RangeFuncCalls
import Derived.Shelf.Abstract
import Derived.OwnWalkIn
import Derived.TacticsInMore
import Derived.LoopNIn
import Derived.LoopIn
import Derived.Test.YtbmlkomfelkckaaHung
namespace Go.Proofs.Ytbmlkomfelkckaa
open Go Go.RowKit
set_option maxRecDepth 100000

/-- What the iterator must find again behind a round that goes on: the nodes, and the boxes of its closures. -/
structure ItKeep (B0 B1 : Nat) (W W' : World) : Prop where
  size : W.heap.size ≤ W'.heap.size
  nodes : ∀ (b : Nat) (cs : Array Value), W.heap[b]? = some (.cells cs 98 (0, 0)) → W'.heap[b]? = W.heap[b]?
  boxes : ∀ k, B0 ≤ k → k < B1 → k < W.heap.size → W'.heap[k]? = W.heap[k]?

theorem ItKeep.of {W W' : World} (B0 B1 : Nat) (h : Below W.heap.size W W') : ItKeep B0 B1 W W' :=
  ⟨h.size, fun b _ hc => h.block b (Array.getElem?_eq_some_iff.1 hc).1, fun k _ _ hk => h.block k hk⟩

theorem ItKeep.trans {B0 B1 : Nat} {W W1 W2 : World} (h : ItKeep B0 B1 W W1) (k : ItKeep B0 B1 W1 W2) : ItKeep B0 B1 W W2 :=
  ⟨Nat.le_trans h.size k.size, fun b cs hc => (k.nodes b cs ((h.nodes b cs hc).trans hc)).trans (h.nodes b cs hc),
    fun b h0 h1 hb => (k.boxes b h0 h1 (Nat.lt_of_lt_of_le hb h.size)).trans (h.boxes b h0 h1 hb)⟩

theorem ItKeep.nd {B0 B1 : Nat} {W W' : World} (h : ItKeep B0 B1 W W') {T : NT} {p : Value} (hn : Nd W T p) : Nd W' T p := hn.keep h.nodes

theorem cell_lt {W : World} {b j : Nat} {v : Value} (h : W.cell? ⟨b, j, none⟩ = some v) : b < W.heap.size := by
  unfold World.cell? at h
  rcases hb : W.heap[b]? with _ | o
  · simp [hb] at h
  · exact (Array.getElem?_eq_some_iff.1 hb).1

theorem ItKeep.cell {B0 B1 : Nat} {W W' : World} (h : ItKeep B0 B1 W W') {b j : Nat} {v : Value} (h0 : B0 ≤ b) (h1 : b < B1) (hc : W.cell? ⟨b, j, none⟩ = some v) : W'.cell? ⟨b, j, none⟩ = some v :=
  (World.cell?_of_block (h.boxes b h0 h1 (cell_lt hc))).trans hc

/-- The function values that grown is handed: All's own closure, or grown's. -/
inductive YV where
  | top (b : Nat)
  | mid (bl bv : Nat)

def YV.val : YV → Value
  | .top b => .func (.func 67) #[] #[.pointer (some ⟨b, 0, none⟩)]
  | .mid bl bv => .func (.func 99) #[] #[.pointer (some ⟨bl, 0, none⟩), .pointer (some ⟨bv, 0, none⟩)]

/-- A call of the function value with a node. -/
def YV.CallsAt (y : YV) (m b : Nat) (W : World) (R : Ending → World → Prop) : Prop :=
  match y with
  | .top c => CallsIn Fence.wide m Try.prog 67 #[.pointer (some ⟨b, 0, none⟩), .pointer (some ⟨c, 0, none⟩)] W R
  | .mid bl bv => CallsIn Fence.wide m Try.prog 99 #[.pointer (some ⟨b, 0, none⟩), .pointer (some ⟨bl, 0, none⟩), .pointer (some ⟨bv, 0, none⟩)] W R

/-- What a call with the next node does: it goes on, or says 'no more'. -/
def RetY (B0 B1 : Nat) (J Jx : List NT → World → Prop) (pre : List NT) (W : World) (e : Ending) (W' : World) : Prop :=
  (e = .returned (.bool true) ∧ J pre W' ∧ ItKeep B0 B1 W W') ∨ (e = .returned (.bool false) ∧ Jx pre W')

/-- A function value that takes the nodes of the list's trees, one by one. -/
def Takes (y : YV) (B0 B1 : Nat) (L : List NT) (J Jx : List NT → World → Prop) : Prop :=
  ∀ (m b : Nat) (T : NT) (pre : List NT) (W : World), J pre W → B1 ≤ W.heap.size → Nd W T (.pointer (some ⟨b, 0, none⟩)) → pre ++ [T] <+: L → y.CallsAt m b W (RetY B0 B1 J Jx (pre ++ [T]) W)

def Abide (J : List NT → World → Prop) : Prop := ∀ pre W W', J pre W → Below W.heap.size W W' → J pre W'

/-- What grown leaves. -/
def RetGrown (J Jx : List NT → World → Prop) (L : List NT) (e : Ending) (W' : World) : Prop :=
  (e = .returned (.bool true) ∧ J L W') ∨ (e = .returned (.bool false) ∧ ∃ q, q <+: L ∧ Jx q W')

set_option maxHeartbeats 1000000 in
theorem grown_one (y : YV) (B0 B1 m : Nat) (J Jx : List NT → World → Prop) (hY : Takes y B0 B1 (treesUp 0) J Jx) (hJ : Abide J) (W : World) (h0 : J [] W) (hB1 : B1 ≤ W.heap.size + 2) :
    CallsIn Fence.wide m Try.prog 66 #[.int .i64 1, y.val] W fun e W' => RetGrown J Jx (treesUp 0) e W' := by
  have hb1 := below_alloc W (.cells #[.int .i64 1] 3)
  have hb2 := below_alloc (W.alloc (.cells #[.int .i64 1] 3)) (.cells #[y.val] 114)
  have hb3 := below_alloc ((W.alloc (.cells #[.int .i64 1] 3)).alloc (.cells #[y.val] 114)) (.cells #[.int .i64 0, .pointer none, .pointer none] 98)
  have hn : Nd (((W.alloc (.cells #[.int .i64 1] 3)).alloc (.cells #[y.val] 114)).alloc (.cells #[.int .i64 0, .pointer none, .pointer none] 98)) (.leaf 0) (.pointer (some ⟨W.heap.size + 1 + 1, 0, none⟩)) := by
    refine ⟨_, rfl, ?_⟩
    have := heap_alloc_new ((W.alloc (.cells #[.int .i64 1] 3)).alloc (.cells #[y.val] 114)) (.cells #[.int .i64 0, .pointer none, .pointer none] 98)
    simpa using this
  have HC := Lib.hid (hY (m - 1) (W.heap.size + 1 + 1) (.leaf 0) [] _ (hJ _ _ _ (hJ _ _ _ (hJ _ _ _ h0 hb1) hb2) hb3) (by simp; omega) hn (List.prefix_refl _))
  clear hb1 hb2 hb3 hn hY hJ h0
  cases y with
  | top c =>
    refine callsIn_of_wp Try.func66 rfl trivial ?_ rfl
    simp only [Try.ntmps66, List.size_toArray, List.length_cons, List.length_nil, Nat.reduceAdd, Nat.reduceSub, Array.replicate_succ, Array.replicate_zero, List.push_toArray, List.append_toArray, List.nil_append, List.cons_append, YV.val] at HC ⊢
    gi_wp2_with fail
    refine ⟨trivial, fun h => (by cases h), ?_⟩
    refine CallsIn.mono HC.out ?_
    rintro e w' (⟨rfl, hj, -⟩ | ⟨rfl, hx⟩)
    · have HJ := Lib.hid hj
      clear hj HC
      gi_wp2_with fail
      go_ret
      exact .inl ⟨rfl, HJ.out⟩
    · have HJ := Lib.hid hx
      clear hx HC
      gi_wp2_with fail
      go_ret
      exact .inr ⟨rfl, _, List.prefix_refl _, HJ.out⟩
  | mid bl bv =>
    refine callsIn_of_wp Try.func66 rfl trivial ?_ rfl
    simp only [Try.ntmps66, List.size_toArray, List.length_cons, List.length_nil, Nat.reduceAdd, Nat.reduceSub, Array.replicate_succ, Array.replicate_zero, List.push_toArray, List.append_toArray, List.nil_append, List.cons_append, YV.val] at HC ⊢
    gi_wp2_with fail
    refine ⟨trivial, fun h => (by cases h), ?_⟩
    refine CallsIn.mono HC.out ?_
    rintro e w' (⟨rfl, hj, -⟩ | ⟨rfl, hx⟩)
    · have HJ := Lib.hid hj
      clear hj HC
      gi_wp2_with fail
      go_ret
      exact .inl ⟨rfl, HJ.out⟩
    · have HJ := Lib.hid hx
      clear hx HC
      gi_wp2_with fail
      go_ret
      exact .inr ⟨rfl, _, List.prefix_refl _, HJ.out⟩

theorem prefix_mem {α : Type} {pre L : List α} {x : α} (h : pre ++ [x] <+: L) : x ∈ L := h.subset (by simp)

/-- The next of the trees that a leaf more makes. -/
theorem next_prefix {k : Nat} {T : NT} {pre : List NT} (h : pre ++ [T] <+: treesUp k) {p : Nat} (hp : p < T.size) :
    (pre.flatMap (fun T => cands T (k + 1)) ++ (cands T (k + 1)).take p) ++ [T.hung (p : Int) (k + 1)] <+: treesUp (k + 1) := by
  obtain ⟨R, hR⟩ := h
  rw [List.append_assoc, ← cands_take T (k + 1) p hp, treesUp, ← hR, List.flatMap_append, List.flatMap_append, List.flatMap_cons, List.flatMap_nil, List.append_nil]
  refine List.IsPrefix.trans ?_ (List.prefix_append _ _)
  exact (List.prefix_append_right_inj _).2 (List.take_prefix _ _)

set_option maxHeartbeats 2000000 in
theorem grown_more (y : YV) (B0 B1 k bl bv : Nat) (J Jx : List NT → World → Prop) (hk : k ≤ 10) (hY : Takes y B0 B1 (treesUp (k + 1)) J Jx) (hJ : Abide J) (hbl : B0 ≤ bl ∧ bl < B1) (hbv : B0 ≤ bv ∧ bv < B1) :
    Takes (.mid bl bv) B0 B1 (treesUp k) (fun pre W => J (pre.flatMap fun T => cands T (k + 1)) W ∧ W.cell? ⟨bl, 0, none⟩ = some (.int .i64 ((k + 2 : Nat) : Int)) ∧ W.cell? ⟨bv, 0, none⟩ = some y.val) (fun _ W => ∃ q, q <+: treesUp (k + 1) ∧ Jx q W) := by
  intro m b T pre W ⟨hj0, c1, c2⟩ hB1 hn hpre
  show CallsIn _ _ _ _ _ _ _
  obtain ⟨hon, -⟩ := trees_on k (by omega) T (prefix_mem hpre)
  have hsz := hon.size
  obtain ⟨sz, hs⟩ : ∃ sz, sz = T.size := ⟨_, rfl⟩
  obtain ⟨l, hl⟩ : ∃ l, l = k + 2 := ⟨_, rfl⟩
  obtain ⟨k1, hk1⟩ : ∃ k1, k1 = k + 1 := ⟨_, rfl⟩
  have HSZ : Hid (sz = T.size ∧ T.size = 2 * k + 1) := ⟨hs, by omega⟩
  have HL := Lib.hid hl.symm
  have HK1' := Lib.hid hk1
  have q1 : 2 * (l : Int) - 3 = (sz : Int) := by omega
  have q2 : (l : Int) - 1 = (k1 : Int) := by omega
  have hlI : (l : Int) ≤ 12 := by omega
  have hl0 : 2 ≤ (l : Int) := by omega
  have hszI : (sz : Int) ≤ 23 := by omega
  rw [← hl] at c1
  have HN := Lib.hid hn
  have HJ0 := Lib.hid hj0
  have hY := Lib.hid hY
  have hJ := Lib.hid hJ
  have HZ := Lib.hid hB1
  have HP := Lib.hid (fun p (hp : p < T.size) => next_prefix hpre hp)
  have HT := Lib.hid (fun p (hp : p < T.size) => cands_take T (k + 1) p hp)
  clear hn hj0 hB1 hpre hon hsz hs hl hk1
  cases y with
  | top c =>
    simp only [YV.val] at c2
    refine callsIn_of_wp Try.func99 rfl trivial ?_ rfl
    simp only [Try.ntmps99, List.size_toArray, List.length_cons, List.length_nil, Nat.reduceAdd, Nat.reduceSub, Array.replicate_succ, Array.replicate_zero, List.push_toArray, List.append_toArray, List.nil_append, List.cons_append]
    gi_wp2_with fail
    gi_loopw [11] (fun v11 wr => ∃ p : Nat, v11 = .int .i64 p ∧ p ≤ sz ∧ Hid (J (pre.flatMap (fun T => cands T (k + 1)) ++ (cands T (k + 1)).take p) wr) ∧ Hid (ItKeep B0 B1 W wr) ∧ wr.cell? ⟨bl, 0, none⟩ = some (.int .i64 (l : Int)) ∧ wr.cell? ⟨bv, 0, none⟩ = some (.func (.func 67) #[] #[.pointer (some ⟨c, 0, none⟩)])) (fun v11 _ => sz - (intOf v11).toNat)
    case atStart => exact ⟨0, rfl, Nat.zero_le _, by show J _ _; simpa using HJ0.out, ItKeep.of _ _ (Below.refl _ _), c1, c2⟩
    case round =>
      obtain ⟨p, rfl, hp, HJ, HK, c1, c2⟩ := hrel
      by_cases hps : p < sz
      · have hpI : (p : Int) < sz := by omega
        have hH := hung_calls (k + 1) T (p : Int) wr b (by have := HSZ.out; omega) (by have := HSZ.out; omega) (by omega) (HK.out.nd HN.out)
        rw [← HK1'.out] at hH
        have HH := Lib.hid (callsIn_wide (n := m - 1).2 hH)
        clear hH
        gi_wp2_with fail
        refine ⟨trivial, fun h => (by cases h), ?_⟩
        (with_reducible refine CallsIn.mono HH.out ?_)
        rintro e w1 ⟨bx, rfl, hx, hb1⟩
        have c1 := cell_below hb1 (cell_lt c1) c1
        have c2 := cell_below hb1 (cell_lt c2) c2
        rw [HK1'.out] at hx
        have hC := (hY.out (m - 1) bx _ _ w1 (hJ.out _ _ _ HJ.out hb1) (Nat.le_trans HZ.out (Nat.le_trans HK.out.size hb1.size)) hx (HP.out p (by have := HSZ.out; omega)))
        simp only [YV.CallsAt] at hC
        have HC := Lib.hid hC
        have HK1 := Lib.hid (HK.out.trans (ItKeep.of B0 B1 hb1))
        clear hx hb1 HH hC
        gi_wp2_with fail
        refine ⟨trivial, fun h => (by cases h), ?_⟩
        (with_reducible refine CallsIn.mono HC.out ?_)
        rintro e w2 (⟨rfl, hj, hk2⟩ | ⟨rfl, hx⟩)
        · have c1 := hk2.cell hbl.1 hbl.2 c1
          have c2 := hk2.cell hbv.1 hbv.2 c2
          have HK2 := Lib.hid (HK1.out.trans hk2)
          have HJ2 := Lib.hid hj
          clear hj hk2 HC
          gi_wp2_with fail
          go_roundw
          case rel =>
            refine ⟨p + 1, by go_num, by omega, ?_, HK2.out, c1, c2⟩
            show J _ _
            rw [HT.out p (by have := HSZ.out; omega), ← List.append_assoc]
            exact HJ2.out
          case measure => simp [intOf]; omega
        · have HX2 := Lib.hid hx
          clear hx HC
          gi_wp2_with fail
          go_ret
          exact .inr ⟨rfl, _, HP.out p (by have := HSZ.out; omega), HX2.out⟩
      · have hpI : ¬ (p : Int) < sz := by omega
        have HJE : Hid (J (pre.flatMap (fun T => cands T (k + 1)) ++ cands T (k + 1)) wr) := by
          have := HJ.out
          rw [List.take_of_length_le (by rw [cands_length]; have := HSZ.out; omega)] at this
          exact this
        clear hps
        gi_wp2_with fail
        go_ret
        refine .inl ⟨rfl, ⟨?_, by have h := c1; rw [← HL.out] at h; simpa using h, c2⟩, HK.out⟩
        rw [List.flatMap_append, List.flatMap_cons, List.flatMap_nil, List.append_nil]
        exact HJE.out
  | mid bl2 bv2 =>
    simp only [YV.val] at c2
    refine callsIn_of_wp Try.func99 rfl trivial ?_ rfl
    simp only [Try.ntmps99, List.size_toArray, List.length_cons, List.length_nil, Nat.reduceAdd, Nat.reduceSub, Array.replicate_succ, Array.replicate_zero, List.push_toArray, List.append_toArray, List.nil_append, List.cons_append]
    gi_wp2_with fail
    gi_loopw [11] (fun v11 wr => ∃ p : Nat, v11 = .int .i64 p ∧ p ≤ sz ∧ Hid (J (pre.flatMap (fun T => cands T (k + 1)) ++ (cands T (k + 1)).take p) wr) ∧ Hid (ItKeep B0 B1 W wr) ∧ wr.cell? ⟨bl, 0, none⟩ = some (.int .i64 (l : Int)) ∧ wr.cell? ⟨bv, 0, none⟩ = some (.func (.func 99) #[] #[.pointer (some ⟨bl2, 0, none⟩), .pointer (some ⟨bv2, 0, none⟩)])) (fun v11 _ => sz - (intOf v11).toNat)
    case atStart => exact ⟨0, rfl, Nat.zero_le _, by show J _ _; simpa using HJ0.out, ItKeep.of _ _ (Below.refl _ _), c1, c2⟩
    case round =>
      obtain ⟨p, rfl, hp, HJ, HK, c1, c2⟩ := hrel
      by_cases hps : p < sz
      · have hpI : (p : Int) < sz := by omega
        have hH := hung_calls (k + 1) T (p : Int) wr b (by have := HSZ.out; omega) (by have := HSZ.out; omega) (by omega) (HK.out.nd HN.out)
        rw [← HK1'.out] at hH
        have HH := Lib.hid (callsIn_wide (n := m - 1).2 hH)
        clear hH
        gi_wp2_with fail
        refine ⟨trivial, fun h => (by cases h), ?_⟩
        (with_reducible refine CallsIn.mono HH.out ?_)
        rintro e w1 ⟨bx, rfl, hx, hb1⟩
        have c1 := cell_below hb1 (cell_lt c1) c1
        have c2 := cell_below hb1 (cell_lt c2) c2
        rw [HK1'.out] at hx
        have hC := (hY.out (m - 1) bx _ _ w1 (hJ.out _ _ _ HJ.out hb1) (Nat.le_trans HZ.out (Nat.le_trans HK.out.size hb1.size)) hx (HP.out p (by have := HSZ.out; omega)))
        simp only [YV.CallsAt] at hC
        have HC := Lib.hid hC
        have HK1 := Lib.hid (HK.out.trans (ItKeep.of B0 B1 hb1))
        clear hx hb1 HH hC
        gi_wp2_with fail
        refine ⟨trivial, fun h => (by cases h), ?_⟩
        (with_reducible refine CallsIn.mono HC.out ?_)
        rintro e w2 (⟨rfl, hj, hk2⟩ | ⟨rfl, hx⟩)
        · have c1 := hk2.cell hbl.1 hbl.2 c1
          have c2 := hk2.cell hbv.1 hbv.2 c2
          have HK2 := Lib.hid (HK1.out.trans hk2)
          have HJ2 := Lib.hid hj
          clear hj hk2 HC
          gi_wp2_with fail
          go_roundw
          case rel =>
            refine ⟨p + 1, by go_num, by omega, ?_, HK2.out, c1, c2⟩
            show J _ _
            rw [HT.out p (by have := HSZ.out; omega), ← List.append_assoc]
            exact HJ2.out
          case measure => simp [intOf]; omega
        · have HX2 := Lib.hid hx
          clear hx HC
          gi_wp2_with fail
          go_ret
          exact .inr ⟨rfl, _, HP.out p (by have := HSZ.out; omega), HX2.out⟩
      · have hpI : ¬ (p : Int) < sz := by omega
        have HJE : Hid (J (pre.flatMap (fun T => cands T (k + 1)) ++ cands T (k + 1)) wr) := by
          have := HJ.out
          rw [List.take_of_length_le (by rw [cands_length]; have := HSZ.out; omega)] at this
          exact this
        clear hps
        gi_wp2_with fail
        go_ret
        refine .inl ⟨rfl, ⟨?_, by have h := c1; rw [← HL.out] at h; simpa using h, c2⟩, HK.out⟩
        rw [List.flatMap_append, List.flatMap_cons, List.flatMap_nil, List.append_nil]
        exact HJE.out
end Go.Proofs.Ytbmlkomfelkckaa
