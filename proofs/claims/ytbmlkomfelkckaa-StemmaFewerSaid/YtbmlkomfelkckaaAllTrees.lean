/- tree.All: all trees, one by one, handed to yield. Inside the wide fence. -/
import Derived.Test.YtbmlkomfelkckaaGrown
import Derived.Test.YtbmlkomfelkckaaList
import Derived.Shelf.RegionOpen
namespace Go.Proofs.Ytbmlkomfelkckaa
open Go Go.RowKit
set_option maxRecDepth 100000

attribute [local go_sem] Oper.semAt_some

set_option maxHeartbeats 2000000 in
theorem grown_all : ∀ (k m : Nat) (y : YV) (J Jx : List NT → World → Prop) (B0 : Nat) (W : World), k ≤ 11 → Takes y B0 (W.heap.size + 2 * (k + 1)) (treesUp k) J Jx → Abide J → J [] W → B0 ≤ W.heap.size →
    CallsIn Fence.wide m Try.prog 66 #[.int .i64 ((k + 1 : Nat) : Int), y.val] W (RetGrown J Jx (treesUp k)) := by
  intro k
  induction k with
  | zero =>
    intro m y J Jx B0 W _ hY hJ h0 hB
    exact grown_one y B0 _ m J Jx hY hJ W h0 (Nat.le_refl _)
  | succ k ih =>
    intro m y J Jx B0 W hk hY hJ h0 hB
    have hb1 := below_alloc W (.cells #[.int .i64 ((k + 2 : Nat) : Int)] 3)
    have hb2 := below_alloc (W.alloc (.cells #[.int .i64 ((k + 2 : Nat) : Int)] 3)) (.cells #[y.val] 114)
    have c1 := cell_below hb2 (by simp) (new_cell W #[.int .i64 ((k + 2 : Nat) : Int)] 3 0)
    have c2 := new_cell (W.alloc (.cells #[.int .i64 ((k + 2 : Nat) : Int)] 3)) #[y.val] 114 0
    rw [World.size_alloc] at c2
    have hm := grown_more y B0 (W.heap.size + 2 * (k + 1 + 1)) k W.heap.size (W.heap.size + 1) J Jx (by omega) hY hJ ⟨hB, by omega⟩ ⟨by omega, by omega⟩
    have hJ' : Abide (fun pre W' => J (pre.flatMap fun T => cands T (k + 1)) W' ∧ W'.cell? ⟨W.heap.size, 0, none⟩ = some (.int .i64 ((k + 2 : Nat) : Int)) ∧ W'.cell? ⟨W.heap.size + 1, 0, none⟩ = some y.val) :=
      fun pre A B ⟨h1, h2, h3⟩ hb => ⟨hJ _ _ _ h1 hb, cell_below hb (cell_lt h2) h2, cell_below hb (cell_lt h3) h3⟩
    have hsz : ((W.alloc (.cells #[.int .i64 ((k + 2 : Nat) : Int)] 3)).alloc (.cells #[y.val] 114)).heap.size = W.heap.size + 2 := by simp
    have hC := ih (m - 1) (.mid W.heap.size (W.heap.size + 1)) _ _ B0 ((W.alloc (.cells #[.int .i64 ((k + 2 : Nat) : Int)] 3)).alloc (.cells #[y.val] 114)) (by omega) (by rw [hsz, show W.heap.size + 2 + 2 * (k + 1) = W.heap.size + 2 * (k + 1 + 1) by omega]; exact hm) hJ' ⟨hJ _ _ _ (hJ _ _ _ h0 hb1) hb2, c1, c2⟩ (by rw [hsz]; omega)
    obtain ⟨l, hl⟩ : ∃ l, l = k + 1 + 1 := ⟨_, rfl⟩
    obtain ⟨k1, hk1⟩ : ∃ k1, k1 = k + 1 := ⟨_, rfl⟩
    have q1 : ((l : Int) == 1) = false := by rw [beq_eq_false_iff_ne]; omega
    have q2 : (l : Int) - 1 = (k1 : Int) := by omega
    have hlI : (l : Int) ≤ 12 := by omega
    rw [show k + 2 = l from hl.symm, ← hk1] at hC
    rw [← hl]
    simp only [YV.val] at hC
    have HC := Lib.hid hC
    have HK1 := Lib.hid hk1
    clear hC hm hJ' hsz hb1 hb2 c1 c2 hY hJ h0 hl hk1 ih
    cases y with
    | top c =>
      simp only [YV.val] at HC ⊢
      refine callsIn_of_wp Try.func66 rfl trivial ?_ rfl
      simp only [Try.ntmps66, List.size_toArray, List.length_cons, List.length_nil, Nat.reduceAdd, Nat.reduceSub, Array.replicate_succ, Array.replicate_zero, List.push_toArray, List.append_toArray, List.nil_append, List.cons_append]
      gi_wp2_with fail
      refine ⟨trivial, fun h => (by cases h), ?_⟩
      (with_reducible refine CallsIn.mono HC.out ?_)
      rintro e w' (⟨rfl, hj, -, -⟩ | ⟨rfl, q, -, q', hq', hx⟩)
      · have HJ : Hid (J (treesUp (k + 1)) w') := by
          show J _ _
          rw [treesUp, ← HK1.out]
          exact hj
        clear hj HC
        gi_wp2_with fail
        go_ret
        exact .inl ⟨rfl, HJ.out⟩
      · have HJ := Lib.hid hx
        rw [HK1.out] at hq'
        have HQ := Lib.hid hq'
        clear hx HC hq'
        gi_wp2_with fail
        go_ret
        exact .inr ⟨rfl, _, HQ.out, HJ.out⟩
    | mid bl bv =>
      simp only [YV.val] at HC ⊢
      refine callsIn_of_wp Try.func66 rfl trivial ?_ rfl
      simp only [Try.ntmps66, List.size_toArray, List.length_cons, List.length_nil, Nat.reduceAdd, Nat.reduceSub, Array.replicate_succ, Array.replicate_zero, List.push_toArray, List.append_toArray, List.nil_append, List.cons_append]
      gi_wp2_with fail
      refine ⟨trivial, fun h => (by cases h), ?_⟩
      (with_reducible refine CallsIn.mono HC.out ?_)
      rintro e w' (⟨rfl, hj, -, -⟩ | ⟨rfl, q, -, q', hq', hx⟩)
      · have HJ : Hid (J (treesUp (k + 1)) w') := by
          show J _ _
          rw [treesUp, ← HK1.out]
          exact hj
        clear hj HC
        gi_wp2_with fail
        go_ret
        exact .inl ⟨rfl, HJ.out⟩
      · have HJ := Lib.hid hx
        rw [HK1.out] at hq'
        have HQ := Lib.hid hq'
        clear hx HC hq'
        gi_wp2_with fail
        go_ret
        exact .inr ⟨rfl, _, HQ.out, HJ.out⟩

/-- What the loop over All owes: a round for each tree, whose branches lie in a row of their own. -/
def TakesTrees (l B0 B1 : Nat) (L : List NT) (J Jx : List NT → World → Prop) : Prop :=
  ∀ (m : Nat) (T : NT) (A : Option Addr) (c : Nat) (pre : List NT) (W0 W1 : World), J pre W0 → B1 ≤ W0.heap.size → Below W0.heap.size W0 W1 → W1.ownsRow W0.heap.size 64 3 (.slice A T.size c) T.size (brs (T.form 0)) → pre ++ [T] <+: L →
    YieldAt Fence.wide m Try.prog l #[.agg #[.slice A T.size c]] W1 (RetY B0 B1 J Jx (pre ++ [T]) W1)

theorem RetY.val {B0 B1 : Nat} {J Jx : List NT → World → Prop} {pre : List NT} {W W' : World} {e : Ending} (h : RetY B0 B1 J Jx pre W e W') :
    ∃ v, e = .returned (.bool v) ∧ ((v = true ∧ J pre W' ∧ ItKeep B0 B1 W W') ∨ (v = false ∧ Jx pre W')) := by
  rcases h with ⟨he, h1, h2⟩ | ⟨he, h1⟩
  · exact ⟨true, he, .inl ⟨rfl, h1, h2⟩⟩
  · exact ⟨false, he, .inr ⟨rfl, h1⟩⟩

set_option maxHeartbeats 2000000 in
theorem top_takes (l B0 B1 b k : Nat) (J Jx : List NT → World → Prop) (hk : k ≤ 11) (hY : TakesTrees l B0 B1 (treesUp k) J Jx) (hb : B0 ≤ b ∧ b < B1) :
    Takes (.top b) B0 B1 (treesUp k) (fun pre W => J pre W ∧ W.cell? ⟨b, 0, none⟩ = some (.func (.yield l) #[] #[])) Jx := by
  intro m bn T pre W ⟨hj, c1⟩ hB hn hpre
  show CallsIn _ _ _ _ _ _ _
  obtain ⟨hon, -⟩ := trees_on k hk T (prefix_mem hpre)
  have hsz := hon.size
  have hfew := hon.few
  have HT := Lib.hid (fun (W' : World) (h : Below W.heap.size W W') => callsIn_wide (n := m - 1).2 (tree_calls T W' bn (hn.below h) (by omega)))
  have HY := Lib.hid (fun (A : Option Addr) (c : Nat) (W1 : World) (h : Below W.heap.size W W1) (ho : W1.ownsRow W.heap.size 64 3 (.slice A T.size c) T.size (brs (T.form 0))) => hY (m - 1) T A c pre W W1 hj hB h ho hpre)
  have hmx : Try.prog.follows .mixedOrders = true := by kernel_rfl
  clear hon hsz hfew hn hj
  refine callsIn_of_wp Try.func67 rfl trivial ?_ rfl
  simp only [Try.ntmps67, List.size_toArray, List.length_cons, List.length_nil, Nat.reduceAdd, Nat.reduceSub, Array.replicate_succ, Array.replicate_zero, List.push_toArray, List.append_toArray, List.nil_append, List.cons_append]
  gi_wp2_with fail
  gi_region_with (first
    | (refine ⟨trivial, fun h => (by cases h), ?_⟩; (with_reducible refine CallsIn.mono (HT.out _ (Below.refl _ _).drew) ?_); rintro e w1 ⟨A, c, rfl, ho1, hb1⟩; have c1' := cell_below hb1 (cell_lt c1) c1; have hbw := Below.then (Below.refl W.heap.size W).drew (Nat.le_refl _) hb1; obtain ⟨fn, tmps, assign, body, hy, hR⟩ := HY.out A c w1 hbw ho1; clear ho1 hb1)
    | (refine ⟨fun h => (by cases h), ?_⟩; (with_reducible refine hR.mono ?_); rintro e w2 hret; obtain ⟨v, rfl, hv⟩ := hret.val; clear hret))
  all_goals
    gi_wp2_with fail
    go_ret
    rcases hv with ⟨rfl, h1, h2⟩ | ⟨rfl, h1⟩
    · exact .inl ⟨rfl, ⟨h1, h2.cell hb.1 hb.2 (cell_below hbw (cell_lt c1) c1)⟩, (ItKeep.of B0 B1 hbw).trans h2⟩
    · exact .inr ⟨rfl, h1⟩

/-- What All's closure leaves. -/
def RetAll (z : Int) (J Jx : List NT → World → Prop) (e : Ending) (W' : World) : Prop := (∃ v, e = .returned v) ∧ (J (treesOf z) W' ∨ ∃ q, q <+: treesOf z ∧ Jx q W')

set_option maxHeartbeats 2000000 in
theorem all_in (m l bl : Nat) (z : Int) (J Jx : List NT → World → Prop) (W : World) (hz : -9223372036854775808 ≤ z ∧ z ≤ 9223372036854775807) (hbl : W.cell? ⟨bl, 0, none⟩ = some (.int .i64 z)) (hY : TakesTrees l W.heap.size (W.heap.size + 1 + 2 * z.toNat) (treesOf z) J Jx) (hJ : Abide J) (h0 : J [] W) :
    CallsIn Fence.wide m Try.prog 65 #[.func (.yield l) #[] #[], .pointer (some ⟨bl, 0, none⟩)] W (RetAll z J Jx) := by
  have hb1 := below_alloc W (.cells #[.func (.yield l) #[] #[]] 112)
  have c1 := cell_below hb1 (cell_lt hbl) hbl
  have c2 := new_cell W #[.func (.yield l) #[] #[]] 112 0
  have HJ1 := Lib.hid (hJ _ _ _ h0 hb1)
  by_cases hin : 1 ≤ z ∧ z ≤ 12
  · obtain ⟨k, rfl⟩ : ∃ k : Nat, z = ((k + 1 : Nat) : Int) := ⟨z.toNat - 1, by omega⟩
    have e := treesOf_in (n := k + 1) (by omega) (by omega)
    rw [Nat.add_sub_cancel] at e
    rw [e, Int.toNat_natCast] at hY
    have hT := top_takes l W.heap.size (W.heap.size + 1 + 2 * (k + 1)) W.heap.size k J Jx (by omega) hY ⟨Nat.le_refl _, by omega⟩
    have hsz : (W.alloc (.cells #[.func (.yield l) #[] #[]] 112)).heap.size = W.heap.size + 1 := by simp
    have hG := grown_all k (m - 1) (.top W.heap.size) (fun pre W' => J pre W' ∧ W'.cell? ⟨W.heap.size, 0, none⟩ = some (.func (.yield l) #[] #[])) Jx W.heap.size (W.alloc (.cells #[.func (.yield l) #[] #[]] 112)) (by omega) (by rw [hsz]; exact hT)
      (fun pre A B ⟨h1, h2⟩ hb => ⟨hJ _ _ _ h1 hb, cell_below hb (cell_lt h2) h2⟩) ⟨HJ1.out, c2⟩ (by rw [hsz]; omega)
    obtain ⟨n, hn⟩ : ∃ n, n = k + 1 := ⟨_, rfl⟩
    rw [← hn] at hG c1
    simp only [YV.val] at hG
    have HG := Lib.hid hG
    have HE := Lib.hid e
    have HN := Lib.hid hn
    have hn1 : 1 ≤ (n : Int) := by omega
    have hn2 : (n : Int) ≤ 12 := by omega
    rw [← hn]
    clear hG hT hsz hb1 e hn hY hJ h0 hbl hin c2 hz
    refine callsIn_of_wp Try.func65 rfl trivial ?_ rfl
    simp only [Try.ntmps65, List.size_toArray, List.length_cons, List.length_nil, Nat.reduceAdd, Nat.reduceSub, Array.replicate_succ, Array.replicate_zero, List.push_toArray, List.append_toArray, List.nil_append, List.cons_append]
    gi_wp2_with fail
    refine ⟨trivial, fun h => (by cases h), ?_⟩
    (with_reducible refine CallsIn.mono HG.out ?_)
    rintro e w' (⟨rfl, hj, -⟩ | ⟨rfl, q, hq, hx⟩)
    · have HF : Hid (RetAll (n : Int) J Jx (.returned (.tuple #[])) w') := by
        refine ⟨⟨_, rfl⟩, .inl ?_⟩
        rw [HN.out, HE.out]
        exact hj
      clear hj HG
      gi_wp2_with fail
      go_end0
      exact HF.out
    · have HF : Hid (RetAll (n : Int) J Jx (.returned (.tuple #[])) w') := by
        refine ⟨⟨_, rfl⟩, .inr ⟨q, ?_, hx⟩⟩
        rw [HN.out, HE.out]
        exact hq
      clear hx hq HG
      gi_wp2_with fail
      go_end0
      exact HF.out
  · have HF : Hid (RetAll z J Jx (.returned (.tuple #[])) (W.alloc (.cells #[.func (.yield l) #[] #[]] 112))) := by
      refine ⟨⟨_, rfl⟩, .inl ?_⟩
      rw [treesOf_out hin]
      exact HJ1.out
    by_cases h1 : 1 ≤ z
    · have h2 : ¬ z ≤ 12 := by omega
      clear hin hY hJ h0 hbl hb1 c2 hz
      refine callsIn_of_wp Try.func65 rfl trivial ?_ rfl
      simp only [Try.ntmps65, List.size_toArray, List.length_cons, List.length_nil, Nat.reduceAdd, Nat.reduceSub, Array.replicate_succ, Array.replicate_zero, List.push_toArray, List.append_toArray, List.nil_append, List.cons_append]
      gi_wp2_with fail
      go_end0
      exact HF.out
    · clear hin hY hJ h0 hbl hb1 c2 hz
      refine callsIn_of_wp Try.func65 rfl trivial ?_ rfl
      simp only [Try.ntmps65, List.size_toArray, List.length_cons, List.length_nil, Nat.reduceAdd, Nat.reduceSub, Array.replicate_succ, Array.replicate_zero, List.push_toArray, List.append_toArray, List.nil_append, List.cons_append]
      gi_wp2_with fail
      go_end0
      exact HF.out

/-- tree.All hands back a closure over its leaves. -/
theorem allval_calls (z : Int) (w : World) : Calls Try.prog 29 #[.int .i64 z] w fun e w' => e = .returned (.func (.func 65) #[] #[.pointer (some ⟨w.heap.size, 0, none⟩)]) ∧ w' = w.alloc (.cells #[.int .i64 z] 3) := by
  go_enter Try.func29, Try.ntmps29
  go_wp2_with fail
  go_ret
  exact ⟨rfl, rfl⟩
end Go.Proofs.Ytbmlkomfelkckaa
