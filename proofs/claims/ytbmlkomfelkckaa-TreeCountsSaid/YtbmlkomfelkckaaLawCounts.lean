/- Law TreeCounts: all trees differ, print apart, and are as many as Count says. -/
import Derived.IntWalk
import Derived.Test.YtbmlkomfelkckaaRange
import Derived.Test.YtbmlkomfelkckaaNodup
import Derived.Test.YtbmlkomfelkckaaBackP
import Derived.Test.YtbmlkomfelkckaaPrint
import Derived.Test.YtbmlkomfelkckaaTree
import Derived.Test.YtbmlkomfelkckaaAwk20
import Derived.Test.YtbmlkomfelkckaaHung
import Derived.Test.YtbmlkomfelkckaaSet
import Derived.Test.YtbmlkomfelkckaaBox
import Derived.Stop.RegionWithIn
namespace Go.Proofs.Ytbmlkomfelkckaa
open Go Go.RowKit
set_option maxRecDepth 100000
attribute [local go_sem] Oper.semAt_some

def abc : List ByteArray := [⟨#[65]⟩, ⟨#[66]⟩, ⟨#[67]⟩, ⟨#[68]⟩, ⟨#[69]⟩]

theorem abc_ok {n : Nat} (h1 : 1 ≤ n) (h2 : n ≤ 5) : namesOk (abc.take n) = true := by
  have : n = 1 ∨ n = 2 ∨ n = 3 ∨ n = 4 ∨ n = 5 := by omega
  rcases this with h | h | h | h | h <;> (rw [h]; decide +kernel)

theorem abc_len {n : Nat} (h2 : n ≤ 5) : (abc.take n).length = n := by
  rw [List.length_take, show abc.length = 5 from rfl]
  omega

theorem on_root {T : NT} {n : Nat} (h : T.On n) (hn : T.Norm) : rdRoot (n : Int) (T.form 0) = some T := by rw [h.root, hn.eq]

theorem text_inj {ns : List ByteArray} {n : Nat} {S T : NT} (hok : namesOk ns = true) (hl : ns.length = n) (hS : S.On n) (hS' : S.Norm) (hT : T.On n) (hT' : T.Norm) (h : textOf ns S = textOf ns T) : S = T := by
  have h1 := parse_text hok (bs := S.form 0) (T := S) (by rw [hl]; exact on_root hS hS')
  have h2 := parse_text hok (bs := T.form 0) (T := T) (by rw [hl]; exact on_root hT hT')
  rw [h, h2] at h1
  simpa using h1.symm

theorem print_on {ns : List ByteArray} {n : Nat} {T : NT} (hok : namesOk ns = true) (hl : ns.length = n) (hT : T.On n) (hT' : T.Norm) : printOut (T.form 0) ns = (textOf ns T, 0) := by
  unfold printOut
  rw [hok, hl, on_root hT hT']
  rfl

theorem trees_105 {n : Nat} (h1 : 1 ≤ n) (h2 : n ≤ 5) : (treesOf (n : Int)).length = cntOf (n : Int) ∧ cntOf (n : Int) ≤ 105 := by
  have e : cntOf (n : Int) = countUp (n - 1) := by
    unfold cntOf
    rw [if_pos (by omega)]
    rfl
  rw [treesOf_in h1 (by omega), trees_length _ (by omega), e]
  have : n = 1 ∨ n = 2 ∨ n = 3 ∨ n = 4 ∨ n = 5 := by omega
  rcases this with rfl | rfl | rfl | rfl | rfl <;> exact ⟨rfl, by decide⟩

/-- A new tree prints unlike the ones before it; and there are not that many. -/
theorem new_text {ns : List ByteArray} {n : Nat} {pre : List NT} {T : NT} (hok : namesOk ns = true) (hl : ns.length = n) (h1 : 1 ≤ n) (h2 : n ≤ 5) (h : pre ++ [T] <+: treesOf (n : Int)) : textOf ns T ∉ pre.map (textOf ns) ∧ pre.length < 105 := by
  have hnd : (pre ++ [T]).Nodup := by
    obtain ⟨r, hr⟩ := h
    have := treesOf_nodup (n : Int)
    rw [← hr] at this
    exact (List.nodup_append.1 this).1
  have hon : ∀ S ∈ pre ++ [T], S.On n ∧ S.Norm := fun S hS => treesOf_on (h.subset hS)
  refine ⟨fun hm => ?_, ?_⟩
  · obtain ⟨S, hS, hST⟩ := List.mem_map.1 hm
    have a := hon S (List.mem_append_left _ hS)
    have b := hon T (List.mem_append_right _ (by simp))
    have := text_inj hok hl a.1 a.2 b.1 b.2 hST
    subst this
    exact (List.nodup_append.1 hnd).2.2 S hS S (by simp) rfl
  · have := h.length_le
    obtain ⟨e1, e2⟩ := trees_105 h1 h2
    rw [List.length_append, List.length_singleton] at this
    omega

/-- What the law's boxes and its set hold, between two rounds. -/
structure CI (wN : World) (h : Nat) (keys : List ByteArray) (W : World) : Prop where
  old : Below wN.heap.size wN W
  mbox : W.cell? ⟨h + 1 + 1 + 1, 0, none⟩ = some (.map (some (h + 1 + 1)))
  set : SetAt strKey W (h + 1 + 1) keys

theorem CI.keep {wN : World} {h B : Nat} {keys : List ByteArray} {W W' : World} (hi : CI wN h keys W) (hk : Keep B W W') (hB : wN.heap.size ≤ B) (hh : h + 1 + 1 < B) : CI wN h keys W' :=
  ⟨hk.below hi.old hB hi.old.size, hk.cell hi.mbox, hi.set.keep (hk.rest _ (by omega) (by omega) hi.set.lt)⟩

/-- What a round's body is told. -/
def CRd (w wN : World) (h n : Nat) (x15 x18 x19 : Bool) (ns : List ByteArray) (B0 base : Nat) (pre : List NT) (T : NT) (W1 : World) (a : Act) (W : World) : Prop :=
  CI wN h (pre.map (textOf ns)) W ∧ ItKeep B0 base W1 W ∧ ∃ u bx, TreeRow W 0 T u ∧ h + 1 + 1 + 1 + 1 + 1 ≤ bx ∧ W.cell? ⟨bx, 0, none⟩ = some u ∧
    a = { tmps := #[.int .i64 (n : Int), .pointer (some ⟨w.heap.size, 0, none⟩), .pointer (some ⟨w.heap.size + 1, 0, none⟩), .pointer (some ⟨h + 1, 0, none⟩), .pointer (some ⟨h + 1 + 1 + 1, 0, none⟩), .pointer (some ⟨bx, 0, none⟩), undef, undef, undef, undef, undef, undef, .bool true, .bool false, .int .i64 (n : Int), .bool x15, .bool x15, .int .i64 (n : Int), .bool x18, .bool x19, .slice (some ⟨h, 0, none⟩) 5 5, .int .i64 (n : Int), .slice (some ⟨h, 0, none⟩) n 5, .map (some (h + 1 + 1)), .int .i64 (n : Int), .func (.func 65) #[] #[.pointer (some ⟨h + 1 + 1 + 1 + 1, 0, none⟩)], .agg #[u], undef, undef, undef, undef, undef, undef, undef, undef, undef, undef, undef, undef, undef, undef, undef, undef, undef, undef, undef, undef, undef, undef, undef, undef, undef, undef, undef, undef, undef, undef, undef, undef, undef, undef, undef, undef, undef, undef, undef, undef, undef, undef, undef, undef, undef, undef, undef, undef, undef], defers := [] }

theorem rdstr_abc {w : World} {n : Nat} : RdStr (w.alloc (.cells #[.string ⟨#[65]⟩, .string ⟨#[66]⟩, .string ⟨#[67]⟩, .string ⟨#[68]⟩, .string ⟨#[69]⟩] 9)) (some ⟨w.heap.size, 0, none⟩) (abc.take n) := by
  refine RdStr.take ?_ n
  intro i s hs
  refine ⟨_, rfl, ?_⟩
  rw [add_plain, new_cell]
  have hi := (List.getElem?_eq_some_iff.1 hs).1
  have : i = 0 ∨ i = 1 ∨ i = 2 ∨ i = 3 ∨ i = 4 := by simp [abc] at hi; omega
  rcases this with rfl | rfl | rfl | rfl | rfl <;> (simp [abc] at hs; subst hs; rfl)

theorem grown_below {w w' : World} {b N : Nat} (h : w.grownBy w' (some b)) (hb : N ≤ b) (hN : N ≤ w.heap.size) : Below N w w' :=
  ⟨h.os, h.tape, h.output, by have := h.size; omega, fun k hk => h.block k (by omega) (fun e => by cases e; omega)⟩

theorem ItKeep.grown {B0 B1 b : Nat} {w w' : World} {keys : List ByteArray} (h : w.grownBy w' (some b)) (hs : SetAt strKey w b keys) (hb : b < B0) : ItKeep B0 B1 w w' := by
  refine ⟨h.size, fun k cs hc => ?_, fun i h0 _ hi => h.block i hi (fun e => by cases e; omega)⟩
  have hk := (Array.getElem?_eq_some_iff.1 hc).1
  refine (h.block k hk (fun e => ?_)).trans rfl
  cases e
  obtain ⟨es, ck, hm, -⟩ := hs
  rw [hm] at hc
  cases hc

theorem keeps_grown {w w' : World} {b N : Nat} (h : w.grownBy w' (some b)) (hb : b < N) : KeepsFrom N w w' :=
  ⟨h.size, fun k o hk ho _ => (h.block k (Array.getElem?_eq_some_iff.1 ho).1 (fun e => by cases e; omega)).trans ho⟩

set_option maxHeartbeats 4000000 in
theorem counts_in (m : Nat) (z : Int) (w : World) (hz : -9223372036854775808 ≤ z ∧ z ≤ 9223372036854775807) :
    CallsIn Fence.wide m Try.prog 10 #[.int .i64 z] w fun e w' => e = .returned (.bool true) ∧ Below w.heap.size w w' := by
  have hb0 := below_alloc w (.cells #[.int .i64 z] 3)
  have hb1 := below_alloc (w.alloc (.cells #[.int .i64 z] 3)) (.cells #[.bool false] 4)
  have HB0 := Lib.hid (Below.then hb0 hb0.size hb1)
  have c0 := cell_below hb1 (by simp) (new_cell w #[.int .i64 z] 3 0)
  have e1 := heap_alloc_new (w.alloc (.cells #[.int .i64 z] 3)) (.cells #[.bool false] 4)
  rw [World.size_alloc] at e1
  have hz0 : w.heap.size + 2 ≤ ((w.alloc (.cells #[.int .i64 z] 3)).alloc (.cells #[.bool false] 4)).heap.size := by simp
  have HA := Lib.hid ((callsIn_wide (n := m - 1)).2 (awake20 ((w.alloc (.cells #[.int .i64 z] 3)).alloc (.cells #[.bool false] 4))))
  clear hb0 hb1
  refine callsIn_of_wp_marks Try.func10 rfl trivial ?_ rfl
  simp only [Try.ntmps10, List.size_toArray, List.length_cons, List.length_nil, Nat.reduceAdd, Nat.reduceSub, Array.replicate_succ, Array.replicate_zero, List.push_toArray, List.append_toArray, List.nil_append, List.cons_append]
  gi_wp2_with fail
  refine ⟨trivial, fun h => (by cases h), ?_⟩
  (with_reducible refine CallsIn.mono HA.out ?_)
  rintro _ w1 ⟨rfl, hb1⟩
  have c0 := cell_below hb1 (by omega) c0
  have e1 := (hb1.block _ (by omega)).trans e1
  have HB1 := Lib.hid (Below.then HB0.out HB0.out.size hb1)
  have hz1 : w.heap.size + 2 ≤ w1.heap.size := Nat.le_trans hz0 hb1.size
  clear hb1 HA hz0 HB0
  have r1 := box_cell e1
  have r2 := box_frozen e1
  have HE := Lib.hid e1
  clear e1
  have HE1 := Lib.hid (fun (W : World) (h : W.heap[w.heap.size + 1]? = some (.cells #[.bool false] 4 (0, 0))) (v : Value) => box_cell (one_setCell (u := v) h))
  by_cases h1 : z < 1
  · have s1 := HE1.out _ HE.out (.bool true)
    gi_wp2_with fail
    all_goals first
      | exact ⟨.bool true, by simp [results, Try.results10, go_sem, s1], rfl, below_set HB1.out (by omega) _ _⟩
      | (exfalso; rename_i hx _; cases hx)
  by_cases h5 : 5 < z
  · have s1 := HE1.out _ HE.out (.bool true)
    gi_wp2_with fail
    all_goals first
      | exact ⟨.bool true, by simp [results, Try.results10, go_sem, s1], rfl, below_set HB1.out (by omega) _ _⟩
      | (exfalso; rename_i hx _; cases hx)
  obtain ⟨n, rfl⟩ : ∃ k : Nat, z = (k : Int) := ⟨z.toNat, by omega⟩
  have hn1 : 1 ≤ n := by omega
  have hn5 : n ≤ 5 := by omega
  have HAL := Lib.hid (fun (W : World) => (callsIn_wide (n := m - 1)).2 (allval_calls (n : Int) W))
  have q1 := below_alloc w1 (.cells #[.string ⟨#[65]⟩, .string ⟨#[66]⟩, .string ⟨#[67]⟩, .string ⟨#[68]⟩, .string ⟨#[69]⟩] 9)
  have q2 := below_alloc (w1.alloc (.cells #[.string ⟨#[65]⟩, .string ⟨#[66]⟩, .string ⟨#[67]⟩, .string ⟨#[68]⟩, .string ⟨#[69]⟩] 9)) (.cells #[.slice (some ⟨w1.heap.size, 0, none⟩) n 5] 22)
  have q3 := below_alloc ((w1.alloc (.cells #[.string ⟨#[65]⟩, .string ⟨#[66]⟩, .string ⟨#[67]⟩, .string ⟨#[68]⟩, .string ⟨#[69]⟩] 9)).alloc (.cells #[.slice (some ⟨w1.heap.size, 0, none⟩) n 5] 22)) (.map #[] 0)
  have q4 := below_alloc (((w1.alloc (.cells #[.string ⟨#[65]⟩, .string ⟨#[66]⟩, .string ⟨#[67]⟩, .string ⟨#[68]⟩, .string ⟨#[69]⟩] 9)).alloc (.cells #[.slice (some ⟨w1.heap.size, 0, none⟩) n 5] 22)).alloc (.map #[] 0)) (.cells #[.map (some (w1.heap.size + 1 + 1))] 66)
  have s1 : (w1.alloc (.cells #[.string ⟨#[65]⟩, .string ⟨#[66]⟩, .string ⟨#[67]⟩, .string ⟨#[68]⟩, .string ⟨#[69]⟩] 9)).heap.size = w1.heap.size + 1 := by simp
  have s2 : ((w1.alloc (.cells #[.string ⟨#[65]⟩, .string ⟨#[66]⟩, .string ⟨#[67]⟩, .string ⟨#[68]⟩, .string ⟨#[69]⟩] 9)).alloc (.cells #[.slice (some ⟨w1.heap.size, 0, none⟩) n 5] 22)).heap.size = w1.heap.size + 1 + 1 := by simp
  have s3 : (((w1.alloc (.cells #[.string ⟨#[65]⟩, .string ⟨#[66]⟩, .string ⟨#[67]⟩, .string ⟨#[68]⟩, .string ⟨#[69]⟩] 9)).alloc (.cells #[.slice (some ⟨w1.heap.size, 0, none⟩) n 5] 22)).alloc (.map #[] 0)).heap.size = w1.heap.size + 1 + 1 + 1 := by simp
  have g1 := cell_below q1 (by omega) c0
  have g4 := cell_below q4 (by omega) (cell_below q3 (by omega) (cell_below q2 (by omega) g1))
  have HQ4 := Lib.hid q4
  have HQ3 := Lib.hid q3
  have HQ2 := Lib.hid q2
  have HQ1 := Lib.hid q1
  have HC0 := Lib.hid c0
  clear q1 q2 q3 q4 s1 s2 s3
  have hmm := @run_makeMap Try.prog
  gi_wp2_with fail
  refine ⟨trivial, fun h => (by cases h), ?_⟩
  (with_reducible refine CallsIn.mono (HAL.out _) ?_)
  rintro _ w3 ⟨rfl, rfl⟩
  gi_wp2_with fail
  obtain ⟨x15, hx15⟩ : ∃ b, decide ((n : Int) < 1) = b := ⟨_, rfl⟩
  obtain ⟨x18, hx18⟩ : ∃ b, decide (5 < (n : Int)) = b := ⟨_, rfl⟩
  obtain ⟨x19, hx19⟩ : ∃ b, (x15 || x18) = b := ⟨_, rfl⟩
  rw [hx15, hx18, hx19]
  clear hx15 hx18 hx19 hmm g1 g4
  have hq5 := below_alloc ((((w1.alloc (.cells #[.string ⟨#[65]⟩, .string ⟨#[66]⟩, .string ⟨#[67]⟩, .string ⟨#[68]⟩, .string ⟨#[69]⟩] 9)).alloc (.cells #[.slice (some ⟨w1.heap.size, 0, none⟩) n 5] 22)).alloc (.map #[] 0)).alloc (.cells #[.map (some (w1.heap.size + 1 + 1))] 66)) (.cells #[.int .i64 (n : Int)] 3)
  have z1 : (w1.alloc (.cells #[.string ⟨#[65]⟩, .string ⟨#[66]⟩, .string ⟨#[67]⟩, .string ⟨#[68]⟩, .string ⟨#[69]⟩] 9)).heap.size = w1.heap.size + 1 := by simp
  have z2 : ((w1.alloc (.cells #[.string ⟨#[65]⟩, .string ⟨#[66]⟩, .string ⟨#[67]⟩, .string ⟨#[68]⟩, .string ⟨#[69]⟩] 9)).alloc (.cells #[.slice (some ⟨w1.heap.size, 0, none⟩) n 5] 22)).heap.size = w1.heap.size + 1 + 1 := by simp
  have z3 : (((w1.alloc (.cells #[.string ⟨#[65]⟩, .string ⟨#[66]⟩, .string ⟨#[67]⟩, .string ⟨#[68]⟩, .string ⟨#[69]⟩] 9)).alloc (.cells #[.slice (some ⟨w1.heap.size, 0, none⟩) n 5] 22)).alloc (.map #[] 0)).heap.size = w1.heap.size + 1 + 1 + 1 := by simp
  have z4 : ((((w1.alloc (.cells #[.string ⟨#[65]⟩, .string ⟨#[66]⟩, .string ⟨#[67]⟩, .string ⟨#[68]⟩, .string ⟨#[69]⟩] 9)).alloc (.cells #[.slice (some ⟨w1.heap.size, 0, none⟩) n 5] 22)).alloc (.map #[] 0)).alloc (.cells #[.map (some (w1.heap.size + 1 + 1))] 66)).heap.size = w1.heap.size + 1 + 1 + 1 + 1 := by simp
  have hsz : (((((w1.alloc (.cells #[.string ⟨#[65]⟩, .string ⟨#[66]⟩, .string ⟨#[67]⟩, .string ⟨#[68]⟩, .string ⟨#[69]⟩] 9)).alloc (.cells #[.slice (some ⟨w1.heap.size, 0, none⟩) n 5] 22)).alloc (.map #[] 0)).alloc (.cells #[.map (some (w1.heap.size + 1 + 1))] 66)).alloc (.cells #[.int .i64 (n : Int)] 3)).heap.size = w1.heap.size + 1 + 1 + 1 + 1 + 1 := by simp
  have HNM := Lib.hid ((rdstr_abc (w := w1) (n := n)).below HQ2.out)
  have hnb := new_cell (w1.alloc (.cells #[.string ⟨#[65]⟩, .string ⟨#[66]⟩, .string ⟨#[67]⟩, .string ⟨#[68]⟩, .string ⟨#[69]⟩] 9)) #[.slice (some ⟨w1.heap.size, 0, none⟩) n 5] 22 0
  rw [z1] at hnb
  have hzb := cell_below HQ2.out (by omega) (cell_below HQ1.out (by omega) HC0.out)
  have HEN := Lib.hid ((HQ2.out.block _ (by omega)).trans ((HQ1.out.block _ (by omega)).trans HE.out))
  have HBN := Lib.hid (Below.then HB1.out HB1.out.size (Below.then HQ1.out HQ1.out.size HQ2.out))
  have hI0 : Hid (CI ((w1.alloc (.cells #[.string ⟨#[65]⟩, .string ⟨#[66]⟩, .string ⟨#[67]⟩, .string ⟨#[68]⟩, .string ⟨#[69]⟩] 9)).alloc (.cells #[.slice (some ⟨w1.heap.size, 0, none⟩) n 5] 22)) w1.heap.size [] (((((w1.alloc (.cells #[.string ⟨#[65]⟩, .string ⟨#[66]⟩, .string ⟨#[67]⟩, .string ⟨#[68]⟩, .string ⟨#[69]⟩] 9)).alloc (.cells #[.slice (some ⟨w1.heap.size, 0, none⟩) n 5] 22)).alloc (.map #[] 0)).alloc (.cells #[.map (some (w1.heap.size + 1 + 1))] 66)).alloc (.cells #[.int .i64 (n : Int)] 3))) := by
    have hm := new_cell (((w1.alloc (.cells #[.string ⟨#[65]⟩, .string ⟨#[66]⟩, .string ⟨#[67]⟩, .string ⟨#[68]⟩, .string ⟨#[69]⟩] 9)).alloc (.cells #[.slice (some ⟨w1.heap.size, 0, none⟩) n 5] 22)).alloc (.map #[] 0)) #[.map (some (w1.heap.size + 1 + 1))] 66 0
    rw [z3] at hm
    have hs := SetAt.made strKey ((w1.alloc (.cells #[.string ⟨#[65]⟩, .string ⟨#[66]⟩, .string ⟨#[67]⟩, .string ⟨#[68]⟩, .string ⟨#[69]⟩] 9)).alloc (.cells #[.slice (some ⟨w1.heap.size, 0, none⟩) n 5] 22))
    rw [z2] at hs
    exact ⟨(HQ3.out.trans (HQ4.out.mono (by omega))).trans (hq5.mono (by omega)), cell_below hq5 (by omega) hm, (hs.alloc _).alloc _⟩
  have hbl := new_cell ((((w1.alloc (.cells #[.string ⟨#[65]⟩, .string ⟨#[66]⟩, .string ⟨#[67]⟩, .string ⟨#[68]⟩, .string ⟨#[69]⟩] 9)).alloc (.cells #[.slice (some ⟨w1.heap.size, 0, none⟩) n 5] 22)).alloc (.map #[] 0)).alloc (.cells #[.map (some (w1.heap.size + 1 + 1))] 66)) #[.int .i64 (n : Int)] 3 0
  rw [z4] at hbl
  have HNB := Lib.hid hnb
  have HZB := Lib.hid hzb
  have HZ2 := Lib.hid z2
  clear hq5 z1 z3 z4 hnb hzb HQ1 HQ2 HQ3 HQ4 HC0 HE c0 z2
  generalize (((((w1.alloc (.cells #[.string ⟨#[65]⟩, .string ⟨#[66]⟩, .string ⟨#[67]⟩, .string ⟨#[68]⟩, .string ⟨#[69]⟩] 9)).alloc (.cells #[.slice (some ⟨w1.heap.size, 0, none⟩) n 5] 22)).alloc (.map #[] 0)).alloc (.cells #[.map (some (w1.heap.size + 1 + 1))] 66)).alloc (.cells #[.int .i64 (n : Int)] 3)) = W0 at *
  generalize ((w1.alloc (.cells #[.string ⟨#[65]⟩, .string ⟨#[66]⟩, .string ⟨#[67]⟩, .string ⟨#[68]⟩, .string ⟨#[69]⟩] 9)).alloc (.cells #[.slice (some ⟨w1.heap.size, 0, none⟩) n 5] 22)) = WN at *
  refine wpIn_rangeTrees (bl := w1.heap.size + 1 + 1 + 1 + 1) (z := (n : Int)) rfl rfl (by omega) hbl (fun pre W => CI WN w1.heap.size (pre.map (textOf (abc.take n))) W) (fun _ _ _ => False)
    (CRd w WN w1.heap.size n x15 x18 x19 (abc.take n) (w1.heap.size + 1 + 1 + 1 + 1 + 1 + 2) (w1.heap.size + 1 + 1 + 1 + 1 + 1 + 2 + 1 + 2 * n)) (fun pre W W' h k => h.keep k (by have := HZ2.out; omega) (by omega)) (fun _ _ _ _ h _ => h.elim) ?hRd hI0.out ?assign ?body ?done ?stop
  case hRd =>
    rw [hsz]
    rintro pre T W1 a W W' ⟨hi, hk, u, bx, h1, h2, h3, rfl⟩ k
    exact ⟨hi.keep k (by have := HZ2.out; omega) (by omega), hk.keep k (by omega), u, bx, h1.keep k, h2, k.cell h3, rfl⟩
  case assign =>
    rw [hsz]
    intro l k T A c' pre W0' W1 hi hB hb ho hpre
    have hi1 := hi.keep (Keep.of (w1.heap.size + 1 + 1 + 1 + 1 + 1) hb) (by have := HZ2.out; omega) (by omega)
    have hb1 := below_alloc W1 (.cells #[.slice A T.size c'] 26)
    have hR : KeepsFrom (w1.heap.size + 1 + 1 + 1 + 1 + 1) W1 (W1.alloc (.cells #[.slice A T.size c'] 26)) ∧ ∀ a, a = _ → CRd w WN w1.heap.size n x15 x18 x19 (abc.take n) (w1.heap.size + 1 + 1 + 1 + 1 + 1 + 2) (w1.heap.size + 1 + 1 + 1 + 1 + 1 + 2 + 1 + 2 * n) pre T W1 a (W1.alloc (.cells #[.slice A T.size c'] 26)) :=
      ⟨(KeepsOthers.alloc _ _).from _, fun a ha => ⟨hi1.keep (Keep.of (w1.heap.size + 1 + 1 + 1 + 1 + 1) hb1) (by have := HZ2.out; omega) (by omega), ItKeep.of _ _ hb1, _, W1.heap.size, TreeRow.below (W := W1) ⟨A, c', rfl, own_mono ho (Nat.zero_le _)⟩ hb1, by have := hb.size; omega, new_cell W1 _ _ 0, ha⟩⟩
    have HRR := Lib.hid hR
    clear hR hi hi1 hb hb1 ho hpre
    gi_wp2
    exact ⟨HRR.out.1, HRR.out.2 _ rfl⟩
  case body =>
    rw [hsz]
    rintro l k T pre a W1 W ⟨hi, hk, u, bx, h1, h2, h3, rfl⟩ hl hpre
    have hmem := prefix_mem hpre
    have hT : T.On n := (treesOf_on (n := n) (T := T) hmem).1
    have hTN : T.Norm := (treesOf_on (n := n) (T := T) hmem).2
    have hTs : T.size ≤ 23 := by have := hT.size; have := hT.few; omega
    have hok := abc_ok hn1 hn5
    have hlen := abc_len hn5
    obtain ⟨hnew, hfew⟩ := new_text hok hlen hn1 hn5 hpre
    have hprint := print_on hok hlen hT hTN
    obtain ⟨Au, cu, rfl, hou⟩ := h1
    have hrd := (own_rd hou).1
    have HRD := Lib.hid hrd
    have HF := Lib.hid (CallsIn.inRound l (callsIn_wide (n := k - 1).2 (form_calls Au T.size cu (T.form 0) (n : Int) W hrd (NT.form_length T 0) (by omega) (by omega) (by omega))))
    rw [on_root hT hTN] at HF
    have HPR := Lib.hid (fun (W' : World) (hb : Below W.heap.size W W') => CallsIn.inRound l (callsIn_wide (n := k - 1).2 (print_calls Au T.size cu (T.form 0) (some ⟨w1.heap.size, 0, none⟩) n 5 (abc.take n) W' (hrd.below hb) (NT.form_length T 0) (by omega) (((HNM.out.below hi.old)).below hb)
      (by intro s hs; have hs := List.mem_of_mem_take hs; simp [abc] at hs; rcases hs with rfl | rfl | rfl | rfl | rfl <;> decide) hlen (by omega) hn5)))
    rw [hprint] at HPR
    obtain ⟨tx, htx⟩ : ∃ tx, textOf (abc.take n) T = tx := ⟨_, rfl⟩
    rw [htx] at HPR hnew
    obtain ⟨keys, hkeys⟩ : ∃ keys, pre.map (textOf (abc.take n)) = keys := ⟨_, rfl⟩
    have hkf : keys.length < 105 := by rw [← hkeys, List.length_map]; exact hfew
    rw [hkeys] at hi hnew
    have HKS : Hid ((pre ++ [T]).map (textOf (abc.take n)) = keys ++ [tx]) := by
      show _ = _
      rw [List.map_append, hkeys, List.map_singleton, htx]
    have HNEW := Lib.hid hnew
    have HI := Lib.hid hi
    have HK := Lib.hid hk
    have m1 := cell_below hi.old (cell_lt HNB.out) HNB.out
    have m2 := cell_below hi.old (cell_lt HZB.out) HZB.out
    have hbx := cell_lt h3
    have hWz := hi.old.size
    have hmz := cell_lt hi.mbox
    have hwn : w.heap.size < WN.heap.size := by have := HZ2.out; omega
    have hwn2 : w1.heap.size + 1 < WN.heap.size := by have := HZ2.out; omega
    clear hmem hTN hT hou hrd htx hkeys hpre hi hk hok hprint hnew hfew
    gi_wp2_with fail
    refine ⟨trivial, fun h => (by cases h), ?_⟩
    (with_reducible refine CallsIn.mono HF.out ?_)
    rintro e w5 ⟨hb5, A5, c5, rfl, ho5⟩
    have hb6 := below_alloc w5 (.cells #[.slice A5 T.size c5] 26)
    have hb56 := Below.then hb5 hb5.size hb6
    have HP6 := Lib.hid (HPR.out _ hb56)
    have m1 := cell_below hb56 (by omega) m1
    have m2 := cell_below hb56 (by omega) m2
    have h3 := cell_below hb56 hbx h3
    have t6 := new_cell w5 #[.slice A5 T.size c5] 26 0
    have z6 : (w5.alloc (.cells #[.slice A5 T.size c5] 26)).heap.size = w5.heap.size + 1 := by simp
    have z5 := hb5.size
    have HB6 := Lib.hid hb56
    have HR5 := Lib.hid ((own_rd ho5).1.below hb6)
    clear HF HPR hb5 hb6 hb56 ho5
    gi_wp2_with fail
    refine ⟨trivial, fun h => (by cases h), ?_⟩
    (with_reducible refine CallsIn.mono HP6.out ?_)
    rintro e w7 ⟨rfl, hb7⟩
    have h3 := cell_below hb7 (by omega) h3
    have t6 := cell_below hb7 (by omega) t6
    have HB7 := Lib.hid (Below.then HB6.out HB6.out.size hb7)
    have hsm := same_calls A5 Au T.size c5 cu (T.form 0) w7 (HR5.out.below hb7) (HRD.out.below HB7.out) (NT.form_length T 0) (by omega)
    have HSM := Lib.hid (CallsIn.inRound l (callsIn_wide (n := k - 1).2 hsm))
    have mm := cell_below HB7.out hmz HI.out.mbox
    have hz7 := hb7.size
    clear hb7 HP6 hsm m1 m2
    gi_wp2_with fail
    refine ⟨trivial, fun h => (by cases h), ?_⟩
    (with_reducible refine CallsIn.mono HSM.out ?_)
    rintro e w8 ⟨rfl, hb8⟩
    have mm := cell_below hb8 (by omega) mm
    have HB8 := Lib.hid (Below.then HB7.out HB7.out.size hb8)
    have HI8 := Lib.hid (HI.out.keep (Keep.of (w1.heap.size + 1 + 1 + 1 + 1 + 1) HB8.out) (by have := HZ2.out; omega) (by omega))
    have hset := HI8.out.set
    have hlk := SetAt.lookup (P := Try.prog) kstr hset Try.underlying66 Try.underlying9 (by kernel_rfl) tx
    simp only [HNEW.out, decide_false] at hlk
    have hln := fun ty => SetAt.len (P := Try.prog) hset Try.underlying66 ty
    obtain ⟨w9, hup, hset9, hgr, hsz9⟩ := SetAt.update (P := Try.prog) kstr hset Try.underlying66 Try.underlying9 tx
    rw [if_neg HNEW.out] at hset9
    simp only [strKey] at hlk hup
    obtain ⟨kk, hkk⟩ : ∃ kk, keys.length = kk := ⟨_, rfl⟩
    rw [hkk] at hkf
    simp only [hkk] at hln
    have HEND : Hid (KeepsFrom (w1.heap.size + 1 + 1 + 1 + 1 + 1) W w9 ∧ ItKeep (w1.heap.size + 1 + 1 + 1 + 1 + 1 + 2) (w1.heap.size + 1 + 1 + 1 + 1 + 1 + 2 + 1 + 2 * n) W1 w9 ∧ CI WN w1.heap.size ((pre ++ [T]).map (textOf (abc.take n))) w9) := by
      refine ⟨((keepsOthers_below HB8.out).from _).trans (keeps_grown hgr (by omega)), (HK.out.trans (ItKeep.of _ _ HB8.out)).trans (ItKeep.grown hgr hset (by omega)), ?_⟩
      rw [HKS.out]
      have hg := grown_below (N := WN.heap.size) hgr (by have := HZ2.out; omega) HI8.out.old.size
      refine ⟨HI8.out.old.trans hg, ?_, hset9⟩
      have hd := hgr.block (w1.heap.size + 1 + 1 + 1) (cell_lt mm) (fun e => by simp at e)
      exact (World.cell?_of_block hd).trans mm
    have g200 : ¬ (200 : Int) < (kk : Int) := by omega
    clear hset hset9 hgr hsz9 hkk HSM hb8 HI HK HB8 HB7 HB6
    gi_wp2_with fail
    exact HEND.out
  case done =>
    rw [hsz]
    intro D W hD hi hK
    have hl : ((treesOf (n : Int)).map (textOf (abc.take n))).length = cntOf (n : Int) := by rw [List.length_map]; exact (trees_105 hn1 hn5).1
    obtain ⟨keys, hkeys⟩ : ∃ keys, (treesOf (n : Int)).map (textOf (abc.take n)) = keys := ⟨_, rfl⟩
    rw [hkeys] at hi hl
    have e1 := (hi.old.block _ (by have := HZ2.out; omega)).trans HEN.out
    have m2 := cell_below hi.old (cell_lt HZB.out) HZB.out
    have mm := hi.mbox
    have r1 := box_cell e1
    have r2 := box_frozen e1
    have s1 := box_cell (one_setCell (u := .bool true) e1)
    have HB := Lib.hid (Below.then HBN.out HBN.out.size hi.old)
    have HD := Lib.hid hK
    have hln := fun ty => SetAt.len (P := Try.prog) hi.set Try.underlying66 ty
    have HCT := Lib.hid ((callsIn_wide (n := m - 1)).2 (tcount_calls (n : Int) W (by omega)))
    have hce : cntErr (n : Int) = 0 := by unfold cntErr; rw [if_pos (by omega)]
    rw [hce] at HCT
    rw [hl] at hln
    obtain ⟨cn, hcn⟩ : ∃ cn, cntOf (n : Int) = cn := ⟨_, rfl⟩
    rw [hcn] at HCT
    simp only [hcn] at hln
    have f1 : ((cn : Int) == (cn : Int)) = true := by simp
    have hq1 := hi.old.size
    have hwn : w.heap.size + 1 < WN.heap.size := by have := HZ2.out; omega
    clear hi e1 hK hce hl hkeys hcn
    gi_wp2_with fail
    refine ⟨trivial, fun h => (by cases h), ?_⟩
    (with_reducible refine CallsIn.mono HCT.out ?_)
    rintro e w9 ⟨rfl, rfl⟩
    gi_wp2_with fail
    have hKD : (w9.setCell ⟨w.heap.size + 1, 0, none⟩ (.bool true)).heap[D]? = some (.deferred (some [])) := (Below.heap_setCell _ _ _ _ (by show D ≠ w.heap.size + 1; omega)).trans HD.out
    have hkp := Keep.put (B := D) (.inl rfl) hKD rfl (.deferred none)
    have s2 := hkp.cell s1
    refine ⟨by simp, .inl ⟨_, _, rfl, run_takeDeferred hKD, ?_⟩⟩
    exact ⟨.bool true, by simp [results, Try.results10, go_sem, s2], rfl, hkp.below (below_set HB.out (by omega) _ _) (by omega) (by simp; omega)⟩
  case stop =>
    intro D c pre W _ _ h
    exact h.elim

theorem counts_calls (z : Int) (w : World) (hz : -9223372036854775808 ≤ z ∧ z ≤ 9223372036854775807) :
    Calls Try.prog 10 #[.int .i64 z] w fun e w' => e = .returned (.bool true) ∧ Below w.heap.size w w' :=
  callsIn_wide.1 (counts_in 0 z w hz)
end Go.Proofs.Ytbmlkomfelkckaa
