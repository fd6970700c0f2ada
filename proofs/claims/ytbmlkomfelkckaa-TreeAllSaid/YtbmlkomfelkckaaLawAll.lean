/- Law TreeAll: the first trees of All. -/
import Derived.IntWalk
import Derived.LoopNIn
import Derived.Test.YtbmlkomfelkckaaRange
import Derived.Test.YtbmlkomfelkckaaLeastT
import Derived.Test.YtbmlkomfelkckaaNumb
import Derived.Test.YtbmlkomfelkckaaAwk20
import Derived.Test.YtbmlkomfelkckaaBox
import Derived.Stop.RegionWithIn
namespace Go.Proofs.Ytbmlkomfelkckaa
open Go Go.RowKit
set_option maxRecDepth 100000
attribute [local go_sem] Oper.semAt_some

/-- A loop of a known number of rounds. -/
theorem wpIn_loop_upto {F : Fence} {n : Nat} {P : Program} {c : Code} {Q : Exit → Act → World → Prop} {a : Act} {w : World} (m : Nat) (J : Nat → Act → World → Prop) (h0 : J 0 a w)
    (hr : ∀ r a w, r < m → J r a w → c.wpIn F n P (Exit.then (J (r + 1)) Q) a w) (he : ∀ a w, J m a w → c.wpIn F n P (Exit.then (fun _ _ => False) Q) a w) : (Code.loop c).wpIn F n P Q a w := by
  have key : ∀ d r a w, r + d = m → J r a w → Code.roundsIn F n P c Q (d + 1) a w := by
    intro d
    induction d with
    | zero =>
      intro r a w hd hj
      obtain rfl : r = m := by omega
      exact he a w hj
    | succ d ih =>
      intro r a w hd hj
      rw [roundsIn_succ]
      refine wpIn_mono (hr r a w (by omega) hj) ?_
      intro e a' w' h
      cases e with
      | normal => exact ih (r + 1) a' w' (by omega) h
      | _ => exact h
  exact wpIn_loop_rounds (m + 1) (key m 0 a w (by omega) h0)

/-- Between two passes. -/
def AllJ (w WN : World) (h : Nat) (r : Nat) (a : Act) (W : World) : Prop :=
  ∃ (x : Nat → Value) (Ds : List Nat), Ds.length = r ∧ Ds.Pairwise (· > ·) ∧ (∀ D ∈ Ds, WN.heap.size ≤ D ∧ W.heap[D]? = some (.deferred (some []))) ∧ Below WN.heap.size WN W ∧
    a = { tmps := #[x 0, x 1, .pointer (some ⟨w.heap.size, 0, none⟩), x 3, .pointer (some ⟨w.heap.size + 1, 0, none⟩), x 5, x 6, .pointer (some ⟨h, 0, none⟩), x 8, .pointer (some ⟨h + 1, 0, none⟩), .func (.func 65) #[] #[.pointer (some ⟨h + 1 + 1, 0, none⟩)], x 11, x 12, x 13, x 14, x 15, x 16, x 17, x 18, x 19, x 20, x 21, x 22, x 23, x 24, x 25, x 26, x 27, x 28, x 29, x 30, x 31, x 32, x 33, x 34, x 35, x 36, x 37, x 38, .int .i64 (r : Int), x 40, x 41, x 42, x 43, x 44, x 45, x 46, x 47, x 48, x 49, x 50, x 51, x 52, x 53, x 54, x 55, x 56, x 57, x 58, x 59, x 60, x 61, x 62, x 63, x 64, x 65, x 66, x 67, x 68, x 69, x 70, x 71, x 72, x 73, x 74, x 75, x 76], defers := Ds.map fun D => { target := .collected D, args := #[] } }

theorem own_soft2 {w : World} {base n c g : Nat} {e : TypeId} {size : Nat} {xs : List Value} (h : w.ownsRow base e size (.slice (some ⟨g, 0, none⟩) n c) n xs) (j : Nat) : w.frozen? ⟨g, j, none⟩ = false := by
  rcases h.2 with ⟨h1, _⟩ | ⟨g', cap, cur, h1, _, hh, _⟩
  · cases h1
  · obtain ⟨rfl, _⟩ : g = g' ∧ c = cap := by simpa using h1
    simp only [World.frozen?, hh]
    simp

theorem trees_len (z : Int) : (treesOf z).length = cntOf z := by
  unfold treesOf cntOf
  split
  · exact trees_length _ (by omega)
  · rfl

theorem allJ_mk {w WN : World} {h r : Nat} {a : Act} {W : World} {Ds : List Nat} (ha : a = { tmps := #[a.tmps.getD 0 undef, a.tmps.getD 1 undef, .pointer (some ⟨w.heap.size, 0, none⟩), a.tmps.getD 3 undef, .pointer (some ⟨w.heap.size + 1, 0, none⟩), a.tmps.getD 5 undef, a.tmps.getD 6 undef, .pointer (some ⟨h, 0, none⟩), a.tmps.getD 8 undef, .pointer (some ⟨h + 1, 0, none⟩), .func (.func 65) #[] #[.pointer (some ⟨h + 1 + 1, 0, none⟩)], a.tmps.getD 11 undef, a.tmps.getD 12 undef, a.tmps.getD 13 undef, a.tmps.getD 14 undef, a.tmps.getD 15 undef, a.tmps.getD 16 undef, a.tmps.getD 17 undef, a.tmps.getD 18 undef, a.tmps.getD 19 undef, a.tmps.getD 20 undef, a.tmps.getD 21 undef, a.tmps.getD 22 undef, a.tmps.getD 23 undef, a.tmps.getD 24 undef, a.tmps.getD 25 undef, a.tmps.getD 26 undef, a.tmps.getD 27 undef, a.tmps.getD 28 undef, a.tmps.getD 29 undef, a.tmps.getD 30 undef, a.tmps.getD 31 undef, a.tmps.getD 32 undef, a.tmps.getD 33 undef, a.tmps.getD 34 undef, a.tmps.getD 35 undef, a.tmps.getD 36 undef, a.tmps.getD 37 undef, a.tmps.getD 38 undef, .int .i64 (r : Int), a.tmps.getD 40 undef, a.tmps.getD 41 undef, a.tmps.getD 42 undef, a.tmps.getD 43 undef, a.tmps.getD 44 undef, a.tmps.getD 45 undef, a.tmps.getD 46 undef, a.tmps.getD 47 undef, a.tmps.getD 48 undef, a.tmps.getD 49 undef, a.tmps.getD 50 undef, a.tmps.getD 51 undef, a.tmps.getD 52 undef, a.tmps.getD 53 undef, a.tmps.getD 54 undef, a.tmps.getD 55 undef, a.tmps.getD 56 undef, a.tmps.getD 57 undef, a.tmps.getD 58 undef, a.tmps.getD 59 undef, a.tmps.getD 60 undef, a.tmps.getD 61 undef, a.tmps.getD 62 undef, a.tmps.getD 63 undef, a.tmps.getD 64 undef, a.tmps.getD 65 undef, a.tmps.getD 66 undef, a.tmps.getD 67 undef, a.tmps.getD 68 undef, a.tmps.getD 69 undef, a.tmps.getD 70 undef, a.tmps.getD 71 undef, a.tmps.getD 72 undef, a.tmps.getD 73 undef, a.tmps.getD 74 undef, a.tmps.getD 75 undef, a.tmps.getD 76 undef], defers := Ds.map fun D => { target := .collected D, args := #[] } }) (h1 : Ds.length = r) (h2 : Ds.Pairwise (· > ·)) (h3 : ∀ D ∈ Ds, WN.heap.size ≤ D ∧ W.heap[D]? = some (.deferred (some []))) (h4 : Below WN.heap.size WN W) : AllJ w WN h r a W :=
  ⟨fun i => a.tmps.getD i undef, Ds, h1, h2, h3, h4, ha⟩

/-- The law's own counter. -/
structure NI (W : World) (k : Nat) (W' : World) : Prop where
  old : Below W.heap.size W W'
  box : W'.heap[W.heap.size]? = some (.cells #[.int .i64 (k : Int)] 3 (0, 0))

theorem NI.keep {W : World} {k B : Nat} {W1 W2 : World} (h : NI W k W1) (hk : Keep B W1 W2) (hB : W.heap.size ≤ B) : NI W k W2 :=
  ⟨hk.below h.old hB h.old.size, hk.cells _ _ h.box rfl⟩

/-- What a round's body is told. -/
def ARd (w W : World) (h r mo : Nat) (x : Nat → Value) (B0 base : Nat) (pre : List NT) (T : NT) (W1 : World) (a : Act) (W' : World) : Prop :=
  NI W pre.length W' ∧ pre.length < mo ∧ ItKeep B0 base W1 W' ∧ ∃ u bx, TreeRow W' base T u ∧ W.heap.size + 1 ≤ bx ∧ W'.cell? ⟨bx, 0, none⟩ = some u ∧ (∀ g n' c', u = .slice (some ⟨g, 0, none⟩) n' c' → g ≠ bx) ∧
    a = { tmps := #[x 0, x 1, .pointer (some ⟨w.heap.size, 0, none⟩), x 3, .pointer (some ⟨w.heap.size + 1, 0, none⟩), x 5, x 6, .pointer (some ⟨h, 0, none⟩), x 8, .pointer (some ⟨h + 1, 0, none⟩), .func (.func 65) #[] #[.pointer (some ⟨h + 1 + 1, 0, none⟩)], .pointer (some ⟨W.heap.size, 0, none⟩), .pointer (some ⟨bx, 0, none⟩), x 13, x 14, x 15, x 16, x 17, x 18, x 19, x 20, x 21, x 22, x 23, x 24, x 25, x 26, x 27, x 28, x 29, x 30, x 31, x 32, x 33, x 34, x 35, x 36, x 37, x 38, .int .i64 (r : Int), .bool true, .func (.func 65) #[] #[.pointer (some ⟨h + 1 + 1, 0, none⟩)], .agg #[u], x 43, x 44, x 45, x 46, x 47, x 48, x 49, x 50, x 51, x 52, x 53, x 54, x 55, x 56, x 57, x 58, x 59, x 60, x 61, x 62, x 63, x 64, x 65, x 66, x 67, x 68, x 69, x 70, x 71, x 72, x 73, x 74, x 75, x 76], defers := [] }

set_option maxHeartbeats 4000000 in
theorem all_law_in (m : Nat) (z st : Int) (w : World) (hz : -9223372036854775808 ≤ z ∧ z ≤ 9223372036854775807) (hst : -9223372036854775808 ≤ st ∧ st ≤ 9223372036854775807) :
    CallsIn Fence.wide m Try.prog 9 #[.int .i64 z, .int .i64 st] w fun e w' => e = .returned (.bool true) ∧ Below w.heap.size w w' := by
  have hb0 := below_alloc w (.cells #[.int .i64 z] 3)
  have hb1 := below_alloc (w.alloc (.cells #[.int .i64 z] 3)) (.cells #[.bool false] 4)
  have HB0 := Lib.hid (Below.then hb0 hb0.size hb1)
  have c0 := cell_below hb1 (by simp) (new_cell w #[.int .i64 z] 3 0)
  have e1 := heap_alloc_new (w.alloc (.cells #[.int .i64 z] 3)) (.cells #[.bool false] 4)
  rw [World.size_alloc] at e1
  have hz0 : w.heap.size + 2 ≤ ((w.alloc (.cells #[.int .i64 z] 3)).alloc (.cells #[.bool false] 4)).heap.size := by simp
  have HA := Lib.hid ((callsIn_wide (n := m - 1)).2 (awake20 ((w.alloc (.cells #[.int .i64 z] 3)).alloc (.cells #[.bool false] 4))))
  have HC1 := Lib.hid (fun (W : World) => (callsIn_wide (n := m - 1)).2 (tcount_calls z W hz))
  have HC2 := Lib.hid (fun (W : World) => (callsIn_wide (n := m - 1)).2 (rcount_calls z W hz))
  have HAL := Lib.hid (fun (W : World) => (callsIn_wide (n := m - 1)).2 (allval_calls z W))
  obtain ⟨ce, hce⟩ : ∃ ce, cntErr z = ce := ⟨_, rfl⟩
  obtain ⟨cn, hcn⟩ : ∃ cn, cntOf z = cn := ⟨_, rfl⟩
  rw [hce, hcn] at HC1 HC2
  obtain ⟨mo, hmo⟩ : ∃ mo : Nat, min (max st 1) 60 = (mo : Int) ∧ 1 ≤ mo ∧ mo ≤ 60 := ⟨(min (max st 1) 60).toNat, by omega, by omega, by omega⟩
  have f1 : (ce == ce) = true := by simp
  have f2 : (ce != ce) = false := by simp
  have f3 : ((cn : Int) != (cn : Int)) = false := by simp
  have HCN := Lib.hid hcn
  have HMO := Lib.hid hmo
  clear hb0 hb1 hce hcn hmo
  refine callsIn_of_wp_marks Try.func9 rfl trivial ?_ rfl
  simp only [Try.ntmps9, List.size_toArray, List.length_cons, List.length_nil, Nat.reduceAdd, Nat.reduceSub, Array.replicate_succ, Array.replicate_zero, List.push_toArray, List.append_toArray, List.nil_append, List.cons_append]
  gi_wp2_with fail
  refine ⟨trivial, fun h => (by cases h), ?_⟩
  (with_reducible refine CallsIn.mono HA.out ?_)
  rintro _ w1 ⟨rfl, hb1⟩
  have c0 := cell_below hb1 (by omega) c0
  have e1 := (hb1.block _ (by omega)).trans e1
  have HB1 := Lib.hid (Below.then HB0.out HB0.out.size hb1)
  have hz1 : w.heap.size + 2 ≤ w1.heap.size := Nat.le_trans hz0 hb1.size
  clear hb1 HA hz0 HB0
  have HE := Lib.hid e1
  clear e1
  gi_wp2_with fail
  refine ⟨trivial, fun h => (by cases h), ?_⟩
  (with_reducible refine CallsIn.mono (HC1.out _) ?_)
  rintro _ w2 ⟨rfl, rfl⟩
  gi_wp2_with fail
  refine ⟨trivial, fun h => (by cases h), ?_⟩
  (with_reducible refine CallsIn.mono (HC2.out _) ?_)
  rintro _ w2 ⟨rfl, rfl⟩
  have q1 := below_alloc w2 (.cells #[.int .i64 (cn : Int)] 3)
  have q2 := below_alloc (w2.alloc (.cells #[.int .i64 (cn : Int)] 3)) (.cells #[.int .i64 (min (max st 1) 60)] 3)
  have q3 := below_alloc ((w2.alloc (.cells #[.int .i64 (cn : Int)] 3)).alloc (.cells #[.int .i64 (min (max st 1) 60)] 3)) (.cells #[.int .i64 z] 3)
  have s1 : (w2.alloc (.cells #[.int .i64 (cn : Int)] 3)).heap.size = w2.heap.size + 1 := by simp
  have s2 : ((w2.alloc (.cells #[.int .i64 (cn : Int)] 3)).alloc (.cells #[.int .i64 (min (max st 1) 60)] 3)).heap.size = w2.heap.size + 1 + 1 := by simp
  have g2 := cell_below q2 (by omega) (cell_below q1 (by omega) c0)
  have HQ1 := Lib.hid q1
  have HQ2 := Lib.hid q2
  have HQ3 := Lib.hid q3
  clear q1 q2 q3 s1 s2
  gi_wp2_with fail
  refine ⟨trivial, fun h => (by cases h), ?_⟩
  (with_reducible refine CallsIn.mono (HAL.out _) ?_)
  rintro _ w3 ⟨rfl, rfl⟩
  gi_wp2_with fail
  have y1 : (w2.alloc (.cells #[.int .i64 (cn : Int)] 3)).heap.size = w2.heap.size + 1 := by simp
  have y2 : ((w2.alloc (.cells #[.int .i64 (cn : Int)] 3)).alloc (.cells #[.int .i64 (min (max st 1) 60)] 3)).heap.size = w2.heap.size + 1 + 1 := by simp
  have y3 : (((w2.alloc (.cells #[.int .i64 (cn : Int)] 3)).alloc (.cells #[.int .i64 (min (max st 1) 60)] 3)).alloc (.cells #[.int .i64 z] 3)).heap.size = w2.heap.size + 1 + 1 + 1 := by simp
  have d1 := new_cell w2 #[.int .i64 (cn : Int)] 3 0
  have d2 := new_cell (w2.alloc (.cells #[.int .i64 (cn : Int)] 3)) #[.int .i64 (min (max st 1) 60)] 3 0
  have d3 := new_cell ((w2.alloc (.cells #[.int .i64 (cn : Int)] 3)).alloc (.cells #[.int .i64 (min (max st 1) 60)] 3)) #[.int .i64 z] 3 0
  rw [y1] at d2
  rw [y2] at d3
  have D0 := Lib.hid (cell_below HQ3.out (by omega) g2)
  have D1 := Lib.hid (cell_below HQ3.out (by omega) (cell_below HQ2.out (by omega) d1))
  have D2 := Lib.hid (cell_below HQ3.out (by omega) d2)
  have D3 := Lib.hid d3
  have HB3 := Lib.hid (Below.then HB1.out HB1.out.size (((HQ1.out.trans (HQ2.out.mono (by omega))).trans (HQ3.out.mono (by omega)))))
  have HE3 := Lib.hid ((HQ3.out.block _ (by omega)).trans ((HQ2.out.block _ (by omega)).trans ((HQ1.out.block _ (by omega)).trans HE.out)))
  rw [HMO.out.1] at D2 ⊢
  rw [HMO.out.1] at D0 D1 D3 HB3 HE3 y3
  obtain ⟨mx, hmx⟩ : ∃ mx, max st 1 = mx := ⟨_, rfl⟩
  rw [hmx]
  clear hmx d1 d2 d3 y1 y2 c0 g2 HQ1 HQ2 HQ3 HE HC1 HC2 HAL
  generalize (((w2.alloc (.cells #[.int .i64 (cn : Int)] 3)).alloc (.cells #[.int .i64 (mo : Int)] 3)).alloc (.cells #[.int .i64 z] 3)) = WN at *
  generalize w2.heap.size = h at *
  refine wpIn_loop_upto 2 (AllJ w WN h) (allJ_mk (Ds := []) rfl rfl List.Pairwise.nil (by simp) (Below.refl _ _)) ?_ ?_
  · rintro r a W hr ⟨x, Ds, hlen, hpw, hrec, hold, rfl⟩
    have rI : (r : Int) < 2 := by omega
    have m0 := cell_below hold (cell_lt D0.out) D0.out
    have m3 := cell_below hold (cell_lt D3.out) D3.out
    have hD1 := cell_lt D1.out
    have hD2 := cell_lt D2.out
    have hq := below_alloc W (.cells #[.int .i64 0] 3)
    have hnw := heap_alloc_new W (.cells #[.int .i64 0] 3)
    have hsz : (W.alloc (.cells #[.int .i64 0] 3)).heap.size = W.heap.size + 1 := by simp
    have hbl := cell_below hq (cell_lt m3) m3
    have HI0 : Hid (NI W 0 (W.alloc (.cells #[.int .i64 0] 3))) := ⟨hq, hnw⟩
    have HOLD := Lib.hid hold
    have HPW := Lib.hid hpw
    have HREC := Lib.hid hrec
    have HLEN := Lib.hid hlen
    have hWsz := hold.size
    clear hq hnw m3 hold hpw hrec hlen
    gi_wp2_with fail
    generalize W.alloc (.cells #[.int .i64 0] 3) = W0 at *
    refine wpIn_rangeTrees (bl := h + 1 + 1) (z := z) rfl rfl hz hbl (fun pre W' => NI W pre.length W' ∧ pre.length < mo) (fun c pre W' => c = .exit 2 ∧ NI W mo W' ∧ pre.length = mo)
      (ARd w W h r mo x (W.heap.size + 1 + 2) (W.heap.size + 1 + 2 + 1 + 2 * z.toNat)) (fun pre W' W'' h k => ⟨h.1.keep k (by omega), h.2⟩) (fun c pre W' W'' h k => ⟨h.1, h.2.1.keep k (by omega), h.2.2⟩) ?hRd ⟨HI0.out, HMO.out.2.1⟩ ?assign ?body ?done ?stop
    case hRd =>
      rw [hsz]
      rintro pre T W1 a W' W'' ⟨hi, hpl, hk, u, bx, h1, h2, h3, h4, rfl⟩ k
      exact ⟨hi.keep k (by omega), hpl, hk.keep k (by omega), u, bx, h1.keep k, h2, k.cell h3, h4, rfl⟩
    case assign =>
      rw [hsz]
      intro l k T A c' pre W0' W1 hi hB hb ho hpre
      have hi1 := hi.1.keep (Keep.of (W.heap.size + 1) hb) (by omega)
      have hb1 := below_alloc W1 (.cells #[.slice A T.size c'] 26)
      have hR : KeepsFrom (W.heap.size + 1) W1 (W1.alloc (.cells #[.slice A T.size c'] 26)) ∧ ∀ a, a = _ → (ARd w W h r mo x (W.heap.size + 1 + 2) (W.heap.size + 1 + 2 + 1 + 2 * z.toNat)) pre T W1 a (W1.alloc (.cells #[.slice A T.size c'] 26)) :=
        ⟨(KeepsOthers.alloc _ _).from _, fun a ha => ⟨hi1.keep (Keep.of (W.heap.size + 1) hb1) (by omega), hi.2, ItKeep.of _ _ hb1, _, W1.heap.size, TreeRow.below (W := W1) ⟨A, c', rfl, own_mono ho hB⟩ hb1, by have := hb.size; omega, new_cell W1 _ _ 0, fun g n' c'' he => by obtain ⟨g2, hg2, hlt, -⟩ := own_at ho T.size_pos; subst hg2; cases he; omega, ha⟩⟩
      have HRR := Lib.hid hR
      clear hR hi hi1 hb hb1 ho hpre
      gi_wp2
      exact ⟨HRR.out.1, HRR.out.2 _ rfl⟩
    case body =>
      rw [hsz]
      rintro l k T pre a W1 W' ⟨hi, hpl, hk, u, bx, h1, h2, h3, h4, rfl⟩ hl hpre
      have hlen := hpre.length_le
      rw [List.length_append, List.length_singleton, trees_len, HCN.out] at hlen
      have hmem := prefix_mem hpre
      obtain ⟨j, hj, hj11⟩ : ∃ j : Nat, z = ((j + 1 : Nat) : Int) ∧ j ≤ 11 := by
        have hin : 1 ≤ z ∧ z ≤ 12 := by
          refine Decidable.byContradiction fun h => ?_
          have h0 : cntOf z = 0 := if_neg h
          have := HCN.out
          omega
        exact ⟨z.toNat - 1, by omega, by omega⟩
      have hcu : cn = countUp j := by
        rw [← HCN.out, hj]
        unfold cntOf
        rw [if_pos (by omega)]
        rfl
      have htr : treesOf z = treesUp j := by
        rw [hj, treesOf_in (by omega) (by omega)]
        rfl
      have hTn : T = numbered j pre.length := by
        obtain ⟨rest, hrest⟩ := hpre
        have e1 := trees_get j pre.length hj11 (by omega)
        rw [← htr, ← hrest, List.append_assoc, List.getElem?_append_right (Nat.le_refl _), Nat.sub_self] at e1
        simpa using e1
      have hTs : T.size ≤ 23 := by
        rw [hj] at hmem
        have h0 := (treesOf_on (n := j + 1) (T := T) hmem).1
        have := h0.size
        omega
      obtain ⟨kk, hkk⟩ : ∃ kk, pre.length = kk := ⟨_, rfl⟩
      rw [hkk] at hi hpl hlen hTn
      obtain ⟨Au, cu, rfl, hou⟩ := h1
      have HNUM := Lib.hid (fun (W'' : World) => CallsIn.inRound l (callsIn_wide (n := k - 1).2 (by have := numbered_calls j kk W'' hj11 (by omega); rw [← hj, ← hTn] at this; exact this)))
      have HSM := Lib.hid (fun (W'' : World) (g c' : Nat) (hb : Below W'.heap.size W' W'') (hr : RdBr W'' (some ⟨g, 0, none⟩) (T.form 0)) => CallsIn.inRound l (callsIn_wide (n := k - 1).2 (same_calls Au (some ⟨g, 0, none⟩) T.size cu c' (T.form 0) W'' ((own_rd hou).1.below hb) hr (NT.form_length T 0) (by omega))))
      obtain ⟨gu, rfl, hgu1, hgu2, -⟩ := own_at hou T.size_pos
      have hgb := h4 gu _ _ rfl
      obtain ⟨sz, hsz'⟩ : ∃ sz, T.size = sz := ⟨_, rfl⟩
      rw [hsz'] at h3 hou HSM hTs
      have HOU := Lib.hid hou
      have HKK : Hid (pre.length = kk) := hkk
      have hnb := box_cell hi.box
      have c0 := cell_below hi.old (by omega) m0
      have c1 := cell_below hi.old (by omega) (cell_below HOLD.out hD1 D1.out)
      have c2 := cell_below hi.old (by omega) (cell_below HOLD.out hD2 D2.out)
      have HI := Lib.hid hi
      have HK := Lib.hid hk
      have hWz := hi.old.size
      have hWz2 := (Array.getElem?_eq_some_iff.1 hi.box).1
      have hbx := cell_lt h3
      have g0 : (kk : Int) < (cn : Int) := by omega
      have g1 : ¬ (cn : Int) ≤ (kk : Int) := by omega
      have hD0 : w.heap.size < W.heap.size := Nat.lt_of_lt_of_le (cell_lt D0.out) hWsz
      have hmx : Try.prog.follows .mixedOrders = true := by kernel_rfl
      clear hmem hTn hkk hpre hi hk hou htr hcu hj h4
      gi_wp2_with fail
      gi_region_with (first
        | (refine ⟨trivial, fun h => (by cases h), ?_⟩; (with_reducible refine CallsIn.mono (HNUM.out _) ?_); rintro e w6 ⟨g6, c6, rfl, hf6, hb6⟩; rw [hsz']; have h3' := cell_below hb6 hbx h3)
        | (refine ⟨trivial, fun h => (by cases h), ?_⟩; (with_reducible refine CallsIn.mono (HSM.out _ _ _ (Below.then (Below.refl _ _).drew (Nat.le_refl _) hb6) hf6.rd) ?_); rintro e w7 ⟨rfl, hb7⟩))
      all_goals
        have hb57 : Below W'.heap.size W' w7 := Below.then (Below.then ((Below.refl _ _).drew) (Nat.le_refl _) hb6) (Below.then ((Below.refl _ _).drew) (Nat.le_refl _) hb6).size hb7
        have hz7 := hb57.size
        have h3 := cell_below hb57 hbx h3
        have HO7 := Lib.hid ((Keep.of 0 hb57).own HOU.out)
        have HB57 := Lib.hid hb57
        have c2 := cell_below hb57 (by omega) c2
        have e7 := (hb57.block _ (by omega)).trans HI.out.box
        clear hb6 hb7 hb57 hf6 h3'
        gi_wp2_with fail
        gi_loopw [57] (fun v57 wr => ∃ i : Nat, v57 = .int .i64 i ∧ i ≤ sz ∧ (∃ xs, Hid (wr.ownsRow (W.heap.size + 1 + 2 + 1 + 2 * z.toNat) 64 3 (.slice (some ⟨gu, 0, none⟩) sz cu) sz xs)) ∧ Hid (w7.grownBy wr (some gu)) ∧ wr.cell? ⟨bx, 0, none⟩ = some (.slice (some ⟨gu, 0, none⟩) sz cu)) (fun v57 _ => sz - (intOf v57).toNat)
        case atStart => exact ⟨0, rfl, Nat.zero_le _, ⟨_, HO7.out⟩, ⟨rfl, rfl, rfl, Nat.le_refl _, fun _ _ _ => rfl⟩, h3⟩
        case round =>
          obtain ⟨i, rfl, his, ⟨xs, HO⟩, HG, h3⟩ := hrel
          by_cases hin : i < sz
          · have hiI : (i : Int) < (sz : Int) := by omega
            have hxl := HO.out.1
            obtain ⟨g', hg', -, -, hcc⟩ := own_at HO.out (by omega)
            obtain rfl : gu = g' := by simpa using hg'
            obtain ⟨u9, hu9⟩ : ∃ u9, xs[i * 3]? = some u9 := ⟨_, List.getElem?_eq_getElem (by omega)⟩
            have hc := hcc (i * 3) _ hu9
            rw [add_plain] at hc
            have hf := own_soft2 HO.out (i * 3)
            have HS := Lib.hid (HO.out.stored (i * 3) (.int .i64 77))
            clear hxl hcc hu9
            gi_wp2_with fail
            go_roundw
            case rel => exact ⟨i + 1, by go_num, by omega, ⟨_, HS.out.1⟩, World.grownBy.trans HG.out HS.out.2, mem_ne (.inl (by show bx ≠ gu; omega)) h3⟩
            case measure => simp [intOf]; omega
          · obtain rfl : i = sz := by omega
            have hiI : ¬ (i : Int) < (i : Int) := by omega
            have HU : Hid (Upd w7 wr (.slice (some ⟨gu, 0, none⟩) i cu) (.slice (some ⟨gu, 0, none⟩) i cu)) := Lib.hid (show Upd w7 wr (.slice (some ⟨gu, 0, none⟩) i cu) (.slice (some ⟨gu, 0, none⟩) i cu) from ⟨HG.out, .inl rfl⟩)
            have hne2 : ¬ h + 1 = gu := by omega
            have hne : W.heap.size ≠ gu := by omega
            have e9 := (HG.out.block W.heap.size (by omega) (fun e => hne (by simpa using e))).trans e7
            have n9 := box_cell e9
            have f9 := box_frozen e9
            have c9 : wr.cell? ⟨h + 1, 0, none⟩ = some (.int .i64 (mo : Int)) := (World.cell?_of_block (a := ⟨h + 1, 0, none⟩) (HG.out.block (h + 1) (by omega) (fun e => hne2 (by simpa using e)))).trans c2
            have s10 := box_cell (one_setCell (u := .int .i64 ((kk : Int) + 1)) e9)
            have c10 : (wr.setCell ⟨W.heap.size, 0, none⟩ (.int .i64 ((kk : Int) + 1))).cell? ⟨h + 1, 0, none⟩ = some (.int .i64 (mo : Int)) := mem_ne (.inl (by show h + 1 ≠ W.heap.size; omega)) c9
            have g5 : kk ≤ 60 := by have := HMO.out.2.2; omega
            have HKF : Hid (KeepsFrom (W.heap.size + 1) W' (wr.setCell ⟨W.heap.size, 0, none⟩ (.int .i64 ((kk : Int) + 1)))) := (((keepsOthers_below HB57.out).from _).trans ((keepsOthers_upd HU.out HO7.out).from _)).trans ((KeepsOthers.setCell _ _ _).from _)
            have HIT : Hid (ItKeep (W.heap.size + 1 + 2) (W.heap.size + 1 + 2 + 1 + 2 * z.toNat) W1 (wr.setCell ⟨W.heap.size, 0, none⟩ (.int .i64 ((kk : Int) + 1)))) := ((HK.out.trans (ItKeep.of _ _ HB57.out)).trans (ItKeep.upd HU.out HO7.out (by decide) (Nat.le_refl _))).trans (ItKeep.set e9 (by decide) (by omega) _)
            have HNI : Hid (NI W (kk + 1) (wr.setCell ⟨W.heap.size, 0, none⟩ (.int .i64 ((kk : Int) + 1)))) := ⟨below_set ((HI.out.old.trans (HB57.out.mono hWz)).trans (HU.out.below (by omega) (by intro b hb; have := own_base HO7.out b hb; omega))) (Nat.le_refl _) _ _, one_setCell e9⟩
            have HPL : Hid ((pre ++ [T]).length = kk + 1) := by
              show _ = _
              rw [List.length_append, HKK.out]
              rfl
            clear e9 e7 HU HG HO hne
            by_cases hstop : kk + 1 = mo
            · have g6 : (((kk : Int) + 1) == (mo : Int)) = true := by rw [beq_iff_eq]; omega
              gi_wp2_with fail
              refine ⟨HKF.out, rfl, ?_, HPL.out.trans hstop⟩
              rw [← hstop]
              exact HNI.out
            · have g6 : (((kk : Int) + 1) == (mo : Int)) = false := by rw [beq_eq_false_iff_ne]; omega
              gi_wp2_with fail
              refine ⟨HKF.out, HIT.out, ?_⟩
              show NI W (pre ++ [T]).length _ ∧ _
              rw [HPL.out]
              exact ⟨HNI.out, by omega⟩
    case done =>
      rw [hsz]
      intro D W9 hD hi0 hK
      obtain ⟨hi, hlt⟩ := hi0
      rw [trees_len, HCN.out] at hi hlt
      have f9 : ((cn : Int) != min (mo : Int) (cn : Int)) = false := by rw [bne_eq_false_iff_eq]; omega
      have hn := box_cell hi.box
      have c1 := cell_below hi.old (by omega) (cell_below HOLD.out (cell_lt D1.out) D1.out)
      have c2 := cell_below hi.old (by omega) (cell_below HOLD.out (cell_lt D2.out) D2.out)
      have HK9 := Lib.hid hK
      have HI9 := Lib.hid hi.old
      clear hi hK
      gi_wp2_with fail
      refine allJ_mk (Ds := D :: Ds) rfl (by simp [HLEN.out]) (List.pairwise_cons.2 ⟨fun D' hD' => ?_, HPW.out⟩) ?_ (HOLD.out.trans (HI9.out.mono hWsz))
      · have := (Array.getElem?_eq_some_iff.1 (HREC.out D' hD').2).1
        show D' < D
        omega
      · intro D' hD'
        rcases List.mem_cons.1 hD' with rfl | hD'
        · exact ⟨by omega, HK9.out⟩
        · obtain ⟨q1, q2⟩ := HREC.out D' hD'
          exact ⟨q1, (HI9.out.block _ (Array.getElem?_eq_some_iff.1 q2).1).trans q2⟩
    case stop =>
      rw [hsz]
      rintro D c pre W9 hD hpre ⟨rfl, hi, hpl⟩ hK
      have hle := hpre.length_le
      rw [trees_len, HCN.out] at hle
      have f9 : ((mo : Int) != min (mo : Int) (cn : Int)) = false := by rw [bne_eq_false_iff_eq]; omega
      have hn := box_cell hi.box
      have c1 := cell_below hi.old (by omega) (cell_below HOLD.out (cell_lt D1.out) D1.out)
      have c2 := cell_below hi.old (by omega) (cell_below HOLD.out (cell_lt D2.out) D2.out)
      have HK9 := Lib.hid hK
      have HI9 := Lib.hid hi.old
      clear hi hK
      gi_wp2_with fail
      refine allJ_mk (Ds := D :: Ds) rfl (by simp [HLEN.out]) (List.pairwise_cons.2 ⟨fun D' hD' => ?_, HPW.out⟩) ?_ (HOLD.out.trans (HI9.out.mono hWsz))
      · have := (Array.getElem?_eq_some_iff.1 (HREC.out D' hD').2).1
        show D' < D
        omega
      · intro D' hD'
        rcases List.mem_cons.1 hD' with rfl | hD'
        · exact ⟨by omega, HK9.out⟩
        · obtain ⟨q1, q2⟩ := HREC.out D' hD'
          exact ⟨q1, (HI9.out.block _ (Array.getElem?_eq_some_iff.1 q2).1).trans q2⟩
  · rintro a W ⟨x, Ds, hlen, hpw, hrec, hold, rfl⟩
    obtain ⟨Da, Db, rfl⟩ : ∃ Da Db, Ds = [Da, Db] := by
      match Ds, hlen with
      | [Da, Db], _ => exact ⟨Da, Db, rfl⟩
    have hab : Db < Da := by simpa using hpw
    obtain ⟨ha1, ha2⟩ := hrec Da (by simp)
    obtain ⟨hb1, hb2⟩ := hrec Db (by simp)
    have hwn : w.heap.size + 1 < WN.heap.size := (Array.getElem?_eq_some_iff.1 HE3.out).1
    have e1 := (hold.block _ (by omega)).trans HE3.out
    have r1 := box_cell e1
    have r2 := box_frozen e1
    have s1 := box_cell (one_setCell (u := .bool true) e1)
    have HB := Lib.hid (Below.then HB3.out HB3.out.size hold)
    have HDA := Lib.hid ha2
    have HDB := Lib.hid hb2
    have hWs := hold.size
    clear hrec hpw hold ha2 hb2 e1 hlen
    gi_wp2_with fail
    have hKA : (W.setCell ⟨w.heap.size + 1, 0, none⟩ (.bool true)).heap[Da]? = some (.deferred (some [])) := (Below.heap_setCell _ _ _ _ (by show Da ≠ w.heap.size + 1; omega)).trans HDA.out
    have hKB : ((W.setCell ⟨w.heap.size + 1, 0, none⟩ (.bool true)).putObj Da (.deferred none)).heap[Db]? = some (.deferred (some [])) := (World.putObj_heap_other (by omega)).trans ((Below.heap_setCell _ _ _ _ (by show Db ≠ w.heap.size + 1; omega)).trans HDB.out)
    have hkp := Keep.put (B := Da) (.inl rfl) hKA rfl (.deferred none)
    have hkp2 := Keep.put (B := Db) (.inl rfl) hKB rfl (.deferred none)
    have s2 := hkp2.cell (hkp.cell s1)
    refine ⟨by simp, .inl ⟨_, _, rfl, run_takeDeferred hKA, ?_⟩⟩
    refine ⟨by simp, .inl ⟨_, _, rfl, run_takeDeferred hKB, ?_⟩⟩
    exact ⟨.bool true, by simp [results, Try.results9, go_sem, s2], rfl, hkp2.below (hkp.below (below_set HB.out (by omega) _ _) (by omega) (by simp; omega)) (by omega) (by simp; omega)⟩

theorem all_law_calls (z st : Int) (w : World) (hz : -9223372036854775808 ≤ z ∧ z ≤ 9223372036854775807) (hst : -9223372036854775808 ≤ st ∧ st ≤ 9223372036854775807) :
    Calls Try.prog 9 #[.int .i64 z, .int .i64 st] w fun e w' => e = .returned (.bool true) ∧ Below w.heap.size w w' :=
  callsIn_wide.1 (all_law_in 0 z st w hz hst)
end Go.Proofs.Ytbmlkomfelkckaa
