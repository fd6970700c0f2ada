/- Law StemmaLeast: the best trees are those of the least measure, in order. -/
import Derived.IntWalk
import Derived.Test.YtbmlkomfelkckaaBestT
import Derived.Test.YtbmlkomfelkckaaAllP
import Derived.Test.YtbmlkomfelkckaaHoldsP
import Derived.Test.YtbmlkomfelkckaaBox
import Derived.Stop.RegionWithIn
namespace Go.Proofs.Ytbmlkomfelkckaa
open Go Go.RowKit
set_option maxRecDepth 100000
attribute [local go_sem] Oper.semAt_some

/-- A tree of a list, read. -/
theorem TreesAt.read {W : World} {base n c i : Nat} {A : Option Addr} {L : List NT} {vs : List Value} {T : NT} (h : TreesAt W base (.slice A n c) L vs) (hn : L.length = n) (hi : L[i]? = some T) :
    ∃ g A' c', A = some ⟨g, 0, none⟩ ∧ W.cell? ⟨g, i, none⟩ = some (.slice A' T.size c') ∧ RdBr W A' (T.form 0) := by
  obtain ⟨u, h1, A', c', rfl, ho⟩ := h.rows i T hi
  have hown := h.own
  rw [hn] at hown
  obtain ⟨g, hg, -, -, h2⟩ := own_at hown (by have := (List.getElem?_eq_some_iff.1 hi).1; omega)
  have h3 := h2 i _ h1
  rw [add_plain] at h3
  exact ⟨g, A', c', hg, h3, (own_rd ho).1⟩

/-- What the law's boxes hold, between two rounds. -/
structure MI (w2 : World) (A2 : Option Addr) (q c2 mm k : Nat) (W : World) : Prop where
  old : Below w2.heap.size w2 W
  lbox : W.cell? ⟨w2.heap.size, 0, none⟩ = some (.slice A2 q c2)
  nbox : W.cell? ⟨w2.heap.size + 1, 0, none⟩ = some (.int .i64 (mm : Int))
  kbox : W.heap[w2.heap.size + 1 + 1]? = some (.cells #[.int .i64 (k : Int)] 3 (0, 0))

theorem MI.keep {w2 : World} {A2 : Option Addr} {q c2 mm k B : Nat} {W W' : World} (h : MI w2 A2 q c2 mm k W) (hk : Keep B W W') (hB : w2.heap.size ≤ B) : MI w2 A2 q c2 mm k W' :=
  ⟨hk.below h.old hB h.old.size, hk.cell h.lbox, hk.cell h.nbox, hk.cells _ _ h.kbox rfl⟩

theorem MI.step {w2 : World} {A2 : Option Addr} {q c2 mm k k' : Nat} {W : World} (h : MI w2 A2 q c2 mm k W) : MI w2 A2 q c2 mm k' (W.setCell ⟨w2.heap.size + 1 + 1, 0, none⟩ (.int .i64 (k' : Int))) :=
  ⟨below_set h.old (by omega) _ _, mem_ne (.inl (by show w2.heap.size ≠ _; omega)) h.lbox, mem_ne (.inl (by show w2.heap.size + 1 ≠ _; omega)) h.nbox, one_setCell h.kbox⟩

/-- What a round's body is told. -/
def MRd (w w2 : World) (ad : Addr) (n c h p k0 q c2 mm : Nat) (R0 A2 : Option Addr) (x15 x27 x29 : Bool) (cost : NT → Nat) (B0 base : Nat) (pre : List NT) (T : NT) (W1 : World) (a : Act) (W : World) : Prop :=
  MI w2 A2 q c2 mm (pre.filter fun T => cost T = mm).length W ∧ ItKeep B0 base W1 W ∧ ∃ u bx, TreeRow W 0 T u ∧ h + 1 + 1 + 1 + 1 ≤ bx ∧ W.cell? ⟨bx, 0, none⟩ = some u ∧
    a = { tmps := #[.agg #[.slice (some ad) n c], .pointer (some ⟨w.heap.size, 0, none⟩), .pointer (some ⟨w.heap.size + 1, 0, none⟩), .pointer (some ⟨h, 0, none⟩), .pointer (some ⟨h + 1, 0, none⟩), .int .i64 0, .pointer (some ⟨h + 1 + 1, 0, none⟩), .pointer (some ⟨bx, 0, none⟩), undef, undef, .bool true, .bool false, .pointer (some ⟨w.heap.size, 0, none⟩), .slice (some ad) n c, .int .i64 (n : Int), .bool x15, .bool x15, .pointer (some ⟨w.heap.size, 0, none⟩), .slice (some ad) n c, .int .i64 (n : Int), .bool true, .bool true, .pointer (some ⟨w.heap.size, 0, none⟩), .slice (some ad) n c, .pointer (some ad), .slice R0 p k0, .int .i64 (p : Int), .bool x27, .bool x27, .bool x29, .tuple #[.slice A2 q c2, .int .i64 (mm : Int), .int .i64 0], .agg #[.slice (some ad) n c], .tuple #[.slice A2 q c2, .int .i64 (mm : Int), .int .i64 0], .slice A2 q c2, .int .i64 (mm : Int), .int .i64 0, .int .i64 0, .bool false, .pointer (some ⟨w.heap.size, 0, none⟩), .slice (some ad) n c, .int .i64 (n : Int), .func (.func 65) #[] #[.pointer (some ⟨h + 1 + 1 + 1, 0, none⟩)], .agg #[u], undef, undef, undef, undef, undef, undef, undef, undef, undef, undef, undef, undef, undef, undef, undef, undef, undef, undef, undef, undef, undef, undef, undef, undef, undef, undef, undef, undef, undef, undef, undef, undef, undef, undef, undef, undef, undef, undef, undef], defers := [] }

theorem filter_at {ts pre : List NT} {T : NT} {P : NT → Bool} (h : pre ++ [T] <+: ts) (hT : P T = true) : (ts.filter P)[(pre.filter P).length]? = some T := by
  obtain ⟨r, rfl⟩ := h
  rw [List.append_assoc, List.filter_append, List.getElem?_append_right (Nat.le_refl _), Nat.sub_self]
  simp [hT]

theorem filter_more {pre : List NT} {T : NT} {P : NT → Bool} : ((pre ++ [T]).filter P).length = (pre.filter P).length + if P T then 1 else 0 := by
  rw [List.filter_append, List.length_append]
  cases h : P T <;> simp [h]

set_option maxHeartbeats 4000000 in
theorem tleast_in (m n c : Nat) (A : Option Addr) (rows : List (List Int)) (w : World) (hr : RdRows w A rows) (hn : rows.length = n) (hcap : n ≤ 9223372036854775807) :
    CallsIn Fence.wide m Try.prog 5 #[.agg #[.slice A n c]] w fun e w' => e = .returned (.bool true) ∧ Below w.heap.size w w' := by
  have hb0 := below_alloc w (.cells #[.slice A n c] 36)
  have hb1 := below_alloc (w.alloc (.cells #[.slice A n c] 36)) (.cells #[.bool false] 4)
  have HB0 := Lib.hid (Below.then hb0 hb0.size hb1)
  have c0 := cell_below hb1 (by simp) (new_cell w #[.slice A n c] 36 0)
  have e1 := heap_alloc_new (w.alloc (.cells #[.slice A n c] 36)) (.cells #[.bool false] 4)
  rw [World.size_alloc] at e1
  have hz0 : w.heap.size + 2 ≤ ((w.alloc (.cells #[.slice A n c] 36)).alloc (.cells #[.bool false] 4)).heap.size := by simp
  have HA := Lib.hid ((callsIn_wide (n := m - 1)).2 (awake22 ((w.alloc (.cells #[.slice A n c] 36)).alloc (.cells #[.bool false] 4))))
  have HR := Lib.hid hr
  have HN := Lib.hid hn
  have HT := Lib.hid (fun (W : World) (h : Below w.heap.size w W) => (callsIn_wide (n := m - 1)).2 (tbest_calls A n c rows W (hr.below h) hn hcap))
  clear hb0 hb1 hr hn
  refine callsIn_of_wp_marks Try.func5 rfl trivial ?_ rfl
  simp only [Try.ntmps5, List.size_toArray, List.length_cons, List.length_nil, Nat.reduceAdd, Nat.reduceSub, Array.replicate_succ, Array.replicate_zero, List.push_toArray, List.append_toArray, List.nil_append, List.cons_append]
  gi_wp2_with fail
  refine ⟨trivial, fun h => (by cases h), ?_⟩
  (with_reducible refine CallsIn.mono HA.out ?_)
  rintro _ w1 ⟨rfl, hb1⟩
  have c0 := cell_below hb1 (by omega) c0
  have e1 := (hb1.block _ (by omega)).trans e1
  have HB1 := Lib.hid (Below.then HB0.out HB0.out.size hb1)
  have hz1 : w.heap.size + 2 ≤ w1.heap.size := Nat.le_trans hz0 hb1.size
  clear hb1 HA hz0 HB0
  have r1 := box_cell e1
  have r2 := box_frozen e1
  have HE := Lib.hid e1
  clear e1
  have HE1 := Lib.hid (fun (W : World) (h : W.heap[w.heap.size + 1]? = some (.cells #[.bool false] 4 (0, 0))) (v : Value) => box_cell (one_setCell (u := v) h))
  by_cases h5 : (5 : Int) < n
  · have s1 := HE1.out _ HE.out (.bool true)
    gi_wp2_with fail
    all_goals first
      | exact ⟨.bool true, by simp [results, Try.results5, go_sem, s1], rfl, below_set HB1.out (by omega) _ _⟩
      | (exfalso; rename_i hx _; cases hx)
  by_cases h0 : n = 0
  · subst h0
    have hm : ¬ matOk rows = true := by rw [matOk_few (.inl HN.out)]; simp
    gi_wp2_with fail
    refine ⟨trivial, fun h => (by cases h), ?_⟩
    (with_reducible refine CallsIn.mono (HT.out _ HB1.out) ?_)
    rintro _ w2 hh
    unfold RetBestT at hh
    rw [if_neg hm] at hh
    obtain ⟨hb2, rfl⟩ := hh
    have HB2 := Lib.hid (Below.then HB1.out HB1.out.size hb2)
    have e2 := (hb2.block _ (by omega)).trans HE.out
    have z2 := hb2.size
    have hb3 := below_alloc w2 (.cells #[.slice none 0 0] 38)
    have hb4 := below_alloc (w2.alloc (.cells #[.slice none 0 0] 38)) (.cells #[.int .i64 0] 3)
    have HB3 := Lib.hid (Below.then HB2.out HB2.out.size (Below.then hb3 hb3.size hb4))
    have e3 := ((Below.then hb3 hb3.size hb4).block _ (by omega)).trans e2
    have q1 := box_cell e3
    have q2 := box_frozen e3
    have s3 := HE1.out _ e3 (.bool true)
    clear hb2 hb3 hb4 e2 e3
    gi_wp2_with fail
    refine ⟨.bool true, by simp [results, Try.results5, go_sem, s3], rfl, below_set HB3.out (by omega) _ _⟩
  obtain ⟨r0, hr0, hw0⟩ := wid_at (rows := rows) (by have := HN.out; omega)
  obtain ⟨ad, R0, k0, rfl, d0, -, -, -⟩ := (HR.out.below HB1.out) 0 r0 hr0
  rw [show ad.add 0 = ad by simp [Addr.add], hw0] at d0
  have h0I : (0 : Int) < n := by omega
  obtain ⟨p, hp⟩ : ∃ p, wid rows = p := ⟨_, rfl⟩
  rw [hp] at d0
  clear hw0 hr0 hp
  by_cases h50 : (50 : Int) < p
  · have s1 := HE1.out _ HE.out (.bool true)
    gi_wp2_with fail
    all_goals first
      | exact ⟨.bool true, by simp [results, Try.results5, go_sem, s1], rfl, below_set HB1.out (by omega) _ _⟩
      | (exfalso; rename_i hx _; cases hx)
  by_cases hm : ¬ matOk rows = true
  · gi_wp2_with fail
    refine ⟨trivial, fun h => (by cases h), ?_⟩
    (with_reducible refine CallsIn.mono (HT.out _ HB1.out) ?_)
    rintro _ w2 hh
    unfold RetBestT at hh
    rw [if_neg hm] at hh
    obtain ⟨hb2, rfl⟩ := hh
    have HB2 := Lib.hid (Below.then HB1.out HB1.out.size hb2)
    have e2 := (hb2.block _ (by omega)).trans HE.out
    have z2 := hb2.size
    have hb3 := below_alloc w2 (.cells #[.slice none 0 0] 38)
    have hb4 := below_alloc (w2.alloc (.cells #[.slice none 0 0] 38)) (.cells #[.int .i64 0] 3)
    have HB3 := Lib.hid (Below.then HB2.out HB2.out.size (Below.then hb3 hb3.size hb4))
    have e3 := ((Below.then hb3 hb3.size hb4).block _ (by omega)).trans e2
    have q1 := box_cell e3
    have q2 := box_frozen e3
    have s3 := HE1.out _ e3 (.bool true)
    clear hb2 hb3 hb4 e2 e3
    gi_wp2_with fail
    refine ⟨.bool true, by simp [results, Try.results5, go_sem, s3], rfl, below_set HB3.out (by omega) _ _⟩
  have hm := Decidable.not_not.1 hm
  gi_wp2_with fail
  refine ⟨trivial, fun h => (by cases h), ?_⟩
  (with_reducible refine CallsIn.mono (HT.out _ HB1.out) ?_)
  rintro _ w2 hh
  unfold RetBestT at hh
  rw [if_pos hm, if_pos (by have := HN.out; omega)] at hh
  obtain ⟨hb2, A2, c2, vs2, rfl, ht2⟩ := hh
  have hlg := least_got (fun T => sumNum (T.form 0) rows) (n := rows.length) (by have := HN.out; omega) (by have := HN.out; omega)
  obtain ⟨mm, hlow, ⟨T1, o1, n1, hT1⟩, hle, hlist⟩ := hlg
  have hbest : bestAll rows = lfold (fun T => sumNum (T.form 0) rows) (treesOf (rows.length : Int)) := rfl
  rw [← hbest] at hlow hlist
  rw [hlow]
  obtain ⟨Ls, hLs⟩ : ∃ Ls, (bestAll rows).l = Ls := ⟨_, rfl⟩
  rw [hLs] at hlist ht2 ⊢
  have hl0 : 0 < Ls.length := by
    rw [hlist]
    refine List.length_pos_iff.2 (List.ne_nil_of_mem (a := T1) (List.mem_filter.2 ⟨treesOf_all o1 n1, ?_⟩))
    simpa using hT1
  have hl1 : Ls.length ≤ 10395 := by
    rw [hlist]
    exact Nat.le_trans (List.length_filter_le _ _) (trees_few (by have := HN.out; omega))
  obtain ⟨q, hq⟩ : ∃ q, Ls.length = q := ⟨_, rfl⟩
  rw [hq] at ht2 ⊢
  simp only [lowI]
  have HL := Lib.hid hlist
  have HLE := Lib.hid hle
  have HQ := Lib.hid hq
  have HMM := Lib.hid hm
  have HB2 := Lib.hid (Below.then HB1.out HB1.out.size hb2)
  have HT2 := Lib.hid ht2
  have HE2 := Lib.hid ((hb2.block _ (by omega)).trans HE.out)
  have c0 := cell_below hb2 (by omega) c0
  have HC0 := Lib.hid c0
  have z2 := hb2.size
  have HAL := Lib.hid (fun (W : World) => (callsIn_wide (n := m - 1)).2 (allval_calls (n : Int) W))
  clear hlow hlist hle hq hm hb2 ht2 hLs hbest hT1 o1 n1 HT r1 r2 d0 HE HE1
  have hb3 := below_alloc w2 (.cells #[.slice A2 q c2] 38)
  have hb4 := below_alloc (w2.alloc (.cells #[.slice A2 q c2] 38)) (.cells #[.int .i64 (mm : Int)] 3)
  have hb5 := below_alloc ((w2.alloc (.cells #[.slice A2 q c2] 38)).alloc (.cells #[.int .i64 (mm : Int)] 3)) (.cells #[.int .i64 0] 3)
  have hb5' := Below.then (Below.then hb3 hb3.size hb4) (by simp; omega) hb5
  have g0 := cell_below hb5' (by omega) c0
  clear hb3 hb4 hb5 hb5'
  gi_wp2_with fail
  refine ⟨trivial, fun h => (by cases h), ?_⟩
  (with_reducible refine CallsIn.mono (HAL.out _) ?_)
  rintro _ w3 ⟨rfl, rfl⟩
  gi_wp2_with fail
  obtain ⟨x15, hx15⟩ : ∃ b, decide ((5 : Int) < (n : Int)) = b := ⟨_, rfl⟩
  obtain ⟨x27, hx27⟩ : ∃ b, decide ((50 : Int) < (p : Int)) = b := ⟨_, rfl⟩
  obtain ⟨x29, hx29⟩ : ∃ b, (x15 || x27) = b := ⟨_, rfl⟩
  rw [hx15, hx27, hx29]
  clear hx15 hx27 hx29
  have hI0 : Hid (MI w2 A2 q c2 mm 0 ((((w2.alloc (.cells #[.slice A2 q c2] 38)).alloc (.cells #[.int .i64 (mm : Int)] 3)).alloc (.cells #[.int .i64 0] 3)).alloc (.cells #[.int .i64 (n : Int)] 3))) := by
    have q3 := below_alloc w2 (.cells #[.slice A2 q c2] 38)
    have q4 := below_alloc (w2.alloc (.cells #[.slice A2 q c2] 38)) (.cells #[.int .i64 (mm : Int)] 3)
    have q5 := below_alloc ((w2.alloc (.cells #[.slice A2 q c2] 38)).alloc (.cells #[.int .i64 (mm : Int)] 3)) (.cells #[.int .i64 0] 3)
    have q6 := below_alloc (((w2.alloc (.cells #[.slice A2 q c2] 38)).alloc (.cells #[.int .i64 (mm : Int)] 3)).alloc (.cells #[.int .i64 0] 3)) (.cells #[.int .i64 (n : Int)] 3)
    have a1 := new_cell w2 #[.slice A2 q c2] 38 0
    have a2 := new_cell (w2.alloc (.cells #[.slice A2 q c2] 38)) #[.int .i64 (mm : Int)] 3 0
    have a3 := heap_alloc_new ((w2.alloc (.cells #[.slice A2 q c2] 38)).alloc (.cells #[.int .i64 (mm : Int)] 3)) (.cells #[.int .i64 0] 3)
    have s1 : (w2.alloc (.cells #[.slice A2 q c2] 38)).heap.size = w2.heap.size + 1 := by simp
    have s2 : ((w2.alloc (.cells #[.slice A2 q c2] 38)).alloc (.cells #[.int .i64 (mm : Int)] 3)).heap.size = w2.heap.size + 1 + 1 := by simp
    have s3 : (((w2.alloc (.cells #[.slice A2 q c2] 38)).alloc (.cells #[.int .i64 (mm : Int)] 3)).alloc (.cells #[.int .i64 0] 3)).heap.size = w2.heap.size + 1 + 1 + 1 := by simp
    rw [s1] at a2 q4
    rw [s2] at a3 q5
    rw [s3] at q6
    exact ⟨((q3.trans (q4.mono (by omega))).trans (q5.mono (by omega))).trans (q6.mono (by omega)), cell_below q6 (by omega) (cell_below q5 (by omega) (cell_below q4 (by omega) a1)), cell_below q6 (by omega) (cell_below q5 (by omega) a2), (q6.block _ (by omega)).trans a3⟩
  have hbl := new_cell (((w2.alloc (.cells #[.slice A2 q c2] 38)).alloc (.cells #[.int .i64 (mm : Int)] 3)).alloc (.cells #[.int .i64 0] 3)) #[.int .i64 (n : Int)] 3 0
  have hsz : ((((w2.alloc (.cells #[.slice A2 q c2] 38)).alloc (.cells #[.int .i64 (mm : Int)] 3)).alloc (.cells #[.int .i64 0] 3)).alloc (.cells #[.int .i64 (n : Int)] 3)).heap.size = w2.heap.size + 1 + 1 + 1 + 1 := by simp
  rw [show (((w2.alloc (.cells #[.slice A2 q c2] 38)).alloc (.cells #[.int .i64 (mm : Int)] 3)).alloc (.cells #[.int .i64 0] 3)).heap.size = w2.heap.size + 1 + 1 + 1 by simp] at hbl
  clear c0 g0
  generalize (((w2.alloc (.cells #[.slice A2 q c2] 38)).alloc (.cells #[.int .i64 (mm : Int)] 3)).alloc (.cells #[.int .i64 0] 3)).alloc (.cells #[.int .i64 (n : Int)] 3) = W0 at *
  refine wpIn_rangeTrees (bl := w2.heap.size + 1 + 1 + 1) (z := (n : Int)) rfl rfl (by omega) hbl (fun pre W => MI w2 A2 q c2 mm (pre.filter fun T => (fun T => sumNum (T.form 0) rows) T = mm).length W) (fun _ _ _ => False)
    (MRd w w2 ad n c w2.heap.size p k0 q c2 mm R0 A2 x15 x27 x29 (fun T => sumNum (T.form 0) rows) (w2.heap.size + 1 + 1 + 1 + 1 + 2) (w2.heap.size + 1 + 1 + 1 + 1 + 2 + 1 + 2 * n)) (fun pre W W' h k => h.keep k (by omega)) (fun _ _ _ _ h _ => h.elim) ?hRd hI0.out ?assign ?body ?done ?stop
  case hRd =>
    rw [hsz]
    rintro pre T W1 a W W' ⟨hi, hk, u, bx, h1, h2, h3, rfl⟩ k
    exact ⟨hi.keep k (by omega), hk.keep k (by omega), u, bx, h1.keep k, h2, k.cell h3, rfl⟩
  case assign =>
    rw [hsz]
    intro l k T A c' pre W0' W1 hi hB hb ho hpre
    have hi1 := hi.keep (Keep.of (w2.heap.size + 1 + 1 + 1 + 1) hb) (by omega)
    have hb1 := below_alloc W1 (.cells #[.slice A T.size c'] 26)
    have hR : KeepsFrom (w2.heap.size + 1 + 1 + 1 + 1) W1 (W1.alloc (.cells #[.slice A T.size c'] 26)) ∧ ∀ a, a = _ → MRd w w2 ad n c w2.heap.size p k0 q c2 mm R0 A2 x15 x27 x29 (fun T => sumNum (T.form 0) rows) (w2.heap.size + 1 + 1 + 1 + 1 + 2) (w2.heap.size + 1 + 1 + 1 + 1 + 2 + 1 + 2 * n) pre T W1 a (W1.alloc (.cells #[.slice A T.size c'] 26)) :=
      ⟨(KeepsOthers.alloc _ _).from _, fun a ha => ⟨hi1.keep (Keep.of (w2.heap.size + 1 + 1 + 1 + 1) hb1) (by omega), ItKeep.of _ _ hb1, _, W1.heap.size, TreeRow.below (W := W1) ⟨A, c', rfl, own_mono ho (Nat.zero_le _)⟩ hb1, by have := hb.size; omega, new_cell W1 _ _ 0, ha⟩⟩
    have HRR := Lib.hid hR
    clear hR hi hi1 hb hb1 ho hpre
    gi_wp2
    exact ⟨HRR.out.1, HRR.out.2 _ rfl⟩
  case body =>
    rw [hsz]
    rintro l k T pre a W1 W ⟨hi, hk, u, bx, h1, h2, h3, rfl⟩ hl hpre
    have hmem := prefix_mem hpre
    have hT : T.On n := (treesOf_on (n := n) (T := T) hmem).1
    have hTN : T.Norm := (treesOf_on (n := n) (T := T) hmem).2
    have hTs : T.size ≤ 23 := by have := hT.size; have := hT.few; omega
    have HC := Lib.hid (HLE.out T (by rw [HN.out]; exact hT) hTN)
    have HBW := Lib.hid (Below.then HB2.out HB2.out.size hi.old)
    obtain ⟨Au, cu, rfl, hou⟩ := h1
    have hrd := (own_rd hou).1
    have HRD := Lib.hid hrd
    have HS := Lib.hid (CallsIn.inRound l (callsIn_wide (n := k - 1).2 (sum_calls Au T.size cu (T.form 0) (some ad) n c rows W ⟨hrd, NT.form_length T 0, by omega, HR.out.below HBW.out, HN.out, hcap⟩)))
    rw [show errBoth (T.form 0) rows = 0 from errBoth_on HMM.out (by rw [HN.out]; exact hT)] at HS
    clear hT
    obtain ⟨s, hs⟩ : ∃ s, sumNum (T.form 0) rows = s := ⟨_, rfl⟩
    rw [hs] at HS
    have HSS := Lib.hid hs
    have hms : mm ≤ s := by have := HC.out; rw [hs] at this; exact this
    obtain ⟨kk, hkk⟩ : ∃ kk, (pre.filter fun T => sumNum (T.form 0) rows = mm).length = kk := ⟨_, rfl⟩
    rw [hkk] at hi
    have HKK := Lib.hid hkk
    have HPRE := Lib.hid hpre
    have m1 := cell_below hi.old (cell_lt HC0.out) HC0.out
    have hlb := hi.lbox
    have hnb := hi.nbox
    have HI := Lib.hid hi
    have HK := Lib.hid hk
    have hbx := cell_lt h3
    have hWz := hi.old.size
    have hk2 := (Array.getElem?_eq_some_iff.1 hi.kbox).1
    clear hmem hTN hou hrd hs hkk hpre hi hk
    gi_wp2_with fail
    refine ⟨trivial, fun h => (by cases h), ?_⟩
    (with_reducible refine CallsIn.mono HS.out ?_)
    rintro e w5 ⟨rfl, hb5⟩
    have hlb := cell_below hb5 (cell_lt hlb) hlb
    have hnb := cell_below hb5 (cell_lt hnb) hnb
    have h3 := cell_below hb5 hbx h3
    have HI5 := Lib.hid (HI.out.keep (Keep.of (w2.heap.size + 1 + 1 + 1 + 1) hb5) (by omega))
    have HK5 := Lib.hid (HK.out.trans (ItKeep.of (w2.heap.size + 1 + 1 + 1 + 1 + 2) (w2.heap.size + 1 + 1 + 1 + 1 + 2 + 1 + 2 * n) hb5))
    have HKF := Lib.hid ((keepsOthers_below hb5).from (w2.heap.size + 1 + 1 + 1 + 1))
    have HRD5 := Lib.hid (HRD.out.below hb5)
    have hz5 := hb5.size
    clear HS hb5 m1 HI HK HRD
    have g1 : ¬ (s : Int) < (mm : Int) := by omega
    by_cases hgt : mm < s
    · have g2 : (mm : Int) < (s : Int) := by omega
      have HF : Hid (((pre ++ [T]).filter fun T => sumNum (T.form 0) rows = mm).length = kk) := by
        show _ = _
        rw [filter_more, HKK.out, if_neg (by rw [decide_eq_true_eq, HSS.out]; omega), Nat.add_zero]
      gi_wp2_with fail
      refine ⟨HKF.out, HK5.out, ?_⟩
      show MI _ _ _ _ _ _ _
      rw [HF.out]
      exact HI5.out
    · obtain rfl : s = mm := by omega
      have g2 : ¬ (s : Int) < (s : Int) := by omega
      have HF : Hid (((pre ++ [T]).filter fun T => sumNum (T.form 0) rows = s).length = kk + 1) := by
        show _ = _
        rw [filter_more, HKK.out, if_pos (by rw [decide_eq_true_eq]; exact HSS.out)]
      have hat := filter_at (P := fun T => decide (sumNum (T.form 0) rows = s)) HPRE.out (by rw [decide_eq_true_eq]; exact HSS.out)
      rw [HKK.out, ← HN.out, ← HL.out] at hat
      have hkq : kk < q := by have := (List.getElem?_eq_some_iff.1 hat).1; have := HQ.out; omega
      obtain ⟨g, A', c', rfl, j1, j2⟩ := HT2.out.read HQ.out hat
      have j1 := cell_below HI5.out.old (cell_lt j1) j1
      have j2 := j2.below HI5.out.old
      have g3 : (kk : Int) < (q : Int) := by omega
      have g5 : kk ≤ 10395 := by have := HQ.out; omega
      have g4 : ¬ (q : Int) ≤ (kk : Int) := by omega
      have kb := box_cell HI5.out.kbox
      have kf := box_frozen HI5.out.kbox
      have HSM := Lib.hid (fun (W' : World) (hb : Below w5.heap.size w5 W') => CallsIn.inRound l (callsIn_wide (n := k - 1).2 (same_calls A' Au T.size c' cu (T.form 0) W' (j2.below hb) (HRD5.out.below hb) (NT.form_length T 0) (by omega))))
      have hmx : Try.prog.follows .mixedOrders = true := by kernel_rfl
      have HHT := Lib.hid hat
      clear hat j2
      gi_wp2_with fail
      gi_region_with (refine ⟨trivial, fun h => (by cases h), ?_⟩; (with_reducible refine CallsIn.mono (HSM.out _ (Below.refl _ _).drew) ?_); rintro e w6 ⟨rfl, hb6⟩)
      all_goals
        have hb56 := Below.then ((Below.refl w5.heap.size w5).drew) (Nat.le_refl _) hb6
        have e6 := (hb56.block _ (by omega)).trans HI5.out.kbox
        have p6 := box_cell e6
        have f6 := box_frozen e6
        gi_wp2_with fail
        refine ⟨(HKF.out.trans ((keepsOthers_below hb56).from _)).trans ((KeepsOthers.setCell _ _ _).from _), (HK5.out.trans (ItKeep.of _ _ hb56)).trans (ItKeep.set e6 (by decide) (by omega) _), ?_⟩
        show MI _ _ _ _ _ _ _
        rw [HF.out]
        exact (HI5.out.keep (Keep.of (w2.heap.size + 1 + 1 + 1 + 1) hb56) (by omega)).step (k' := kk + 1)
  case done =>
    rw [hsz]
    intro D W hD hi hK
    have hfl : ((treesOf (n : Int)).filter fun T => sumNum (T.form 0) rows = mm).length = q := by
      rw [← HN.out, ← HL.out]
      exact HQ.out
    rw [hfl] at hi
    have e1 := (hi.old.block _ (by omega)).trans HE2.out
    have hlb := hi.lbox
    have kb := box_cell hi.kbox
    have r1 := box_cell e1
    have r2 := box_frozen e1
    have s1 := fun v => box_cell (one_setCell (u := v) e1)
    have HB := Lib.hid (Below.then HB2.out HB2.out.size hi.old)
    have HD := Lib.hid hK
    have f1 : ((q : Int) == (q : Int)) = true := by simp
    have g0 : (0 : Int) < (q : Int) := by have := HQ.out; omega
    have hq1 := hi.old.size
    clear hi e1 hK
    gi_wp2_with fail
    rw [show decide (0 < q) = true by rw [decide_eq_true_eq]; have := HQ.out; omega]
    have hKD : (W.setCell ⟨w.heap.size + 1, 0, none⟩ (.bool true)).heap[D]? = some (.deferred (some [])) := (Below.heap_setCell _ _ _ _ (by show D ≠ w.heap.size + 1; omega)).trans HD.out
    have hkp := Keep.put (B := D) (.inl rfl) hKD rfl (.deferred none)
    have s2 := hkp.cell (s1 (.bool true))
    refine ⟨by simp, .inl ⟨_, _, rfl, run_takeDeferred hKD, ?_⟩⟩
    exact ⟨.bool true, by simp [results, Try.results5, go_sem, s2], rfl, hkp.below (below_set HB.out (by omega) _ _) (by omega) (by simp; omega)⟩
  case stop =>
    intro D c pre W _ _ h
    exact h.elim

theorem tleast_calls (A : Option Addr) (n c : Nat) (rows : List (List Int)) (w : World) (hr : RdRows w A rows) (hn : rows.length = n) (hcap : n ≤ 9223372036854775807) :
    Calls Try.prog 5 #[.agg #[.slice A n c]] w fun e w' => e = .returned (.bool true) ∧ Below w.heap.size w w' :=
  callsIn_wide.1 (tleast_in 0 n c A rows w hr hn hcap)
end Go.Proofs.Ytbmlkomfelkckaa
