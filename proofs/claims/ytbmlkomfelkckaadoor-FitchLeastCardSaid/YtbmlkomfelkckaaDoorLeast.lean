/- The law FitchLeast's search, walked. -/
import Derived.Test.YtbmlkomfelkckaaDoorLeastP
import Derived.Test.YtbmlkomfelkckaaDoorRCount
namespace Go.Proofs.YtbmlkomfelkckaaDoor
open Go Go.RowKit
set_option maxRecDepth 100000

/-- All is as it was but for one block. -/
structure But (g : Nat) (w w' : World) : Prop where
  os : w'.os = w.os
  tape : w'.tape = w.tape
  output : w'.output = w.output
  size : w.heap.size ≤ w'.heap.size
  block : ∀ k, k < w.heap.size → k ≠ g → w'.heap[k]? = w.heap[k]?

theorem But.of_below {g : Nat} {w w' : World} (h : Below w.heap.size w w') : But g w w' := ⟨h.os, h.tape, h.output, h.size, fun k hk _ => h.block k hk⟩

theorem But.trans {g : Nat} {a b c : World} (h : But g a b) (k : But g b c) : But g a c :=
  ⟨k.os.trans h.os, k.tape.trans h.tape, k.output.trans h.output, Nat.le_trans h.size k.size, fun i hi hne => (k.block i (Nat.lt_of_lt_of_le hi h.size) hne).trans (h.block i hi hne)⟩

theorem But.below {g B : Nat} {w w' : World} (h : But g w w') (hg : B ≤ g) (hB : B ≤ w.heap.size) : Below B w w' := ⟨h.os, h.tape, h.output, h.size, fun k hk => h.block k (by omega) (by omega)⟩

theorem But.cell {g : Nat} {w w' : World} (h : But g w w') {b j : Nat} (hb : b < w.heap.size) (hne : b ≠ g) {v : Value} (hc : w.cell? ⟨b, j, none⟩ = some v) : w'.cell? ⟨b, j, none⟩ = some v :=
  (World.cell?_of_block (a := ⟨b, j, none⟩) (h.block b hb hne)).trans hc

theorem But.set {g : Nat} (w : World) (j : Nat) (u : Value) : But g w (w.setCell ⟨g, j, none⟩ u) := by
  have h := below_set (B := 0) (Below.refl 0 w) (b := g) (Nat.zero_le _) j u
  exact ⟨h.os, h.tape, h.output, h.size, fun k _ hne => Below.heap_setCell _ _ _ _ hne⟩

/-- The states so far. -/
structure CurOk (w : World) (g n : Nat) (p cur : List Int) : Prop where
  len : cur.length = n
  pre : cur.take p.length = p
  row : w.rowIs g 3 n (fun q => .int .i64 (cur.getD q 0))

/-- The least over the first states that are tried. -/
def bestUp (f : Nat → Nat) : Nat → Nat
  | 0 => 1000
  | j + 1 => min (bestUp f j) (f j)

theorem bestUp_le (f : Nat → Nat) : ∀ j, bestUp f j ≤ 1000
  | 0 => Nat.le_refl _
  | j + 1 => Nat.le_trans (Nat.min_le_left _ _) (bestUp_le f j)

theorem leastP_best (rows : List (List Int)) (site : Nat) (bs : List Br) (d : Nat) (p : List Int) (h : ¬ knownAt rows site (brAt bs p.length)) :
    leastP rows site bs (d + 1) p = bestUp (fun j => leastP rows site bs d (p ++ [(j : Int)])) 4 := by
  rw [leastP, if_neg h]
  rfl

theorem CurOk.set {w : World} {g n : Nat} {p cur : List Int} (h : CurOk w g n p cur) (hk : p.length < n) (y : Int) : CurOk (w.setCell ⟨g, p.length, none⟩ (.int .i64 y)) g n (p ++ [y]) (cur.set p.length y) := by
  have hl := h.len
  refine ⟨by simp [hl], ?_, (h.row.set p.length _).congr (fun q hq => ?_)⟩
  · rw [List.length_append, List.length_cons, List.length_nil, List.take_add_one, List.getElem?_set_self (by omega), List.take_set_of_le (Nat.le_refl _), h.pre]
    rfl
  · rw [getD_set_int _ _ _ (by omega)]
    split <;> rfl

theorem CurOk.back {w : World} {g n : Nat} {p cur : List Int} {y : Int} (h : CurOk w g n (p ++ [y]) cur) : CurOk w g n p cur := by
  refine ⟨h.len, ?_, h.row⟩
  have h1 := congrArg (List.take p.length) h.pre
  rw [List.take_take] at h1
  simpa using h1

theorem CurOk.rd {w : World} {g n : Nat} {p cur : List Int} (h : CurOk w g n p cur) : RdInt w (some ⟨g, 0, none⟩) cur := by
  intro i x hi
  refine ⟨_, rfl, ?_⟩
  have hin := (List.getElem?_eq_some_iff.1 hi).1
  have hl := h.len
  rw [add_plain, h.row.cell (i := i) (by omega), List.getD_eq_getElem?_getD, hi]
  rfl

/-- What a call of least leaves. -/
def RetLeast (W : World) (g n : Nat) (p : List Int) (v : Nat) (e : Ending) (w' : World) : Prop :=
  e = .returned (.int .i64 (v : Int)) ∧ ∃ cur', CurOk w' g n p cur' ∧ But g W w'

set_option maxHeartbeats 2000000 in
theorem least_base (A : Option Addr) (n c : Nat) (bs : List Br) (A2 : Option Addr) (n2 c2 : Nat) (rows : List (List Int)) (site : Int) (w : World) (h : TM w A n bs A2 n2 rows) (g : Nat) (hce : ∀ l : List Int, l.length = n → countErr bs l = 0)
    (p cur : List Int) (W : World) (hW : Below w.heap.size w W) (hp : p.length = n) (hc : CurOk W g n p cur) :
    Calls Tryd.prog 11 #[.agg #[.slice A n c], .agg #[.slice A2 n2 c2], .int .i64 site, .slice (some ⟨g, 0, none⟩) n n, .int .i64 (p.length : Int)] W (RetLeast W g n p (leastP rows site.toNat bs 0 p)) := by
  have hcur : cur = p := by
    have h1 := hc.pre
    rw [List.take_of_length_le (by have := hc.len; omega)] at h1
    exact h1
  subst hcur
  have e0 := hce cur hc.len
  have e1 : countNum bs cur = costUp cur bs bs.length := by unfold countNum; rw [if_pos e0]
  have HC := Lib.hid (fun (V : World) (hb : Below W.heap.size W V) => rcount_calls A n c bs (some ⟨g, 0, none⟩) n n cur V (h.below (Below.then hW hW.size hb)).tree h.len h.cap (hc.rd.below hb) hc.len)
  rw [e0, e1] at HC
  have HP := Lib.hid hc
  rw [hp]
  rw [leastP]
  clear h hce e0 e1 hc hp hW
  go_enter Tryd.func11, Tryd.ntmps11
  go_wp2_with fail
  refine (HC.out _ (two_below _ _ _ _ _)).mono ?_
  rintro e w1 ⟨rfl, hb1⟩
  obtain ⟨HB, hz, c0, c1⟩ := two_boxes hb1
  clear hb1 c0 c1
  go_wp2_with fail
  go_ret
  exact ⟨rfl, cur, ⟨HP.out.len, HP.out.pre, HP.out.row.of_block (HB.out.block _ HP.out.row.lt)⟩, But.of_below HB.out⟩

set_option maxHeartbeats 4000000 in
theorem least_step (A : Option Addr) (n c : Nat) (bs : List Br) (A2 : Option Addr) (n2 c2 : Nat) (rows : List (List Int)) (site : Int) (w : World) (h : TM w A n bs A2 n2 rows) (hm : matOk rows = true) (hok : BrOk n2 bs) (hs0 : 0 ≤ site) (hs1 : site.toNat < wid rows) (g : Nat) (hg : w.heap.size ≤ g)
    (d : Nat) (ih : ∀ (p cur : List Int) (W : World), Below w.heap.size w W → p.length + d = n → CurOk W g n p cur →
      Calls Tryd.prog 11 #[.agg #[.slice A n c], .agg #[.slice A2 n2 c2], .int .i64 site, .slice (some ⟨g, 0, none⟩) n n, .int .i64 (p.length : Int)] W (RetLeast W g n p (leastP rows site.toNat bs d p)))
    (p cur : List Int) (W : World) (hW : Below w.heap.size w W) (hp : p.length + (d + 1) = n) (hc : CurOk W g n p cur) :
    Calls Tryd.prog 11 #[.agg #[.slice A n c], .agg #[.slice A2 n2 c2], .int .i64 site, .slice (some ⟨g, 0, none⟩) n n, .int .i64 (p.length : Int)] W (RetLeast W g n p (leastP rows site.toNat bs (d + 1) p)) := by
  obtain ⟨k, hk⟩ : ∃ k, p.length = k := ⟨_, rfl⟩
  have hcap := h.cap
  have f0 : ((k : Int) == (n : Int)) = false := by rw [beq_eq_false_iff_ne]; omega
  have H := Lib.hid h
  have HIH := Lib.hid ih
  have HC := Lib.hid hc
  have HW := Lib.hid hW
  have HM := Lib.hid hm
  have HOK := Lib.hid hok
  have HS1 : Hid (site.toNat < wid rows) := hs1
  have HP : Hid (p.length + (d + 1) = n) := hp
  have HPK : Hid (p.length = k) := hk
  have hkn : k < n := by omega
  have hgl := hc.row.lt
  obtain ⟨x, hx⟩ : ∃ x, brAt bs k = x := ⟨_, rfl⟩
  have hlen := h.len
  have hxk : bs[k]? = some x := by
    rw [← hx]
    unfold brAt
    rw [List.getD_eq_getElem?_getD, List.getElem?_eq_getElem (by omega)]
    rfl
  obtain ⟨ad, hA, d0, d1, d2⟩ := (h.below hW).tree k x hxk
  subst hA
  have hb2 := two_below W (.slice (some ad) n c) (.slice A2 n2 c2) 24 27
  have hlt := World.block_lt_of_cell? W _ d0
  have d0 := (hb2.cell hlt).trans d0
  have d1 := (hb2.cell (p := ⟨(ad.add (k * 3)).block, _, none⟩) hlt).trans d1
  have d2 := (hb2.cell (p := ⟨(ad.add (k * 3)).block, _, none⟩) hlt).trans d2
  have HXK : Hid (bs[k]? = some x) := hxk
  have HX : Hid (brAt bs k = x) := hx
  clear h ih hc hW hm hok hs1 hp hlen hxk hx hb2 hlt
  rw [hk]
  clear hk
  go_enter Tryd.func11, Tryd.ntmps11
  go_wp2_with fail
  have hb3 := Below.then (two_below W (.slice (some ad) n c) (.slice A2 n2 c2) 24 27) (by simp; omega) (below_alloc ((W.alloc (.cells #[.slice (some ad) n c] 24)).alloc (.cells #[.slice A2 n2 c2] 27)) (.cells #[.int .i64 x.leaf, .int .i64 x.a, .int .i64 x.b] 50))
  have hz3 : W.heap.size + 2 < (((W.alloc (.cells #[.slice (some ad) n c] 24)).alloc (.cells #[.slice A2 n2 c2] 27)).alloc (.cells #[.int .i64 x.leaf, .int .i64 x.a, .int .i64 x.b] 50)).heap.size := by simp
  have q0 := new_cell ((W.alloc (.cells #[.slice (some ad) n c] 24)).alloc (.cells #[.slice A2 n2 c2] 27)) #[.int .i64 x.leaf, .int .i64 x.a, .int .i64 x.b] 50 0
  have c1 := cell_below (below_alloc ((W.alloc (.cells #[.slice (some ad) n c] 24)).alloc (.cells #[.slice A2 n2 c2] 27)) (.cells #[.int .i64 x.leaf, .int .i64 x.a, .int .i64 x.b] 50)) (by simp) (new_cell (W.alloc (.cells #[.slice (some ad) n c] 24)) #[.slice A2 n2 c2] 27 0)
  have c0 := cell_below (below_alloc ((W.alloc (.cells #[.slice (some ad) n c] 24)).alloc (.cells #[.slice A2 n2 c2] 27)) (.cells #[.int .i64 x.leaf, .int .i64 x.a, .int .i64 x.b] 50)) (by simp; omega) (cell_below (below_alloc (W.alloc (.cells #[.slice (some ad) n c] 24)) (.cells #[.slice A2 n2 c2] 27)) (by simp) (new_cell W #[.slice (some ad) n c] 24 0))
  simp only [World.size_alloc] at q0 c0 c1
  clear d0 d1 d2
  generalize ((W.alloc (.cells #[.slice (some ad) n c] 24)).alloc (.cells #[.slice A2 n2 c2] 27)).alloc (.cells #[.int .i64 x.leaf, .int .i64 x.a, .int .i64 x.b] 50) = Wb at *
  refine (leaf_calls x Wb).mono ?_
  rintro e w5 ⟨he, hb5⟩
  have q0 := cell_below hb5 hz3 q0
  have c1 := cell_below hb5 (by omega) c1
  have c0 := cell_below hb5 (by omega) c0
  have hz5 := Nat.lt_of_lt_of_le hz3 hb5.size
  have HB5 := Lib.hid (Below.then hb3 hb3.size hb5)
  have HROW := Lib.hid (HC.out.row.of_block (HB5.out.block _ hgl))
  clear hb5 hb3 hz3
  by_cases hleaf : x.a = 0 ∧ x.b = 0
  · have f1 : (x.a == 0 && x.b == 0) = true := by rw [hleaf.1, hleaf.2]; rfl
    rw [f1] at he
    subst he
    obtain ⟨p0, p1⟩ : 0 ≤ x.leaf ∧ x.leaf < n2 := by
      rcases HOK.out k x HXK.out with h | h
      · exact ⟨h.2.2.1, h.2.2.2⟩
      · exact absurd (hleaf.1.trans hleaf.2.symm) h.2.1
    have hrl := H.out.rlen
    obtain ⟨r, hrow, hst, hy0, hy1⟩ := matOk_at HM.out p0 (by rw [hrl]; exact p1) HS1.out
    obtain ⟨md, A', c', rfl, m0, m1, m2, m3⟩ := H.out.mat x.leaf.toNat r hrow
    obtain ⟨md', rfl, m4⟩ := m1 site.toNat _ hst
    have hsl : site < (r.length : Int) := by
      obtain ⟨hh, _⟩ := List.getElem?_eq_some_iff.1 hst
      omega
    have HBW := Lib.hid (Below.then HW.out HW.out.size HB5.out)
    have k0 := (HBW.out.cell (World.block_lt_of_cell? w _ m0)).trans m0
    have k1 := (HBW.out.cell (World.block_lt_of_cell? w _ m4)).trans m4
    have hkn2 : knownAt rows site.toNat x ↔ 0 ≤ stateAt rows site.toNat x.leaf := ⟨fun q => q.2, fun q => ⟨hleaf, q⟩⟩
    obtain ⟨y, hy⟩ : ∃ y, stateAt rows site.toNat x.leaf = y := ⟨_, rfl⟩
    rw [hy] at k1 hkn2 hy0 hy1
    have HY : Hid (stateAt rows site.toNat x.leaf = y) := hy
    clear hrow hst hy m0 m1 m2 m4 hrl hleaf f1
    by_cases hyn : 0 ≤ y
    · have HV : Hid (leastP rows site.toNat bs (d + 1) p = leastP rows site.toNat bs d (p ++ [y])) := by
        show leastP rows site.toNat bs (d + 1) p = _
        rw [leastP, HPK.out, HX.out, if_pos (hkn2.2 hyn), HY.out]
      have r0 := HROW.out.cell (i := k) hkn
      have r1 := HROW.out.frozen k
      clear hkn2
      go_wp2_with fail
      have hcur : CurOk w5 g n p cur := ⟨HC.out.len, HC.out.pre, HROW.out⟩
      have hset := hcur.set (by rw [HPK.out]; exact hkn) y
      rw [HPK.out] at hset
      have hbut : But g w5 (w5.setCell ⟨g, k, none⟩ (.int .i64 y)) := But.set w5 k _
      have hcall := HIH.out (p ++ [y]) (cur.set k y) _ (Below.trans HBW.out (hbut.below hg (by have := HBW.out.size; exact this))) (by have := HP.out; simp; omega) hset
      rw [show (((p ++ [y]).length : Nat) : Int) = (k : Int) + 1 by have := HPK.out; simp; omega] at hcall
      refine hcall.mono ?_
      rintro e w6 ⟨rfl, cur', hc', hb'⟩
      have HCU := Lib.hid hc'.back
      have HBU := Lib.hid (But.trans (But.of_below HB5.out) (But.trans hbut hb'))
      clear hcall hset hbut hb' hc' hcur
      go_wp2_with fail
      go_ret
      exact ⟨by rw [HV.out]; rfl, cur', HCU.out, HBU.out⟩
    · have HV := Lib.hid (leastP_best rows site.toNat bs d p (by rw [HPK.out, HX.out]; exact fun q => hyn (hkn2.1 q)))
      clear hkn2
      go_wp2_with fail
      go_loopg [15, 16] 4 (fun gk v15 v16 wr => ∃ (j : Nat) (cj : List Int), v15 = .int .i64 ((bestUp (fun j => leastP rows site.toNat bs d (p ++ [(j : Int)])) j : Nat) : Int) ∧ v16 = .int .i64 j ∧ j ≤ 4 ∧ Hid (gk + j = 4) ∧ Hid (CurOk wr g n p cj) ∧ But g w5 wr)
      case atStart => exact ⟨0, cur, rfl, rfl, by omega, rfl, ⟨HC.out.len, HC.out.pre, HROW.out⟩, But.of_below (Below.refl _ _)⟩
      case round =>
        obtain ⟨j, cj, rfl, rfl, hj, HG, HCJ, HI⟩ := hrel
        have c0 := HI.cell (by omega) (by omega) c0
        have c1 := HI.cell (by omega) (by omega) c1
        have hz6 := Nat.lt_of_lt_of_le hz5 HI.size
        have hbj := bestUp_le (fun j => leastP rows site.toNat bs d (p ++ [(j : Int)])) j
        by_cases hj4 : j < 4
        · have r0 := HCJ.out.row.cell (i := k) hkn
          have r1 := HCJ.out.row.frozen k
          obtain ⟨bj, hbj'⟩ : ∃ bj, bestUp (fun j => leastP rows site.toNat bs d (p ++ [(j : Int)])) j = bj := ⟨_, rfl⟩
          rw [hbj'] at hbj
          have HBJ : Hid (bestUp (fun j => leastP rows site.toNat bs d (p ++ [(j : Int)])) j = bj) := hbj'
          rw [hbj']
          clear hbj'
          have hset := HCJ.out.set (by rw [HPK.out]; exact hkn) (j : Int)
          rw [HPK.out] at hset
          have hbut : But g wr (wr.setCell ⟨g, k, none⟩ (.int .i64 (j : Int))) := But.set wr k _
          have c0 := hbut.cell (by omega) (by omega) c0
          have c1 := hbut.cell (by omega) (by omega) c1
          have HSET := Lib.hid hset
          have HBUT := Lib.hid hbut
          clear hset hbut
          go_wp2_with fail
          have hbw : Below w.heap.size w wr := Below.trans (Below.then HW.out HW.out.size HB5.out) (HI.below hg (Nat.le_trans HW.out.size HB5.out.size))
          have hcall := HIH.out (p ++ [(j : Int)]) (cj.set k (j : Int)) _ (Below.trans hbw (HBUT.out.below hg hbw.size)) (by have := HP.out; simp; omega) HSET.out
          rw [show (((p ++ [(j : Int)]).length : Nat) : Int) = (k : Int) + 1 by have := HPK.out; simp; omega] at hcall
          refine hcall.mono ?_
          obtain ⟨lv, hlv⟩ : ∃ lv, leastP rows site.toNat bs d (p ++ [(j : Int)]) = lv := ⟨_, rfl⟩
          rw [hlv]
          rintro e w6 ⟨rfl, cur', hc', hb'⟩
          have HNX : Hid (bestUp (fun j => leastP rows site.toNat bs d (p ++ [(j : Int)])) (j + 1) = min bj lv) := by
            show bestUp (fun j => leastP rows site.toNat bs d (p ++ [(j : Int)])) (j + 1) = min bj lv
            rw [← HBJ.out, ← hlv]
            rfl
          have HCU := Lib.hid hc'.back
          have HBU := Lib.hid (But.trans HI (But.trans HBUT.out hb'))
          clear hcall hb' hc' hbw hlv
          go_wp2_with fail
          all_goals
            go_roundg (gk - 1)
            case measure => have := HG.out; omega
            case rel => exact ⟨j + 1, cur', by rw [HNX.out]; congr 1; omega, by go_num, by omega, by have := HG.out; show gk - 1 + (j + 1) = 4; omega, HCU.out, HBU.out⟩
        · obtain rfl : j = 4 := by omega
          go_wp2_with fail
          go_ret
          exact ⟨by rw [HV.out]; rfl, cj, HCJ.out, But.trans (But.of_below HB5.out) HI⟩
  · have f1 : (x.a == 0 && x.b == 0) = false := by
      rw [Bool.and_eq_false_iff, beq_eq_false_iff_ne, beq_eq_false_iff_ne]
      omega
    rw [f1] at he
    subst he
    have HV := Lib.hid (leastP_best rows site.toNat bs d p (by rw [HPK.out, HX.out]; exact fun q => hleaf q.1))
    clear hleaf f1
    go_wp2_with fail
    go_loopg [15, 16] 4 (fun gk v15 v16 wr => ∃ (j : Nat) (cj : List Int), v15 = .int .i64 ((bestUp (fun j => leastP rows site.toNat bs d (p ++ [(j : Int)])) j : Nat) : Int) ∧ v16 = .int .i64 j ∧ j ≤ 4 ∧ Hid (gk + j = 4) ∧ Hid (CurOk wr g n p cj) ∧ But g w5 wr)
    case atStart => exact ⟨0, cur, rfl, rfl, by omega, rfl, ⟨HC.out.len, HC.out.pre, HROW.out⟩, But.of_below (Below.refl _ _)⟩
    case round =>
      obtain ⟨j, cj, rfl, rfl, hj, HG, HCJ, HI⟩ := hrel
      have c0 := HI.cell (by omega) (by omega) c0
      have c1 := HI.cell (by omega) (by omega) c1
      have hz6 := Nat.lt_of_lt_of_le hz5 HI.size
      have hbj := bestUp_le (fun j => leastP rows site.toNat bs d (p ++ [(j : Int)])) j
      by_cases hj4 : j < 4
      · have r0 := HCJ.out.row.cell (i := k) hkn
        have r1 := HCJ.out.row.frozen k
        obtain ⟨bj, hbj'⟩ : ∃ bj, bestUp (fun j => leastP rows site.toNat bs d (p ++ [(j : Int)])) j = bj := ⟨_, rfl⟩
        rw [hbj'] at hbj
        have HBJ : Hid (bestUp (fun j => leastP rows site.toNat bs d (p ++ [(j : Int)])) j = bj) := hbj'
        rw [hbj']
        clear hbj'
        have hset := HCJ.out.set (by rw [HPK.out]; exact hkn) (j : Int)
        rw [HPK.out] at hset
        have hbut : But g wr (wr.setCell ⟨g, k, none⟩ (.int .i64 (j : Int))) := But.set wr k _
        have c0 := hbut.cell (by omega) (by omega) c0
        have c1 := hbut.cell (by omega) (by omega) c1
        have HSET := Lib.hid hset
        have HBUT := Lib.hid hbut
        clear hset hbut
        go_wp2_with fail
        have hbw : Below w.heap.size w wr := Below.trans (Below.then HW.out HW.out.size HB5.out) (HI.below hg (Nat.le_trans HW.out.size HB5.out.size))
        have hcall := HIH.out (p ++ [(j : Int)]) (cj.set k (j : Int)) _ (Below.trans hbw (HBUT.out.below hg hbw.size)) (by have := HP.out; simp; omega) HSET.out
        rw [show (((p ++ [(j : Int)]).length : Nat) : Int) = (k : Int) + 1 by have := HPK.out; simp; omega] at hcall
        refine hcall.mono ?_
        obtain ⟨lv, hlv⟩ : ∃ lv, leastP rows site.toNat bs d (p ++ [(j : Int)]) = lv := ⟨_, rfl⟩
        rw [hlv]
        rintro e w6 ⟨rfl, cur', hc', hb'⟩
        have HNX : Hid (bestUp (fun j => leastP rows site.toNat bs d (p ++ [(j : Int)])) (j + 1) = min bj lv) := by
          show bestUp (fun j => leastP rows site.toNat bs d (p ++ [(j : Int)])) (j + 1) = min bj lv
          rw [← HBJ.out, ← hlv]
          rfl
        have HCU := Lib.hid hc'.back
        have HBU := Lib.hid (But.trans HI (But.trans HBUT.out hb'))
        clear hcall hb' hc' hbw hlv
        go_wp2_with fail
        all_goals
          go_roundg (gk - 1)
          case measure => have := HG.out; omega
          case rel => exact ⟨j + 1, cur', by rw [HNX.out]; congr 1; omega, by go_num, by omega, by have := HG.out; show gk - 1 + (j + 1) = 4; omega, HCU.out, HBU.out⟩
      · obtain rfl : j = 4 := by omega
        go_wp2_with fail
        go_ret
        exact ⟨by rw [HV.out]; rfl, cj, HCJ.out, But.trans (But.of_below HB5.out) HI⟩

/-- The search over all states. -/
theorem least_calls (A : Option Addr) (n c : Nat) (bs : List Br) (A2 : Option Addr) (n2 c2 : Nat) (rows : List (List Int)) (site : Int) (w : World) (h : TM w A n bs A2 n2 rows) (hm : matOk rows = true) (hok : BrOk n2 bs) (hs0 : 0 ≤ site) (hs1 : site.toNat < wid rows) (g : Nat) (hg : w.heap.size ≤ g) (hce : ∀ l : List Int, l.length = n → countErr bs l = 0) :
    ∀ (d : Nat) (p cur : List Int) (W : World), Below w.heap.size w W → p.length + d = n → CurOk W g n p cur →
      Calls Tryd.prog 11 #[.agg #[.slice A n c], .agg #[.slice A2 n2 c2], .int .i64 site, .slice (some ⟨g, 0, none⟩) n n, .int .i64 (p.length : Int)] W (RetLeast W g n p (leastP rows site.toNat bs d p))
  | 0, p, cur, W, hW, hp, hc => least_base A n c bs A2 n2 c2 rows site w h g hce p cur W hW hp hc
  | d + 1, p, cur, W, hW, hp, hc => least_step A n c bs A2 n2 c2 rows site w h hm hok hs0 hs1 g hg d (least_calls A n c bs A2 n2 c2 rows site w h hm hok hs0 hs1 g hg hce d) p cur W hW hp hc
end Go.Proofs.YtbmlkomfelkckaaDoor
