/- Law BoundSums: rows side by side. -/
import Derived.Test.YtbmlkomfelkckaaAwk23
import Derived.Test.YtbmlkomfelkckaaLow
import Derived.Test.YtbmlkomfelkckaaCladeM
import Derived.Test.YtbmlkomfelkckaaFit2
import Derived.Test.YtbmlkomfelkckaaSumsM
import Derived.Test.YtbmlkomfelkckaaSumsP
import Derived.Test.YtbmlkomfelkckaaDrawn
import Derived.Test.YtbmlkomfelkckaaAppInts
import Derived.BigQuiet
namespace Go.Proofs.Ytbmlkomfelkckaa
open Go Go.RowKit
set_option maxRecDepth 100000

theorem info_rowS : (Try.prog.info? 43).map (fun i => (i.zero, i.size, i.bytes)) = some (some (.slice none 0 0), 1, 24) := by kernel_rfl

set_option maxHeartbeats 4000000 in
theorem sums_calls (A : Option Addr) (n c : Nat) (bs : List Br) (A1 A2 : Option Addr) (n1 n2 c1 c2 : Nat) (rows more : List (List Int)) (w : World) (hb : RdBr w A bs) (hbn : bs.length = n) (hbc : n ≤ 9223372036854775807)
    (hr : RdRows w A1 rows) (hn : rows.length = n1) (hcap : n1 ≤ 9223372036854775807) (hr2 : RdRows w A2 more) (hn2 : more.length = n2) (hcap2 : n2 ≤ 9223372036854775807) :
    Calls Try.prog 13 #[.agg #[.slice A n c], .agg #[.slice A1 n1 c1], .agg #[.slice A2 n2 c2]] w fun e w' => e = .returned (.bool true) ∧ Below w.heap.size w w' := by
  have b0 := below_alloc w (.cells #[.slice A n c] 26)
  have b1 := below_alloc (w.alloc (.cells #[.slice A n c] 26)) (.cells #[.slice A1 n1 c1] 36)
  have b2 := below_alloc ((w.alloc (.cells #[.slice A n c] 26)).alloc (.cells #[.slice A1 n1 c1] 36)) (.cells #[.slice A2 n2 c2] 36)
  have i0 := cell_below b2 (by simp; omega) (cell_below b1 (by simp) (new_cell w #[.slice A n c] 26 0))
  have i1 := cell_below b2 (by simp) (new_cell (w.alloc (.cells #[.slice A n c] 26)) #[.slice A1 n1 c1] 36 0)
  have i2 := new_cell ((w.alloc (.cells #[.slice A n c] 26)).alloc (.cells #[.slice A1 n1 c1] 36)) #[.slice A2 n2 c2] 36 0
  have hz : w.heap.size + 2 < (((w.alloc (.cells #[.slice A n c] 26)).alloc (.cells #[.slice A1 n1 c1] 36)).alloc (.cells #[.slice A2 n2 c2] 36)).heap.size := by simp
  have HB0 := Lib.hid (Below.then (Below.then b0 b0.size b1) (by simp; omega) b2)
  rw [World.size_alloc, World.size_alloc] at i2
  rw [World.size_alloc] at i1
  have HA := Lib.hid (awake23 (((w.alloc (.cells #[.slice A n c] 26)).alloc (.cells #[.slice A1 n1 c1] 36)).alloc (.cells #[.slice A2 n2 c2] 36)))
  have HL1 := Lib.hid (fun (W : World) (h : Below w.heap.size w W) => low_calls A1 n1 c1 rows W (hr.below h) hn hcap)
  have HL2 := Lib.hid (fun (W : World) (h : Below w.heap.size w W) => low_calls A2 n2 c2 more W (hr2.below h) hn2 hcap2)
  have HR := Lib.hid hr
  have HR2 := Lib.hid hr2
  have HN := Lib.hid hn
  have HN2 := Lib.hid hn2
  clear hr hr2 hn hn2 b0 b1 b2
  go_enter Try.func13, Try.ntmps13
  go_wp2_with fail
  refine HA.out.mono ?_
  rintro _ w1 ⟨rfl, hb1⟩
  have e0 := cell_below hb1 (by omega) i0
  have e1 := cell_below hb1 (by omega) i1
  have e2 := cell_below hb1 (by omega) i2
  have HB1 := Lib.hid (Below.then HB0.out HB0.out.size hb1)
  have hz1 := Nat.lt_of_lt_of_le hz hb1.size
  clear hb1 hz i0 i1 i2 HB0 HA
  go_wp2_with fail
  (with_reducible refine (HL1.out _ HB1.out).mono ?_)
  rintro _ w2 ⟨rfl, hb2⟩
  have e0 := cell_below hb2 (by omega) e0
  have e1 := cell_below hb2 (by omega) e1
  have e2 := cell_below hb2 (by omega) e2
  have HB2 := Lib.hid (Below.then HB1.out HB1.out.size hb2)
  have hz2 := Nat.lt_of_lt_of_le hz1 hb2.size
  clear hb2
  go_wp2_with fail
  (with_reducible refine (HL2.out _ HB2.out).mono ?_)
  rintro _ w3 ⟨rfl, hb3⟩
  have e0 := cell_below hb3 (by omega) e0
  have e1 := cell_below hb3 (by omega) e1
  have e2 := cell_below hb3 (by omega) e2
  have HB3 := Lib.hid (Below.then HB2.out HB2.out.size hb3)
  have hz3 := Nat.lt_of_lt_of_le hz2 hb3.size
  clear hb3
  by_cases hm1 : ¬ matOk rows = true
  · obtain ⟨hl, he⟩ := lowNum_bad hm1
    rw [he]
    go_upto_region 5 with (fail)
    go_quiet (fail)
    go_wp2_with fail
    go_ret
    exact ⟨rfl, Below.then HB3.out HB3.out.size (below_drewN _ _)⟩
  have hm1 := Decidable.not_not.1 hm1
  by_cases hm2 : ¬ matOk more = true
  · obtain ⟨hl, he⟩ := lowNum_bad hm2
    obtain ⟨hl1, he1⟩ := lowNum_ok hm1
    rw [he, he1]
    go_upto_region 5 with (fail)
    go_quiet (fail)
    go_wp2_with fail
    go_ret
    exact ⟨rfl, Below.then HB3.out HB3.out.size (below_drewN _ _)⟩
  have hm2 := Decidable.not_not.1 hm2
  obtain ⟨hl1, he1⟩ := lowNum_ok hm1
  obtain ⟨hl2, he2⟩ := lowNum_ok hm2
  rw [he1, he2]
  clear hl1 hl2
  go_upto_region 5 with (fail)
  by_cases hlen : ¬ n1 = n2
  · have f1 : ((n1 : Int) != (n2 : Int)) = true := by rw [bne_iff_ne]; omega
    go_quiet (fail)
    go_wp2_with fail
    go_ret
    exact ⟨rfl, Below.then HB3.out HB3.out.size (below_drewN _ _)⟩
  have hlen := Decidable.not_not.1 hlen
  subst hlen
  have f1 : ((n1 : Int) != (n1 : Int)) = false := by simp
  have hpos : 0 < n1 ∧ n1 ≤ 12 := by
    have := HN.out
    unfold matOk at hm1
    simp at hm1
    omega
  obtain ⟨r0, hr0, hw0⟩ := wid_at (rows := rows) (by have := HN.out; omega)
  obtain ⟨s0, hs0, hv0⟩ := wid_at (rows := more) (by have := HN2.out; omega)
  obtain ⟨ad, R0, k0, rfl, d0, -, -, -⟩ := (HR.out.below HB3.out) 0 r0 hr0
  obtain ⟨ad2, S0, j0, rfl, d2, -, -, -⟩ := (HR2.out.below HB3.out) 0 s0 hs0
  have hwd1 := mat_row hm1 hr0
  have hwd2 := mat_row hm2 hs0
  rw [show ad.add 0 = ad by simp [Addr.add], hw0] at d0
  rw [show ad2.add 0 = ad2 by simp [Addr.add], hv0] at d2
  obtain ⟨p, hp⟩ : ∃ p, wid rows = p := ⟨_, rfl⟩
  obtain ⟨q, hq⟩ : ∃ q, wid more = q := ⟨_, rfl⟩
  rw [hp] at d0 hw0
  rw [hq] at d2 hv0
  rw [hw0] at hwd1
  rw [hv0] at hwd2
  have hpq : p ≤ 4096 ∧ q ≤ 4096 := by omega
  have HP := Lib.hid hp
  have HQ := Lib.hid hq
  have HM1 := Lib.hid hm1
  have HM2 := Lib.hid hm2
  clear hp hq hwd1 hwd2 hr0 hs0 hw0 hv0 hm1 hm2 he1 he2
  have hn1I : (0 : Int) < n1 := by omega
  by_cases hwide : 4096 < p + q
  · have f2 : decide ((4096 : Int) < (p : Int) + (q : Int)) = true := by rw [decide_eq_true_eq]; omega
    have f3 : (4096 : Int) < (p : Int) + (q : Int) := by omega
    go_quiet (fail)
    go_wp2_with fail
    go_ret
    exact ⟨rfl, Below.then HB3.out HB3.out.size (below_drewN _ _)⟩
  have f2 : decide ((4096 : Int) < (p : Int) + (q : Int)) = false := by rw [decide_eq_false_iff_not]; omega
  go_quiet (fail)
  generalize hwq : w3.drewN nq = w4
  have hb4 : Below w3.heap.size w3 w4 := hwq ▸ below_drewN w3 nq
  have e0 := cell_below hb4 (by omega) e0
  have e1 := cell_below hb4 (by omega) e1
  have e2 := cell_below hb4 (by omega) e2
  have HB4 := Lib.hid (Below.then HB3.out HB3.out.size hb4)
  have hz4 := Nat.lt_of_lt_of_le hz3 hb4.size
  have hb5 := below_alloc w4 (.cells #[.slice none 0 0] 36)
  have e0 := cell_below hb5 (by omega) e0
  have e1 := cell_below hb5 (by omega) e1
  have e2 := cell_below hb5 (by omega) e2
  have HB5 := Lib.hid (Below.then HB4.out HB4.out.size hb5)
  have HI0 : Hid (SInv (w4.alloc (.cells #[.slice none 0 0] 36)) (w4.alloc (.cells #[.slice none 0 0] 36)) w4.heap.size [] (.slice none 0 0)) :=
    ⟨by simp, Below.refl _ _, Nat.le_refl _, heap_alloc_new w4 _, [], World.ownsRow_nil _ _ _ _, RowsAt.nil _ _ _⟩
  have hz5 : w4.heap.size < (w4.alloc (.cells #[.slice none 0 0] 36)).heap.size := by simp
  have HWD : Hid (p + q ≤ 4096) := by show p + q ≤ 4096; omega
  clear hb4 hb5 hwq d0 d2 HL1 HL2 f1 f2 hwide
  go_wp2_with fail
  generalize w4.alloc (.cells #[.slice none 0 0] 36) = W5 at *
  go_loopg [65] n1 (fun gk v65 wr => ∃ (i : Nat) (v : Value), v65 = .int .i64 i ∧ i ≤ n1 ∧ Hid (gk + i = n1) ∧ Hid (SInv W5 wr w4.heap.size ((beside rows more).take i) v))
  case atStart => exact ⟨0, _, rfl, Nat.zero_le _, rfl, HI0.out⟩
  case round =>
    obtain ⟨i, v, rfl, hi, HG, HI⟩ := hrel
    have hbw := HI.out.below
    have e0 := cell_below hbw (by omega) e0
    have e1 := cell_below hbw (by omega) e1
    have e2 := cell_below hbw (by omega) e2
    by_cases hin : i < n1
    · obtain ⟨r, hri⟩ : ∃ r, rows[i]? = some r := ⟨_, List.getElem?_eq_getElem (by have := HN.out; omega)⟩
      obtain ⟨t, hti⟩ : ∃ t, more[i]? = some t := ⟨_, List.getElem?_eq_getElem (by have := HN2.out; omega)⟩
      have HBW := Lib.hid (HB5.out.trans (hbw.mono (by omega)))
      obtain ⟨ad', R1, k1, he1, d1, rd1, lc1, mc1⟩ := (HR.out.below HBW.out) i r hri
      obtain ⟨ad2', R2, k2, he2, d2, rd2, lc2, mc2⟩ := (HR2.out.below HBW.out) i t hti
      obtain rfl : ad = ad' := by simpa using he1
      obtain rfl : ad2 = ad2' := by simpa using he2
      have hrl := (mat_row HM1.out hri).1
      have htl := (mat_row HM2.out hti).1
      rw [HP.out] at hrl
      rw [HQ.out] at htl
      rw [hrl] at d1
      rw [htl] at d2
      obtain ⟨A5, c5, rfl, hc5⟩ := HI.out.slice
      have hbl := beside_length (A := rows) (B := more) (by rw [HN.out, HN2.out])
      have hJl : ((beside rows more).take i).length = i := by rw [List.length_take, hbl, HN.out]; omega
      rw [hJl] at hc5
      rw [hJl] at HI
      have HST : Hid ((beside rows more).take (i + 1) = (beside rows more).take i ++ [r ++ t]) := take_more (beside_get hri hti)
      obtain ⟨J, hJ⟩ : ∃ J, (beside rows more).take i = J := ⟨_, rfl⟩
      rw [hJ] at HI HST hJl
      have x1 := HI.out.cell
      have x2 := HI.out.frozen
      have hiI : (i : Int) < n1 := by omega
      have hz6 := HI.out.size
      have w1' := World.block_lt_of_cell? wr _ d1
      have w2' := World.block_lt_of_cell? wr _ d2
      have HD1 := Lib.hid rd1
      have HD2 := Lib.hid rd2
      have hadb : (ad.add i).block < w.heap.size := by
        obtain ⟨_, _, _, he, hc, -⟩ := HR.out i r hri
        obtain rfl := Option.some.inj he
        exact World.block_lt_of_cell? w _ hc
      have hadb2 : (ad2.add i).block < w.heap.size := by
        obtain ⟨_, _, _, he, hc, -⟩ := HR2.out i t hti
        obtain rfl := Option.some.inj he
        exact World.block_lt_of_cell? w _ hc
      have KC : Hid (∀ W', Below W5.heap.size wr W' → W'.cell? ⟨w4.heap.size, 0, none⟩ = some (.slice A5 i c5) ∧ W'.cell? ⟨w.heap.size + 1, 0, none⟩ = some (.slice (some ad) n1 c1) ∧ W'.cell? ⟨w.heap.size + 1 + 1, 0, none⟩ = some (.slice (some ad2) n1 c2) ∧ W'.cell? (ad.add i) = some (.slice R1 p k1) ∧ W'.cell? (ad2.add i) = some (.slice R2 q k2)) :=
        Lib.hid fun W' h => ⟨cell_below h (by omega) x1, cell_below h (by omega) e1, cell_below h (by omega) e2, (h.cell (Nat.lt_trans hadb (by omega))).trans d1, (h.cell (Nat.lt_trans hadb2 (by omega))).trans d2⟩
      have X1 := Lib.hid x1
      have X2 := Lib.hid x2
      have hJi : J.length + 1 ≤ 1000000000 := by omega
      clear hri hti he1 he2 d1 d2 rd1 rd2 lc1 lc2 mc1 mc2 w1' w2' hbl hJl hJ x1 x2 e1 e2
      go_wp2_with fail
      refine wp_region_last (S := fun w' => Below W5.heap.size wr w') (st := 17) (by kernel_rfl) (fun hsh => ?_)
      change wpAnyL _ _ _ _ _ _ 18 (Array.replicate 18 false) _ wr.drew
      replace hsh : Shut .any _ (Array.replicate 18 false) := hsh
      have hS : Below W5.heap.size wr wr.drew := (Below.refl _ _).drew
      refine wpAnyL_take (i := 0) (oi := { dst := some 68, op := Op.fieldAddr 36 (Operand.tmp 11) 0, type := 0, pos := "law.go:99", after := #[], guard := none }) (fuel := 17) (v := ?_) rfl (by kernel_rfl) (by kernel_rfl) (by kernel_rfl) (by kernel_rfl) hsh (fun _ _ _ h => h) (Or.inl ⟨by rfl, ?_⟩) hS (fun hsh => ?_)
      rotate_left
      · intro W' hW
        obtain ⟨g1, g2, g3, g4, g5⟩ := KC.out W' hW
        go_simp <;> with_reducible rfl
      simp only [Act.put, List.setIfInBounds_toArray, List.set_cons_zero, List.set_cons_succ] at hsh ⊢
      refine wpAnyL_take (i := 1) (oi := { dst := some 69, op := Op.load 34 (Operand.tmp 68), type := 34, pos := "law.go:99", after := #[{ on := 0, ground := Ground.data }], guard := none }) (fuel := 16) (v := ?_) rfl (by kernel_rfl) (by kernel_rfl) (by kernel_rfl) (by kernel_rfl) hsh (fun _ _ _ h => h) (Or.inl ⟨by rfl, ?_⟩) hS (fun hsh => ?_)
      rotate_left
      · intro W' hW
        obtain ⟨g1, g2, g3, g4, g5⟩ := KC.out W' hW
        go_simp <;> with_reducible rfl
      simp only [Act.put, List.setIfInBounds_toArray, List.set_cons_zero, List.set_cons_succ] at hsh ⊢
      refine wpAnyL_take (i := 2) (oi := { dst := some 70, op := Op.fieldAddr 36 (Operand.tmp 4) 0, type := 0, pos := "law.go:99", after := #[], guard := none }) (fuel := 15) (v := ?_) rfl (by kernel_rfl) (by kernel_rfl) (by kernel_rfl) (by kernel_rfl) hsh (fun _ _ _ h => h) (Or.inl ⟨by rfl, ?_⟩) hS (fun hsh => ?_)
      rotate_left
      · intro W' hW
        obtain ⟨g1, g2, g3, g4, g5⟩ := KC.out W' hW
        go_simp <;> with_reducible rfl
      simp only [Act.put, List.setIfInBounds_toArray, List.set_cons_zero, List.set_cons_succ] at hsh ⊢
      refine wpAnyL_take (i := 3) (oi := { dst := some 71, op := Op.load 34 (Operand.tmp 70), type := 34, pos := "law.go:99", after := #[{ on := 2, ground := Ground.data }], guard := none }) (fuel := 14) (v := ?_) rfl (by kernel_rfl) (by kernel_rfl) (by kernel_rfl) (by kernel_rfl) hsh (fun _ _ _ h => h) (Or.inl ⟨by rfl, ?_⟩) hS (fun hsh => ?_)
      rotate_left
      · intro W' hW
        obtain ⟨g1, g2, g3, g4, g5⟩ := KC.out W' hW
        go_simp <;> with_reducible rfl
      simp only [Act.put, List.setIfInBounds_toArray, List.set_cons_zero, List.set_cons_succ] at hsh ⊢
      refine wpAnyL_take (i := 4) (oi := { dst := some 72, op := Op.move (Operand.tmp 12), type := 3, pos := "law.go:99", after := #[], guard := none }) (fuel := 13) (v := ?_) rfl (by kernel_rfl) (by kernel_rfl) (by kernel_rfl) (by kernel_rfl) hsh (fun _ _ _ h => h) (Or.inl ⟨by rfl, ?_⟩) hS (fun hsh => ?_)
      rotate_left
      · intro W' hW
        obtain ⟨g1, g2, g3, g4, g5⟩ := KC.out W' hW
        go_simp <;> with_reducible rfl
      simp only [Act.put, List.setIfInBounds_toArray, List.set_cons_zero, List.set_cons_succ] at hsh ⊢
      refine wpAnyL_take (i := 5) (oi := { dst := some 73, op := Op.indexAddr 34 (Operand.tmp 71) (Operand.tmp 72), type := 0, pos := "law.go:99", after := #[{ on := 3, ground := Ground.data }, { on := 4, ground := Ground.data }], guard := none }) (fuel := 12) (v := ?_) rfl (by kernel_rfl) (by kernel_rfl) (by kernel_rfl) (by kernel_rfl) hsh (fun _ _ _ h => h) (Or.inl ⟨by rfl, ?_⟩) hS (fun hsh => ?_)
      rotate_left
      · intro W' hW
        obtain ⟨g1, g2, g3, g4, g5⟩ := KC.out W' hW
        go_simp <;> with_reducible rfl
      simp only [Act.put, List.setIfInBounds_toArray, List.set_cons_zero, List.set_cons_succ] at hsh ⊢
      refine wpAnyL_take (i := 6) (oi := { dst := some 74, op := Op.load 43 (Operand.tmp 73), type := 43, pos := "law.go:99", after := #[{ on := 5, ground := Ground.data }], guard := none }) (fuel := 11) (v := ?_) rfl (by kernel_rfl) (by kernel_rfl) (by kernel_rfl) (by kernel_rfl) hsh (fun _ _ _ h => h) (Or.inl ⟨by rfl, ?_⟩) hS (fun hsh => ?_)
      rotate_left
      · intro W' hW
        obtain ⟨g1, g2, g3, g4, g5⟩ := KC.out W' hW
        go_simp <;> with_reducible rfl
      simp only [Act.put, List.setIfInBounds_toArray, List.set_cons_zero, List.set_cons_succ] at hsh ⊢
      refine wpAnyL_take (i := 8) (oi := { dst := some 76, op := Op.fieldAddr 36 (Operand.tmp 5) 0, type := 0, pos := "law.go:99", after := #[], guard := none }) (fuel := 10) (v := ?_) rfl (by kernel_rfl) (by kernel_rfl) (by kernel_rfl) (by kernel_rfl) hsh (fun _ _ _ h => h) (Or.inl ⟨by rfl, ?_⟩) hS (fun hsh => ?_)
      rotate_left
      · intro W' hW
        obtain ⟨g1, g2, g3, g4, g5⟩ := KC.out W' hW
        go_simp <;> with_reducible rfl
      simp only [Act.put, List.setIfInBounds_toArray, List.set_cons_zero, List.set_cons_succ] at hsh ⊢
      refine wpAnyL_take (i := 9) (oi := { dst := some 77, op := Op.load 34 (Operand.tmp 76), type := 34, pos := "law.go:99", after := #[{ on := 8, ground := Ground.data }], guard := none }) (fuel := 9) (v := ?_) rfl (by kernel_rfl) (by kernel_rfl) (by kernel_rfl) (by kernel_rfl) hsh (fun _ _ _ h => h) (Or.inl ⟨by rfl, ?_⟩) hS (fun hsh => ?_)
      rotate_left
      · intro W' hW
        obtain ⟨g1, g2, g3, g4, g5⟩ := KC.out W' hW
        go_simp <;> with_reducible rfl
      simp only [Act.put, List.setIfInBounds_toArray, List.set_cons_zero, List.set_cons_succ] at hsh ⊢
      refine wpAnyL_take (i := 10) (oi := { dst := some 78, op := Op.move (Operand.tmp 12), type := 3, pos := "law.go:99", after := #[], guard := none }) (fuel := 8) (v := ?_) rfl (by kernel_rfl) (by kernel_rfl) (by kernel_rfl) (by kernel_rfl) hsh (fun _ _ _ h => h) (Or.inl ⟨by rfl, ?_⟩) hS (fun hsh => ?_)
      rotate_left
      · intro W' hW
        obtain ⟨g1, g2, g3, g4, g5⟩ := KC.out W' hW
        go_simp <;> with_reducible rfl
      simp only [Act.put, List.setIfInBounds_toArray, List.set_cons_zero, List.set_cons_succ] at hsh ⊢
      refine wpAnyL_take (i := 11) (oi := { dst := some 79, op := Op.indexAddr 34 (Operand.tmp 77) (Operand.tmp 78), type := 0, pos := "law.go:99", after := #[{ on := 9, ground := Ground.data }, { on := 10, ground := Ground.data }], guard := none }) (fuel := 7) (v := ?_) rfl (by kernel_rfl) (by kernel_rfl) (by kernel_rfl) (by kernel_rfl) hsh (fun _ _ _ h => h) (Or.inl ⟨by rfl, ?_⟩) hS (fun hsh => ?_)
      rotate_left
      · intro W' hW
        obtain ⟨g1, g2, g3, g4, g5⟩ := KC.out W' hW
        go_simp <;> with_reducible rfl
      simp only [Act.put, List.setIfInBounds_toArray, List.set_cons_zero, List.set_cons_succ] at hsh ⊢
      refine wpAnyL_take (i := 12) (oi := { dst := some 80, op := Op.load 43 (Operand.tmp 79), type := 43, pos := "law.go:99", after := #[{ on := 11, ground := Ground.data }], guard := none }) (fuel := 6) (v := ?_) rfl (by kernel_rfl) (by kernel_rfl) (by kernel_rfl) (by kernel_rfl) hsh (fun _ _ _ h => h) (Or.inl ⟨by rfl, ?_⟩) hS (fun hsh => ?_)
      rotate_left
      · intro W' hW
        obtain ⟨g1, g2, g3, g4, g5⟩ := KC.out W' hW
        go_simp <;> with_reducible rfl
      simp only [Act.put, List.setIfInBounds_toArray, List.set_cons_zero, List.set_cons_succ] at hsh ⊢
      refine wpAnyL_one (i := 7) (oi := { dst := some 75, op := Op.call { callee := Callee.builtin Builtin.append, args := #[Operand.const (Value.slice none 0 0), Operand.tmp 74], argTypes := #[43, 43] }, type := 43, pos := "law.go:99", after := #[{ on := 6, ground := Ground.data }], guard := none }) (fuel := 5) (by kernel_rfl) rfl (fun K hK => ?_)
      refine step_appendInts (l := []) (r := r) (World.ownsRow_nil wr.drew wr.heap.size 3 1) (HD1.out.below (below_drewN wr 1)) hrl (Nat.le_refl _) (by omega) (by exact ⟨rfl, rfl, rfl, rfl⟩) ?_
      intro v1 a1 ho1 hu1
      rw [Nat.zero_add, List.nil_append] at ho1
      have hb6 : Below wr.heap.size wr a1 := Below.then (Below.refl _ _).drew (Nat.le_refl _) hu1.below_nil
      refine hK _ _ ⟨fun _ => hb6.mono hz6, ?_⟩
      simp only [Act.put, List.setIfInBounds_toArray, List.set_cons_zero, List.set_cons_succ]
      refine wpAnyL_one (i := 13) (oi := { dst := some 81, op := Op.call { callee := Callee.builtin Builtin.append, args := #[Operand.tmp 75, Operand.tmp 80], argTypes := #[43, 43] }, type := 43, pos := "law.go:99", after := #[{ on := 7, ground := Ground.data }, { on := 12, ground := Ground.data }, { on := 7, ground := Ground.chain }], guard := none }) (fuel := 4) (by kernel_rfl) rfl (fun K hK => ?_)
      refine step_appendInts (l := r) (r := t) ho1 (HD2.out.below hb6) htl hb6.size (by omega) (by exact ⟨rfl, rfl, rfl, rfl⟩) ?_
      intro v2 a2 ho2 hu2
      have hb7 : Below wr.heap.size wr a2 := hb6.trans (hu2.below hb6.size (own_base ho1))
      refine hK _ _ ⟨fun _ => hb7.mono hz6, ?_⟩
      obtain ⟨A7, c7, rfl, hc7⟩ := own_slice ho2
      have HX : Hid (RowAt a2.heap.size a2 W5.heap.size (.slice A7 (p + q) c7) (r ++ t)) := (RowAt.new ho2).mono (Nat.le_refl _) hz6
      have HI7 := Lib.hid (HI.out.beside hb7)
      obtain ⟨vs, hov, hrv⟩ := HI7.out.out
      simp only [Act.put, List.setIfInBounds_toArray, List.set_cons_zero, List.set_cons_succ]
      refine wpAnyL_one (i := 14) (oi := { dst := some 82, op := Op.buildSlice 34 1 #[(0, Operand.tmp 81)], type := 34, pos := "law.go:99", after := #[{ on := 13, ground := Ground.data }], guard := none }) (fuel := 3) (by kernel_rfl) rfl (fun K hK => ?_)
      go_simp
      refine hK _ _ ⟨fun _ => (Below.trans (hb7.mono hz6) (below_alloc a2 _ |>.mono (Nat.le_trans hz6 hb7.size))), ?_⟩
      refine wpAnyL_one (i := 15) (oi := { dst := some 83, op := Op.call { callee := Callee.builtin Builtin.append, args := #[Operand.tmp 69, Operand.tmp 82], argTypes := #[34, 34] }, type := 34, pos := "law.go:99", after := #[{ on := 1, ground := Ground.data }, { on := 14, ground := Ground.data }, { on := 13, ground := Ground.chain }], guard := none }) (fuel := 2) (by kernel_rfl) rfl (fun K hK => ?_)
      refine step_append1 hov (by have := hb7.size; omega) hJi 34 Try.underlying34 info_rowS ⟨rfl, by decide, by decide⟩ _ (oneSl _ _ _) (by exact ⟨rfl, rfl, rfl, rfl, rfl⟩) ?_
      intro v3 a3 ho3 hu3
      have hb8 : Below W5.heap.size wr a3 := (hb7.mono hz6).trans (hu3.below (by have := hb7.size; omega) (own_base hov))
      refine hK _ _ ⟨fun _ => hb8, ?_⟩
      obtain ⟨A9, c9, rfl, hc9⟩ := own_slice ho3
      have y1 := cell_below hb8 hz5 X1.out
      have y2 := frozen_below hb8 hz5 X2.out
      simp only [Act.put, List.setIfInBounds_toArray, List.set_cons_zero, List.set_cons_succ]
      refine wpAnyL_one (i := 16) (oi := { dst := some 84, op := Op.fieldAddr 36 (Operand.tmp 11) 0, type := 0, pos := "law.go:99", after := #[{ on := 0, ground := Ground.phase }, { on := 1, ground := Ground.phase }, { on := 2, ground := Ground.phase }, { on := 3, ground := Ground.phase }, { on := 4, ground := Ground.phase }, { on := 5, ground := Ground.phase }, { on := 6, ground := Ground.phase }, { on := 7, ground := Ground.phase }, { on := 8, ground := Ground.phase }, { on := 9, ground := Ground.phase }, { on := 10, ground := Ground.phase }, { on := 11, ground := Ground.phase }, { on := 12, ground := Ground.phase }, { on := 13, ground := Ground.phase }, { on := 14, ground := Ground.phase }, { on := 15, ground := Ground.phase }], guard := none }) (fuel := 1) (by kernel_rfl) rfl (fun K hK => ?_)
      go_simp
      refine hK _ _ ⟨fun _ => hb8, ?_⟩
      refine wpAnyL_one (i := 17) (oi := { dst := none, op := Op.store 34 (Operand.tmp 84) (Operand.tmp 83), type := 0, pos := "law.go:99", after := #[{ on := 16, ground := Ground.data }, { on := 15, ground := Ground.data }, { on := 15, ground := Ground.chain }, { on := 0, ground := Ground.phase }, { on := 1, ground := Ground.phase }, { on := 2, ground := Ground.phase }, { on := 3, ground := Ground.phase }, { on := 4, ground := Ground.phase }, { on := 5, ground := Ground.phase }, { on := 6, ground := Ground.phase }, { on := 7, ground := Ground.phase }, { on := 8, ground := Ground.phase }, { on := 9, ground := Ground.phase }, { on := 10, ground := Ground.phase }, { on := 11, ground := Ground.phase }, { on := 12, ground := Ground.phase }, { on := 13, ground := Ground.phase }, { on := 14, ground := Ground.phase }, { on := 15, ground := Ground.phase }], guard := none }) (fuel := 0) (by kernel_rfl) rfl (fun K hK => ?_)
      go_simp
      refine hK _ _ ⟨fun h => absurd rfl h, ?_⟩
      refine wpAnyL_done (by kernel_rfl) ?_ _
      have HI9 := Lib.hid (HI7.out.next hov hrv HX.out ho3 hu3)
      rw [← HST.out] at HI9
      generalize a3.setCell ⟨w4.heap.size, 0, none⟩ (.slice A9 (J.length + 1) c9) = a4 at *
      clear hov hrv ho3 hu3 y1 y2 hb8 hb7 ho2 hu2 ho1 hu1 hb6
      go_wp2_with fail
      go_roundg (gk - 1)
      case measure => have := HG.out; omega
      case rel => exact ⟨i + 1, _, by go_num, by omega, by have := HG.out; show gk - 1 + (i + 1) = n1; omega, HI9.out⟩
    · obtain rfl : i = n1 := by omega
      have hall : (beside rows more).take i = beside rows more := List.take_of_length_le (by rw [beside_length (by rw [HN.out, HN2.out]), HN.out]; omega)
      rw [hall] at HI
      have hLL : rows.length = more.length := by rw [HN.out, HN2.out]
      have hWW : wid rows + wid more ≤ 4096 := by rw [HP.out, HQ.out]; exact HWD.out
      have hlow := low_beside hLL HM1.out HM2.out hWW
      have hok := beside_ok hLL HM1.out HM2.out hWW
      obtain ⟨hr1, hr2⟩ := err_beside hLL HM1.out HM2.out hWW bs
      have hsum := sum_beside hLL HM1.out HM2.out hWW bs
      have hjl : (beside rows more).length = i := by rw [beside_length hLL, HN.out]
      have ha1 := lowNum_few HM1.out
      have ha2 := lowNum_few HM2.out
      have hs1 := sumNum_few bs rows
      have hs2 := sumNum_few bs more
      have hj0 := lowNum_ok hok
      generalize hJ : beside rows more = J at *
      obtain ⟨A5, c5, rfl, hc5⟩ := HI.out.slice
      rw [hjl] at HI hc5
      have hbelW : Below w.heap.size w wr := HB5.out.trans (hbw.mono (by omega))
      have HLW := Lib.hid (low_calls A5 i c5 J wr HI.out.rows hjl (by omega))
      rw [hj0.2, hlow] at HLW
      rw [show ((lowNum rows + lowNum more : Nat) : Int) = (lowNum rows : Int) + (lowNum more : Int) by omega] at HLW
      have HC1 := Lib.hid (fun (W : World) (h : Below wr.heap.size wr W) => sum_calls A n c bs (some ad) i c1 rows W ⟨(hb.below (Below.then hbelW hbelW.size h)), hbn, hbc, HR.out.below (Below.then hbelW hbelW.size h), HN.out, hcap⟩)
      have HC2 := Lib.hid (fun (W : World) (h : Below wr.heap.size wr W) => sum_calls A n c bs (some ad2) i c2 more W ⟨(hb.below (Below.then hbelW hbelW.size h)), hbn, hbc, HR2.out.below (Below.then hbelW hbelW.size h), HN2.out, hcap2⟩)
      have HC3 := Lib.hid (fun (W : World) (h : Below wr.heap.size wr W) => sum_calls A n c bs A5 i c5 J W ⟨(hb.below (Below.then hbelW hbelW.size h)), hbn, hbc, HI.out.rows.below h, hjl, hcap⟩)
      rw [hr2] at HC2
      rw [hr1, hsum] at HC3
      rw [show ((sumNum bs rows + sumNum bs more : Nat) : Int) = (sumNum bs rows : Int) + (sumNum bs more : Int) by omega] at HC3
      obtain ⟨er, her⟩ : ∃ er, errBoth bs rows = er := ⟨_, rfl⟩
      rw [her] at HC1 HC2 HC3
      have x1 := HI.out.cell
      obtain ⟨la, hla⟩ : ∃ la, lowNum rows = la := ⟨_, rfl⟩
      obtain ⟨lb, hlb⟩ : ∃ lb, lowNum more = lb := ⟨_, rfl⟩
      obtain ⟨sa, hsa⟩ : ∃ sa, sumNum bs rows = sa := ⟨_, rfl⟩
      obtain ⟨sb, hsb⟩ : ∃ sb, sumNum bs more = sb := ⟨_, rfl⟩
      rw [hla, hlb] at HLW
      rw [hsa] at HC1 HC3 hs1
      rw [hsb] at HC2 HC3 hs2
      rw [hla] at ha1
      rw [hlb] at ha2
      rw [hla, hlb]
      have f1 : (er == er) = true := by simp
      have f2 : (((la : Int) + (lb : Int)) != ((la : Int) + (lb : Int))) = false := by simp
      have f3 : (((sa : Int) + (sb : Int)) == ((sa : Int) + (sb : Int))) = true := by simp
      have hz6 := HI.out.size
      have hz7 : w4.heap.size < wr.heap.size := by omega
      have HBEL := Lib.hid hbelW
      clear hall hLL hWW hlow hok hr1 hr2 hsum hjl hj0 hJ her hla hlb hsa hsb hbelW hbw
      go_wp2_with fail
      (with_reducible refine HLW.out.mono ?_)
      rintro _ w6 ⟨rfl, hb6⟩
      have e0 := cell_below hb6 (by omega) e0
      have e1 := cell_below hb6 (by omega) e1
      have e2 := cell_below hb6 (by omega) e2
      have x1 := cell_below hb6 hz7 x1
      have HB6 := Lib.hid hb6
      have hz8 := hb6.size
      clear hb6
      go_wp2_with fail
      (with_reducible refine (HC1.out _ HB6.out).mono ?_)
      rintro _ w7 ⟨rfl, hb7⟩
      have e0 := cell_below hb7 (by omega) e0
      have e2 := cell_below hb7 (by omega) e2
      have x1 := cell_below hb7 (by omega) x1
      have HB7 := Lib.hid (Below.then HB6.out HB6.out.size hb7)
      have hz9 := hb7.size
      clear hb7
      go_wp2_with fail
      (with_reducible refine (HC2.out _ HB7.out).mono ?_)
      rintro _ w8 ⟨rfl, hb8⟩
      have e0 := cell_below hb8 (by omega) e0
      have x1 := cell_below hb8 (by omega) x1
      have HB8 := Lib.hid (Below.then HB7.out HB7.out.size hb8)
      clear hb8
      go_wp2_with fail
      (with_reducible refine (HC3.out _ HB8.out).mono ?_)
      rintro _ w9 ⟨rfl, hb9⟩
      have HB9 := Lib.hid (Below.then HBEL.out HBEL.out.size (Below.then HB8.out HB8.out.size hb9))
      clear hb9
      go_wp2_with fail
      go_ret
      exact ⟨rfl, HB9.out⟩
end Go.Proofs.Ytbmlkomfelkckaa
