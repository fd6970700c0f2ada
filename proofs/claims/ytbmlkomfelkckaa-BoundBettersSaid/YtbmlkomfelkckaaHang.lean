/- siglumref20.moved, Hang. -/
import Derived.Test.YtbmlkomfelkckaaGrow
import Derived.Test.YtbmlkomfelkckaaFormR
import Derived.Deep.CutBlock
namespace Go.Proofs.Ytbmlkomfelkckaa
open Go Go.RowKit
set_option maxRecDepth 100000

theorem moved_calls (x p : Int) (w : World) (h0 : -1000000 ≤ x) (h1 : x ≤ 1000000) : Calls Try.prog 102 #[.int .i64 x, .int .i64 p] w fun e w' => e = .returned (.int .i64 (movedI x p)) ∧ w' = w := by
  by_cases h : p ≤ x
  · rw [movedI_ge h]
    go_enter Try.func102, Try.ntmps102
    go_wp2_with fail
    go_ret
    exact ⟨rfl, rfl⟩
  · rw [movedI_lt (by omega)]
    go_enter Try.func102, Try.ntmps102
    go_wp2_with fail
    go_ret
    exact ⟨rfl, rfl⟩

/-- What Hang leaves. -/
def RetHang (w : World) (X : NT) (e : Ending) (w' : World) : Prop :=
  ∃ g c, e = .returned (.agg #[.slice (some ⟨g, 0, none⟩) X.size c]) ∧ FAt w' g c (X.form 0) ∧ Below w.heap.size w w'

theorem hang_take {p : Int} {k : Nat} {bs : List Br} {i : Nat} {b : Br} (h : bs[i]? = some b) : hangFrom p k 0 (bs.take (i + 1)) = hangFrom p k 0 (bs.take i) ++ hangOne i p k b := by
  have hi := (List.getElem?_eq_some_iff.1 h).1
  rw [take_moreB h, hangFrom_snoc, List.length_take, Nat.min_eq_left (by omega)]

theorem hang_len (p : Int) (k : Nat) : ∀ (i : Nat) (bs : List Br), (hangFrom p k i bs).length ≤ 3 * bs.length
  | _, [] => Nat.le_refl _
  | i, b :: bs => by
    have := hang_len p k (i + 1) bs
    have h1 : (hangOne i p k b).length ≤ 3 := by unfold hangOne; split <;> split <;> simp
    simp only [hangFrom, List.length_append, List.length_cons]
    omega

set_option maxHeartbeats 4000000 in
theorem hang_calls (A : Option Addr) (c p n : Nat) (T : NT) (w : World) (hT : T.On n) (hn : n ≤ 11) (hp : p < T.size) (hr : RdBr w A (T.form 0)) :
    Calls Try.prog 73 #[.agg #[.slice A T.size c], .int .i64 (p : Int), .int .i64 (n : Int)] w (RetHang w (T.hangR (p : Int) n).norm) := by
  have hon := hT.hang hn hp
  have hform := hang_form (p : Int) n T 0 (by omega) (by omega)
  rw [show (p : Int) - ((0 : Nat) : Int) = p by omega] at hform
  have hzT := hT.size
  have hpos := hT.pos
  obtain ⟨R, hR⟩ : ∃ R, T.hangR (p : Int) n = R := ⟨_, rfl⟩
  rw [hR] at hon hform ⊢
  have hzR := hon.size
  obtain ⟨sz, hsz⟩ : ∃ sz, sz = T.size := ⟨_, rfl⟩
  rw [← hsz] at hzT hp ⊢
  have HSZ := Lib.hid hsz
  have HRD := Lib.hid hr
  have HFM := Lib.hid hform
  have HZR := Lib.hid (show R.size = sz + 2 by omega)
  have HON := Lib.hid hon
  have hszI : (sz : Int) ≤ 21 := by omega
  have hpI : (p : Int) < sz := by omega
  have hnI : (n : Int) ≤ 11 := by omega
  have HRT := Lib.hid hon.root
  have HBT : Hid (∀ (i : Nat) (x : Br), (T.form 0)[i]? = some x → 0 ≤ x.a ∧ x.a ≤ 100 ∧ 0 ≤ x.b ∧ x.b ≤ 100 ∧ (T.form 0).length = sz) := by
    refine Lib.hid fun i x hx => ?_
    have := form_bound hx
    have hi := (List.getElem?_eq_some_iff.1 hx).1
    rw [NT.form_length] at hi ⊢
    have := HSZ.out
    omega
  have hb1 := below_alloc w (.cells #[.slice A sz c] 26)
  have hb2 := below_alloc (w.alloc (.cells #[.slice A sz c] 26)) (.cells #[.slice none 0 0] 26)
  have c0 := cell_below hb2 (by simp) (new_cell w #[.slice A sz c] 26 0)
  have c1 := new_cell (w.alloc (.cells #[.slice A sz c] 26)) #[.slice none 0 0] 26 0
  have f1 := new_frozen (w.alloc (.cells #[.slice A sz c] 26)) #[.slice none 0 0] 26 0
  rw [World.size_alloc] at c1 f1
  have HB0 := Lib.hid (Below.then hb1 hb1.size hb2)
  have hz : w.heap.size + 1 < ((w.alloc (.cells #[.slice A sz c] 26)).alloc (.cells #[.slice none 0 0] 26)).heap.size := by simp
  clear hT hn hr hform hR hon hzR hsz hb1 hb2 hzT
  go_enter Try.func73, Try.ntmps73
  go_wp2_with fail
  generalize (w.alloc (.cells #[.slice A sz c] 26)).alloc (.cells #[.slice none 0 0] 26) = W0 at *
  go_loopg [7, 8] sz (fun gk v7 v8 wr => ∃ (i m : Nat) (A7 : Option Addr) (c7 : Nat), v8 = .int .i64 i ∧ v7 = .slice A7 m c7 ∧ i ≤ sz ∧ Hid (gk + i = sz) ∧ Hid (Below W0.heap.size W0 wr) ∧ Hid (wr.ownsRow W0.heap.size 64 3 (.slice A7 m c7) m (brs (hangFrom (p : Int) n 0 ((T.form 0).take i)))))
  case atStart => exact ⟨0, 0, none, 0, rfl, rfl, Nat.zero_le _, rfl, Below.refl _ _, World.ownsRow_nil _ _ _ _⟩
  case round =>
    obtain ⟨i, m, A7, c7, rfl, rfl, hi, HG, HB, HO⟩ := hrel
    have d0 := cell_below HB.out (by omega) c0
    have hzr : w.heap.size + 1 < wr.heap.size := Nat.lt_of_lt_of_le hz HB.out.size
    have hz0 := HB.out.size
    have hm3 : m ≤ 1000 := by
      have h1 := HO.out.1
      rw [brs_length] at h1
      have h2 := hang_len (p : Int) n 0 ((T.form 0).take i)
      rw [List.length_take] at h2
      omega
    by_cases hin : i < sz
    · obtain ⟨x, hx⟩ : ∃ x, (T.form 0)[i]? = some x := ⟨_, List.getElem?_eq_getElem (by rw [NT.form_length]; have := HSZ.out; omega)⟩
      obtain ⟨x1, x2, x3, x4, -⟩ := HBT.out i x hx
      obtain ⟨ad, rfl, e0, e1, e2⟩ := (HRD.out.below HB0.out).below HB.out i x hx
      have HLEAF := Lib.hid (leaf_calls x (wr.alloc (.cells #[.int .i64 x.leaf, .int .i64 x.a, .int .i64 x.b] 64)))
      have HT := Lib.hid (hang_take (p := (p : Int)) (k := n) hx)
      have hiI : (i : Int) < sz := by omega
      have q0 := new_cell wr #[.int .i64 x.leaf, .int .i64 x.a, .int .i64 x.b] 64 0
      have q1 := new_cell wr #[.int .i64 x.leaf, .int .i64 x.a, .int .i64 x.b] 64 1
      have q2 := new_cell wr #[.int .i64 x.leaf, .int .i64 x.a, .int .i64 x.b] 64 2
      have HBB := Lib.hid (below_alloc wr (.cells #[.int .i64 x.leaf, .int .i64 x.a, .int .i64 x.b] 64))
      clear hx
      go_wp2_with fail
      (with_reducible refine HLEAF.out.mono ?_)
      rintro e w5 ⟨hle, hb5⟩
      have HB5 := Lib.hid (Below.then HBB.out HBB.out.size hb5)
      have q0 := cell_below hb5 (by simp) q0
      have q1 := cell_below hb5 (by simp) q1
      have q2 := cell_below hb5 (by simp) q2
      have g0 := frozen_below hb5 (by simp) (new_frozen wr #[.int .i64 x.leaf, .int .i64 x.a, .int .i64 x.b] 64 1)
      have g2 := frozen_below hb5 (by simp) (new_frozen wr #[.int .i64 x.leaf, .int .i64 x.a, .int .i64 x.b] 64 2)
      have hz5 : wr.heap.size < w5.heap.size := by have := hb5.size; simp at this; omega
      have HOW := Lib.hid (own_below HO.out HB5.out)
      have HBW := Lib.hid (HB.out.trans (HB5.out.mono hz0))
      clear hb5 e0 e1 e2 HLEAF HBB d0
      by_cases hlf : x.a = 0 ∧ x.b = 0
      · have t1 : (x.a == 0 && x.b == 0) = true := by rw [hlf.1, hlf.2]; rfl
        rw [t1] at hle
        subst hle
        have HONE : Hid (hangOne i (p : Int) n x = x :: (if (i : Int) = p then [⟨(n : Int), 0, 0⟩, ⟨0, p, p + 1⟩] else [])) := by
          show hangOne i (p : Int) n x = _
          unfold hangOne
          rw [if_pos hlf]
        clear hlf t1
        by_cases hip : i = p
        · have f1 : ((i : Int) == (p : Int)) = true := by rw [beq_iff_eq]; omega
          have HN : Hid (brs (hangFrom (p : Int) n 0 ((T.form 0).take (i + 1))) = brs (hangFrom (p : Int) n 0 ((T.form 0).take i)) ++ [.int .i64 x.leaf, .int .i64 x.a, .int .i64 x.b] ++ (brs [⟨(n : Int), 0, 0⟩, ⟨0, p, p + 1⟩])) := by
            show _ = _
            rw [HT.out, HONE.out, if_pos (by omega)]
            simp [brs, Br.cells]
          clear hip
          go_wp2_with (first
            | (at_builtin; refine walk_append1 HOW.out (by omega) (by omega) 24 Try.underlying24 info_brP ⟨rfl, by decide, by decide⟩ _ (one3 _ _ _) (by exact ⟨rfl, rfl, rfl, rfl, rfl⟩) ?_; intro v1 w6 ho6 hu6)
            | (at_builtin; refine walk_appendRow (own_alloc ho6 _) (own_new w6 #[.int .i64 (n : Int), .int .i64 0, .int .i64 0, .int .i64 0, .int .i64 (p : Int), .int .i64 ((p : Int) + 1)] 64 3 2 w6.heap.size (Nat.le_refl _) rfl (by omega)) (by omega) (by have := hu6.1.size; simp; omega) (by omega) 24 Try.underlying24 info_brP ⟨rfl, by decide, by decide⟩ (brs_one [⟨(n : Int), 0, 0⟩, ⟨0, p, p + 1⟩]) (by exact ⟨rfl, rfl, rfl, rfl⟩) ?_; intro v2 w7 ho7 hu7))
          obtain ⟨A8, c8, rfl, _⟩ := own_slice ho7
          go_roundg (gk - 1)
          case measure => have := HG.out; omega
          case rel =>
            refine ⟨i + 1, _, A8, c8, by go_num, rfl, by omega, by have := HG.out; show gk - 1 + (i + 1) = sz; omega, ?_, ?_⟩
            · have h6 : Below W0.heap.size W0 w6 := HBW.out.trans (hu6.below (by omega) (own_base HOW.out))
              exact h6.trans (((below_alloc w6 _).mono h6.size).trans (hu7.below (by have := h6.size; simp; omega) (own_base ho6)))
            · rw [HN.out]
              exact ho7
        · have f1 : ((i : Int) == (p : Int)) = false := by rw [beq_eq_false_iff_ne]; omega
          have HN : Hid (brs (hangFrom (p : Int) n 0 ((T.form 0).take (i + 1))) = brs (hangFrom (p : Int) n 0 ((T.form 0).take i)) ++ [.int .i64 x.leaf, .int .i64 x.a, .int .i64 x.b]) := by
            show _ = _
            rw [HT.out, HONE.out, if_neg (by omega)]
            simp [brs, Br.cells]
          clear hip
          go_wp2_with (at_builtin; refine walk_append1 HOW.out (by omega) (by omega) 24 Try.underlying24 info_brP ⟨rfl, by decide, by decide⟩ _ (one3 _ _ _) (by exact ⟨rfl, rfl, rfl, rfl, rfl⟩) ?_; intro v1 w6 ho6 hu6)
          obtain ⟨A8, c8, rfl, _⟩ := own_slice ho6
          go_roundg (gk - 1)
          case measure => have := HG.out; omega
          case rel =>
            refine ⟨i + 1, _, A8, c8, by go_num, rfl, by omega, by have := HG.out; show gk - 1 + (i + 1) = sz; omega, HBW.out.trans (hu6.below (by omega) (own_base HOW.out)), ?_⟩
            rw [HN.out]
            exact ho6
      · have t1 : (x.a == 0 && x.b == 0) = false := by
          rw [Bool.and_eq_false_iff, beq_eq_false_iff_ne, beq_eq_false_iff_ne]
          omega
        rw [t1] at hle
        subst hle
        have HONE : Hid (hangOne i (p : Int) n x = ⟨x.leaf, movedI x.a p, movedI x.b p⟩ :: (if (i : Int) = p then [⟨(n : Int), 0, 0⟩, ⟨0, p, p + 1⟩] else [])) := by
          show hangOne i (p : Int) n x = _
          unfold hangOne
          rw [if_neg hlf]
        clear hlf t1
        have HM1 := Lib.hid (fun W => moved_calls x.a p W (by omega) (by omega))
        have HM2 := Lib.hid (fun W => moved_calls x.b p W (by omega) (by omega))
        go_wp2_with fail
        (with_reducible refine (HM1.out _).mono ?_)
        rintro e w9 ⟨rfl, rfl⟩
        have k1 := set_cell_eq q1 (.int .i64 (movedI x.a p))
        have k0 : (w9.setCell ⟨wr.heap.size, 1, none⟩ (.int .i64 (movedI x.a p))).cell? ⟨wr.heap.size, 0, none⟩ = some (.int .i64 x.leaf) := mem_ne (.inr (by omega)) q0
        have k2 : (w9.setCell ⟨wr.heap.size, 1, none⟩ (.int .i64 (movedI x.a p))).cell? ⟨wr.heap.size, 2, none⟩ = some (.int .i64 x.b) := mem_ne (.inr (by omega)) q2
        have g2' : (w9.setCell ⟨wr.heap.size, 1, none⟩ (.int .i64 (movedI x.a p))).frozen? ⟨wr.heap.size, 2, none⟩ = false := (frozen_set _ _ _ _).trans g2
        have HB8 := Lib.hid (below_set HB5.out (Nat.le_refl _) 1 (.int .i64 (movedI x.a p)))
        go_wp2_with fail
        generalize w9.setCell ⟨wr.heap.size, 1, none⟩ (.int .i64 (movedI x.a p)) = W8 at *
        (with_reducible refine (HM2.out _).mono ?_)
        rintro e w10 ⟨rfl, rfl⟩
        have HB9W := Lib.hid (below_set HB8.out (Nat.le_refl _) 2 (.int .i64 (movedI x.b p)))
        have l2 := set_cell_eq k2 (.int .i64 (movedI x.b p))
        have l0 : (w10.setCell ⟨wr.heap.size, 2, none⟩ (.int .i64 (movedI x.b p))).cell? ⟨wr.heap.size, 0, none⟩ = some (.int .i64 x.leaf) := mem_ne (.inr (by omega)) k0
        have l1 : (w10.setCell ⟨wr.heap.size, 2, none⟩ (.int .i64 (movedI x.b p))).cell? ⟨wr.heap.size, 1, none⟩ = some (.int .i64 (movedI x.a p)) := mem_ne (.inr (by omega)) k1
        have HO9 := Lib.hid (own_below HO.out HB9W.out)
        have HB9 := Lib.hid (HB.out.trans (HB9W.out.mono hz0))
        have hz9 := HB9W.out.size
        clear q0 q1 q2 k0 k1 g0 HM1 HM2
        go_upto_region 9 with (fail)
        generalize w10.setCell ⟨wr.heap.size, 2, none⟩ (.int .i64 (movedI x.b p)) = W9 at *
        clear k2 g2'
        by_cases hip : i = p
        · have f1 : ((i : Int) == (p : Int)) = true := by rw [beq_iff_eq]; omega
          have HN : Hid (brs (hangFrom (p : Int) n 0 ((T.form 0).take (i + 1))) = brs (hangFrom (p : Int) n 0 ((T.form 0).take i)) ++ [.int .i64 x.leaf, .int .i64 (movedI x.a p), .int .i64 (movedI x.b p)] ++ (brs [⟨(n : Int), 0, 0⟩, ⟨0, p, p + 1⟩])) := by
            show _ = _
            rw [HT.out, HONE.out, if_pos (by omega)]
            simp [brs, Br.cells]
          clear hip
          go_wp2_with (first
            | (at_builtin; refine walk_append1 HO9.out (by omega) (by omega) 24 Try.underlying24 info_brP ⟨rfl, by decide, by decide⟩ _ (one3 _ _ _) (by exact ⟨rfl, rfl, rfl, rfl, rfl⟩) ?_; intro v1 w6 ho6 hu6)
            | (at_builtin; refine walk_appendRow (own_alloc ho6 _) (own_new w6 #[.int .i64 (n : Int), .int .i64 0, .int .i64 0, .int .i64 0, .int .i64 (p : Int), .int .i64 ((p : Int) + 1)] 64 3 2 w6.heap.size (Nat.le_refl _) rfl (by omega)) (by omega) (by have := hu6.1.size; simp; omega) (by omega) 24 Try.underlying24 info_brP ⟨rfl, by decide, by decide⟩ (brs_one [⟨(n : Int), 0, 0⟩, ⟨0, p, p + 1⟩]) (by exact ⟨rfl, rfl, rfl, rfl⟩) ?_; intro v2 w7 ho7 hu7))
          obtain ⟨A8, c8, rfl, _⟩ := own_slice ho7
          go_roundg (gk - 1)
          case measure => have := HG.out; omega
          case rel =>
            refine ⟨i + 1, _, A8, c8, by go_num, rfl, by omega, by have := HG.out; show gk - 1 + (i + 1) = sz; omega, ?_, ?_⟩
            · have h6 : Below W0.heap.size W0 w6 := HB9.out.trans (hu6.below (by omega) (own_base HO9.out))
              exact h6.trans (((below_alloc w6 _).mono h6.size).trans (hu7.below (by have := h6.size; simp; omega) (own_base ho6)))
            · rw [HN.out]
              exact ho7
        · have f1 : ((i : Int) == (p : Int)) = false := by rw [beq_eq_false_iff_ne]; omega
          have HN : Hid (brs (hangFrom (p : Int) n 0 ((T.form 0).take (i + 1))) = brs (hangFrom (p : Int) n 0 ((T.form 0).take i)) ++ [.int .i64 x.leaf, .int .i64 (movedI x.a p), .int .i64 (movedI x.b p)]) := by
            show _ = _
            rw [HT.out, HONE.out, if_neg (by omega)]
            simp [brs, Br.cells]
          clear hip
          go_wp2_with (at_builtin; refine walk_append1 HO9.out (by omega) (by omega) 24 Try.underlying24 info_brP ⟨rfl, by decide, by decide⟩ _ (one3 _ _ _) (by exact ⟨rfl, rfl, rfl, rfl, rfl⟩) ?_; intro v1 w6 ho6 hu6)
          obtain ⟨A8, c8, rfl, _⟩ := own_slice ho6
          go_roundg (gk - 1)
          case measure => have := HG.out; omega
          case rel =>
            refine ⟨i + 1, _, A8, c8, by go_num, rfl, by omega, by have := HG.out; show gk - 1 + (i + 1) = sz; omega, HB9.out.trans (hu6.below (by omega) (own_base HO9.out)), ?_⟩
            rw [HN.out]
            exact ho6
    · have hfin : (T.form 0).take i = T.form 0 := List.take_of_length_le (by rw [NT.form_length]; have := HSZ.out; omega)
      have ho := HO.out
      rw [hfin, HFM.out] at ho
      have hm : m = R.size := by
        have := ho.1
        rw [brs_length, NT.form_length] at this
        omega
      have HRF := Lib.hid (rform_calls A7 m c7 (R.form 0) ((n + 1 : Nat) : Int) wr (own_rd ho).1 (own_rd ho).2 (by omega))
      rw [HRT.out, show ((n + 1 : Nat) : Int) = (n : Int) + 1 by omega] at HRF
      have c1' := cell_below HB.out (by omega) c1
      have f1' := frozen_below HB.out (by omega) f1
      have hpN := R.norm.size_pos
      clear hfin ho hm HRD c0
      go_wp2_with fail
      (with_reducible refine HRF.out.mono ?_)
      rintro e w2 ⟨hb2, A2, c2, rfl, ho2⟩
      obtain ⟨g', he, -, -, hf'⟩ := FAt.own ho2 hpN
      subst he
      have c1' := cell_below hb2 hzr c1'
      have f1' := frozen_below hb2 hzr f1'
      have HF := Lib.hid hf'
      have HBF := Lib.hid (Below.then (Below.then HB0.out HB0.out.size HB.out) (Nat.le_trans HB0.out.size HB.out.size) hb2)
      have hz2 : w.heap.size + 1 < w2.heap.size := Nat.lt_of_lt_of_le hzr hb2.size
      clear hb2 ho2 hf' c1 f1 HRF
      go_wp2_with fail
      have hb3 := below_alloc (w2.setCell ⟨w.heap.size + 1, 0, none⟩ (.slice (some ⟨g', 0, none⟩) R.norm.size c2)) (.cells #[.slice (some ⟨g', 0, none⟩) R.norm.size c2] 26)
      have HBS := Lib.hid (below_set HBF.out (Nat.le_succ _) 0 (.slice (some ⟨g', 0, none⟩) R.norm.size c2))
      have hcell := cell_below hb3 (by simpa using hz2) (set_cell_eq c1' (.slice (some ⟨g', 0, none⟩) R.norm.size c2))
      refine bodyPost_ret (v := .agg #[.slice (some ⟨g', 0, none⟩) R.norm.size c2]) (by simp [results, Try.results73, hcell, go_sem]) rfl ⟨g', c2, rfl, (HF.out.set c1' _).below hb3, Below.then HBS.out HBS.out.size hb3⟩
end Go.Proofs.Ytbmlkomfelkckaa
