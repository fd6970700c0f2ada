/- siglumref23.Grow. -/
import Derived.Test.YtbmlkomfelkckaaGrow
import Derived.Test.YtbmlkomfelkckaaHang
import Derived.Test.YtbmlkomfelkckaaRSite
import Derived.BigQuiet
namespace Go.Proofs.Ytbmlkomfelkckaa
open Go Go.RowKit
set_option maxRecDepth 100000

/-- The reference's best tree so far, and its changes. -/
def RBestAt (w : World) (cost : NT → Nat) (acc : Option NT) (b : Nat) (v : Value) : Prop :=
  match acc with
  | none => w.cell? ⟨b, 0, none⟩ = some (.slice none 0 0) ∧ v = .int .i64 (-1)
  | some B => ∃ g c, w.cell? ⟨b, 0, none⟩ = some (.slice (some ⟨g, 0, none⟩) B.size c) ∧ v = .int .i64 (cost B : Int) ∧ FAt w g c (B.form 0)

set_option maxHeartbeats 4000000 in
theorem rgrow_all (A2 : Option Addr) (n2 c2 : Nat) (rows : List (List Int)) (w : World) (hr : RdRows w A2 rows) (hn : rows.length = n2) (hnc : n2 ≤ c2) (hcap : c2 ≤ 9223372036854775807) :
    Calls Try.prog 43 #[.agg #[.slice A2 n2 c2]] w (RetGrow w rows) := by
  have HMC := Lib.hid (fun (W : World) (h : Below w.heap.size w W) => rmcheck_calls A2 n2 c2 rows W (hr.below h) hn (by omega))
  have hb1 := below_alloc w (.cells #[.slice A2 n2 c2] 36)
  have hb2 := below_alloc (w.alloc (.cells #[.slice A2 n2 c2] 36)) (.cells #[.slice none 0 0] 26)
  have c1 := cell_below hb2 (by simp) (new_cell w #[.slice A2 n2 c2] 36 0)
  have c2' := new_cell (w.alloc (.cells #[.slice A2 n2 c2] 36)) #[.slice none 0 0] 26 0
  have f2 := new_frozen (w.alloc (.cells #[.slice A2 n2 c2] 36)) #[.slice none 0 0] 26 0
  have hz : w.heap.size + 1 < ((w.alloc (.cells #[.slice A2 n2 c2] 36)).alloc (.cells #[.slice none 0 0] 26)).heap.size := by simp
  have HB0 := Lib.hid (Below.then hb1 hb1.size hb2)
  rw [World.size_alloc] at c2' f2
  clear hb1 hb2
  by_cases hm : matOk rows = true
  · have he : errMat rows = 0 := by unfold errMat; rw [if_pos hm]
    rw [he] at HMC
    have HIF : Hid (∀ e w', (Below w.heap.size w w' ∧ ∃ g c, e = .returned (.tuple #[.agg #[.slice (some ⟨g, 0, none⟩) (growN rows (rows.length - 1)).size c], .int .i64 (costOf rows rows.length (growN rows (rows.length - 1)) : Int), .int .i64 0]) ∧ FAt w' g c ((growN rows (rows.length - 1)).form 0)) → RetGrow w rows e w') := by
      refine Lib.hid fun e w' h => ⟨h.1, ?_⟩
      rw [if_pos hm]
      exact h.2
    have hlen : 0 < n2 ∧ n2 ≤ 12 := by
      unfold matOk at hm
      simp at hm
      omega
    have HN := Lib.hid hn
    have HR := Lib.hid hr
    have HSUM : Hid (∀ (W : World) (k g c : Nat) (T : NT), Below w.heap.size w W → FAt W g c (T.form 0) → k ≤ n2 → T.size ≤ 1000 → Calls Try.prog 64 #[.agg #[.slice (some ⟨g, 0, none⟩) T.size c], .agg #[.slice A2 k c2]] W fun e w' => e = .returned (.tuple #[.int .i64 (costOf rows k T : Int), .int .i64 (errBoth (T.form 0) (rows.take k))]) ∧ Below W.heap.size W w') :=
      Lib.hid fun W k g c T hW hf hk hz => (rsum_calls (some ⟨g, 0, none⟩) T.size c (T.form 0) A2 k c2 (rows.take k) W ⟨hf.rd, NT.form_length T 0, by omega, (hr.below hW).take k, by rw [List.length_take]; omega, by omega⟩)
    clear hm he hn hr
    go_enter Try.func43, Try.ntmps43
    go_wp2_with fail
    refine (HMC.out _ HB0.out).mono ?_
    rintro e w1 ⟨rfl, hb⟩
    have c1 := cell_below hb (by omega) c1
    have c2' := cell_below hb hz c2'
    have f2 := frozen_below hb hz f2
    have HB1 := Lib.hid (Below.then HB0.out HB0.out.size hb)
    have hz1 := Nat.lt_of_lt_of_le hz hb.size
    clear hb hz
    have hb3 := below_alloc w1 (.cells #[.int .i64 0, .int .i64 0, .int .i64 0] 64)
    have hb4 := below_alloc (w1.alloc (.cells #[.int .i64 0, .int .i64 0, .int .i64 0] 64)) (.cells #[.slice (some ⟨w1.heap.size, 0, none⟩) 1 1] 26)
    have HF1 : Hid (FAt ((w1.alloc (.cells #[.int .i64 0, .int .i64 0, .int .i64 0] 64)).alloc (.cells #[.slice (some ⟨w1.heap.size, 0, none⟩) 1 1] 26)) w1.heap.size 1 ((NT.leaf 0).form 0)) := (leaf_fat w1 0).below hb4
    have HB2 := Lib.hid (Below.then (Below.then HB1.out HB1.out.size hb3) (by simp; omega) hb4)
    have c1 := cell_below hb4 (by simp; omega) (cell_below hb3 (by omega) c1)
    have c2' := cell_below hb4 (by simp; omega) (cell_below hb3 hz1 c2')
    have f2 := frozen_below hb4 (by simp; omega) (frozen_below hb3 hz1 f2)
    have c5 := new_cell (w1.alloc (.cells #[.int .i64 0, .int .i64 0, .int .i64 0] 64)) #[.slice (some ⟨w1.heap.size, 0, none⟩) 1 1] 26 0
    have f5 := new_frozen (w1.alloc (.cells #[.int .i64 0, .int .i64 0, .int .i64 0] 64)) #[.slice (some ⟨w1.heap.size, 0, none⟩) 1 1] 26 0
    have hz5 : w1.heap.size + 1 < ((w1.alloc (.cells #[.int .i64 0, .int .i64 0, .int .i64 0] 64)).alloc (.cells #[.slice (some ⟨w1.heap.size, 0, none⟩) 1 1] 26)).heap.size := by simp
    rw [World.size_alloc] at c5 f5
    clear hb3 hb4
    have hc1I : (1 : Int) ≤ c2 := by omega
    go_upto_region 4 with (fail)
    generalize (w1.alloc (.cells #[.int .i64 0, .int .i64 0, .int .i64 0] 64)).alloc (.cells #[.slice (some ⟨w1.heap.size, 0, none⟩) 1 1] 26) = W2 at *
    have k1 : ∀ s : Later W2, s.W.cell? ⟨w.heap.size, 0, none⟩ = some (.slice A2 n2 c2) := fun s => cell_below s.below (by omega) c1
    have k5 : ∀ s : Later W2, s.W.cell? ⟨w1.heap.size + 1, 0, none⟩ = some (.slice (some ⟨w1.heap.size, 0, none⟩) 1 1) := fun s => cell_below s.below (by omega) c5
    have HS1 := Lib.hid (fun s : Later W2 => (HSUM.out s.W 1 _ _ _ (Below.then HB2.out HB2.out.size s.below) (HF1.out.below s.below) (by omega) (by decide)).mono (R' := fun e w' => e = .returned (.tuple #[.int .i64 (costOf rows 1 (.leaf 0) : Int), .int .i64 (errBoth ((NT.leaf 0).form 0) (rows.take 1))]) ∧ ∃ s : Later W2, w' = s.W) (fun e w' ⟨he, hb⟩ => ⟨he, ⟨w', Below.then s.below s.below.size hb⟩, rfl⟩))
    refine wp_quiet_below (w := W2) (by kernel_rfl) (by kernel_rfl) ?_
    repeat (go_big_quiet_step (exact HS1.out _))
    refine wpQuiet_nil ?_
    rintro w3 ⟨⟨_, hb6⟩, rfl⟩
    have c1 := cell_below hb6 (by omega) c1
    have c2' := cell_below hb6 (by omega) c2'
    have f2 := frozen_below hb6 (by omega) f2
    have c5 := cell_below hb6 (by omega) c5
    have f5 := frozen_below hb6 (by omega) f5
    have HF1 := Lib.hid (HF1.out.below hb6)
    have HB3 := Lib.hid (Below.then HB2.out HB2.out.size hb6)
    have hz3 : w1.heap.size + 1 < w3.heap.size := by have := hb6.size; omega
    obtain ⟨b5, hb5⟩ : ∃ b5, b5 = w1.heap.size + 1 := ⟨_, rfl⟩
    rw [← hb5] at c5 f5 hz3 ⊢
    have hb5z : w.heap.size + 2 < b5 := by omega
    clear hb6 k1 k5 HS1 hz5 HB2 hb5 HB1 HB0
    go_wp2_with fail
    go_loopg [6, 8] n2 (fun gk v6 v8 wr => ∃ (j g c : Nat), v8 = .int .i64 ((j : Int) + 1) ∧ v6 = .int .i64 (costOf rows (j + 1) (growN rows j) : Int) ∧ wr.cell? ⟨b5, 0, none⟩ = some (.slice (some ⟨g, 0, none⟩) (growN rows j).size c) ∧ wr.frozen? ⟨b5, 0, none⟩ = false ∧ j + 1 ≤ n2 ∧ Hid (gk + (j + 1) = n2 + 1) ∧ Hid (FAt wr g c ((growN rows j).form 0)) ∧ Hid (Below w.heap.size w wr) ∧
      wr.cell? ⟨w.heap.size, 0, none⟩ = some (.slice A2 n2 c2) ∧ wr.cell? ⟨w.heap.size + 1, 0, none⟩ = some (.slice none 0 0) ∧ wr.frozen? ⟨w.heap.size + 1, 0, none⟩ = false ∧ b5 < wr.heap.size)
    case atStart => exact ⟨0, w1.heap.size, 1, rfl, rfl, c5, f5, by omega, rfl, HF1.out, HB3.out, c1, c2', f2, hz3⟩
    case round =>
      obtain ⟨j, g, c, rfl, rfl, m5, n5, hj, HG, HF, HB, m1, m2, m3, hz3⟩ := hrel
      clear c1 c2' f2 HF1 c5 f5
      obtain ⟨w4, rfl⟩ : ∃ w4 : World, w4 = wr := ⟨_, rfl⟩
      obtain ⟨g1, rfl⟩ : ∃ g1 : Nat, g1 = gk := ⟨_, rfl⟩
      by_cases hjn : j + 1 < n2
      · obtain ⟨hon, hnm⟩ := grow_on rows j (by omega)
        have HB' := Lib.hid (grow_best rows j)
        obtain ⟨T, hT⟩ : ∃ T, growN rows j = T := ⟨_, rfl⟩
        rw [hT] at hon hnm HF HB' m5
        have hzT := hon.size
        have hjI : (j : Int) + 1 < n2 := by omega
        rw [hT]
        obtain ⟨sz, hsz⟩ : ∃ sz, sz = T.size := ⟨_, rfl⟩
        rw [← hsz] at hzT m5
        have HSZ := Lib.hid hsz
        have HON := Lib.hid hon
        have HNM := Lib.hid hnm
        have hszI : (sz : Int) ≤ 23 := by omega
        have hszp : 0 < sz := by omega
        have hb7 := below_alloc w4 (.cells #[.slice none 0 0] 26)
        have m9 := new_cell w4 #[.slice none 0 0] 26 0
        have n9 := new_frozen w4 #[.slice none 0 0] 26 0
        have m1 := cell_below hb7 (by omega) m1
        have m2w := m2
        have m3w := m3
        have n5w := n5
        have m2 := cell_below hb7 (by omega) m2
        have m3 := frozen_below hb7 (by omega) m3
        have m5 := cell_below hb7 hz3 m5
        have n5 := frozen_below hb7 hz3 n5
        have hz7 : w4.heap.size < (w4.alloc (.cells #[.slice none 0 0] 26)).heap.size := by simp
        have HB7 := Lib.hid hb7
        clear hT hsz hon hnm hzT hb7
        go_wp2_with fail
        generalize w4.alloc (.cells #[.slice none 0 0] 26) = W7 at *
        go_loopg [10, 11] sz (fun gk v10 v11 wr => ∃ p : Nat, v11 = .int .i64 p ∧ p ≤ sz ∧ Hid (gk + p = sz) ∧ RBestAt wr (costOf rows (j + 2)) (bestOf (costOf rows (j + 2)) ((cands T (j + 1)).take p)) w4.heap.size v10 ∧ wr.frozen? ⟨w4.heap.size, 0, none⟩ = false ∧ Hid (Below w4.heap.size w4 wr) ∧ w4.heap.size < wr.heap.size ∧ wr.cell? ⟨w.heap.size, 0, none⟩ = some (.slice A2 n2 c2) ∧ wr.cell? ⟨b5, 0, none⟩ = some (.slice (some ⟨g, 0, none⟩) sz c))
        case atStart => exact ⟨0, rfl, Nat.zero_le _, rfl, by simp [bestOf, RBestAt, m9], n9, HB7.out, hz7, m1, m5⟩
        case round =>
          obtain ⟨p, rfl, hp, HGP, hbest, n9, HBP, hzr, m1, m5⟩ := hrel
          by_cases hpn : p < sz
          · have hpT : p < T.size := by have := HSZ.out; omega
            have hpI : (p : Int) < (sz : Int) := by omega
            have HNX : Hid ((cands T (j + 1)).take (p + 1) = (cands T (j + 1)).take p ++ [T.hung (p : Int) (j + 1)]) := cands_take T (j + 1) p hpT
            have hXn := hung_norm HNM.out (p : Int) (j + 1)
            have hXon := (HON.out.hang (by omega) hpT).norm
            rw [← hXn] at hXon
            have HHG : Hid (Calls Try.prog 73 #[.agg #[.slice (some ⟨g, 0, none⟩) sz c], .int .i64 (p : Int), .int .i64 ((j : Int) + 1)] wr (RetHang wr (T.hung (p : Int) (j + 1)))) := by
              have := hang_calls (some ⟨g, 0, none⟩) c p (j + 1) T wr HON.out (by omega) hpT ((HF.out.below HBP.out).rd)
              rw [← HSZ.out, ← hXn] at this
              exact this
            obtain ⟨X, hX⟩ : ∃ X, T.hung (p : Int) (j + 1) = X := ⟨_, rfl⟩
            rw [hX] at HHG HNX hXon
            have hXz := hXon.size
            have HSX := Lib.hid (fun (W : World) (g c : Nat) (h : Below w.heap.size w W) (hf : FAt W g c (X.form 0)) => HSUM.out W (j + 1 + 1) g c X h hf (by omega) (by omega))
            have hc2I : (j : Int) + 1 + 1 ≤ c2 := by omega
            clear hpT hXn hXon hX hXz
            have HBST := Lib.hid hbest
            clear hbest m2 m3 n5
            go_wp2_with fail
            (with_reducible refine HHG.out.mono ?_)
            rintro e w8 ⟨gX, cX, rfl, hfX, hb8⟩
            have hb10 := below_alloc w8 (.cells #[.slice (some ⟨gX, 0, none⟩) X.size cX] 26)
            have q12 := new_cell w8 #[.slice (some ⟨gX, 0, none⟩) X.size cX] 26 0
            have hz8 := hb8.size
            have hz10 : w8.heap.size < (w8.alloc (.cells #[.slice (some ⟨gX, 0, none⟩) X.size cX] 26)).heap.size := by simp
            have m1' := m1
            have m1 := cell_below hb10 (by omega) (cell_below hb8 (by omega) m1)
            have HBW := Lib.hid (Below.then hb8 hz8 hb10)
            have HBT := Lib.hid (Below.then HB.out HB.out.size HBP.out)
            have HB10 := Lib.hid (Below.then HBT.out HBT.out.size HBW.out)
            have HFX := Lib.hid (hfX.below hb10)
            clear hfX hb8 hb10 HHG
            go_wp2_with fail
            generalize w8.alloc (.cells #[.slice (some ⟨gX, 0, none⟩) X.size cX] 26) = W10 at *
            have k1 : ∀ s : Later W10, s.W.cell? ⟨w.heap.size, 0, none⟩ = some (.slice A2 n2 c2) := fun s => cell_below s.below (by omega) m1
            have k12 : ∀ s : Later W10, s.W.cell? ⟨w8.heap.size, 0, none⟩ = some (.slice (some ⟨gX, 0, none⟩) X.size cX) := fun s => cell_below s.below (by omega) q12
            have HS1 := Lib.hid (fun s : Later W10 => (HSX.out s.W _ _ (Below.then HB10.out HB10.out.size s.below) (HFX.out.below s.below)).mono (R' := fun e w' => e = .returned (.tuple #[.int .i64 (costOf rows (j + 1 + 1) X : Int), .int .i64 (errBoth (X.form 0) (rows.take (j + 1 + 1)))]) ∧ ∃ s : Later W10, w' = s.W) (fun e w' ⟨he, hb⟩ => ⟨he, ⟨w', Below.then s.below s.below.size hb⟩, rfl⟩))
            refine wp_quiet_below (w := W10) (by kernel_rfl) (by kernel_rfl) ?_
            repeat (go_big_quiet_step (exact HS1.out _))
            refine wpQuiet_nil ?_
            rintro w11 ⟨⟨_, hb11⟩, rfl⟩
            have q12 := cell_below hb11 (by omega) q12
            have HFX := Lib.hid (HFX.out.below hb11)
            have HBW := Lib.hid (Below.then HBW.out HBW.out.size hb11)
            have n9 := frozen_below HBW.out (by omega) n9
            have HB11 := Lib.hid (HBP.out.trans (HBW.out.mono (by omega)))
            have hz11 := hb11.size
            have m1 := cell_below HBW.out (by omega) m1'
            have m5 := cell_below HBW.out (by omega) m5
            clear hb11 k1 k12 HS1 HB10 HSX
            have hbest := HBST.out
            clear HBST
            generalize hacc : bestOf (costOf rows (j + 2)) ((cands T (j + 1)).take p) = acc at *
            have HNB : Hid (bestOf (costOf rows (j + 2)) ((cands T (j + 1)).take (p + 1)) = bestStep (costOf rows (j + 2)) acc X) := by
              show _ = _
              rw [HNX.out, bestOf_snoc, hacc]
            clear hacc
            cases acc with
            | none =>
              obtain ⟨m9, rfl⟩ := hbest
              have m9 := cell_below HBW.out (by omega) m9
              have hset := set_cell_eq m9 (.slice (some ⟨gX, 0, none⟩) X.size cX)
              have s1 : (w11.setCell ⟨w4.heap.size, 0, none⟩ (.slice (some ⟨gX, 0, none⟩) X.size cX)).cell? ⟨w.heap.size, 0, none⟩ = some (.slice A2 n2 c2) := mem_ne (.inl (by show w.heap.size ≠ w4.heap.size; omega)) m1
              have s5 : (w11.setCell ⟨w4.heap.size, 0, none⟩ (.slice (some ⟨gX, 0, none⟩) X.size cX)).cell? ⟨b5, 0, none⟩ = some (.slice (some ⟨g, 0, none⟩) sz c) := mem_ne (.inl (by show b5 ≠ w4.heap.size; omega)) m5
              go_wp2_with fail
              go_roundg (gk - 1)
              case measure => have := HGP.out; omega
              case rel =>
                refine ⟨p + 1, by go_num, by omega, by have := HGP.out; show gk - 1 + (p + 1) = sz; omega, ?_, (frozen_set _ _ _ _).trans n9, below_set HB11.out (Nat.le_refl _) 0 _, by rw [World.size_setCell]; omega, s1, s5⟩
                rw [HNB.out]
                exact ⟨gX, cX, hset, rfl, HFX.out.set m9 _⟩
            | some B =>
              obtain ⟨gB, cB, m9, rfl, hfB⟩ := hbest
              have m9 := cell_below HBW.out (by omega) m9
              have HFB := Lib.hid (hfB.below (HBW.out.mono (Nat.le_refl _)))
              clear hfB
              by_cases hlt : costOf rows (j + 2) X < costOf rows (j + 2) B
              · have HNB2 : Hid (bestOf (costOf rows (j + 2)) ((cands T (j + 1)).take (p + 1)) = some X) := by
                  show _ = _
                  rw [HNB.out, bestStep, if_pos hlt]
                have hltI : (costOf rows (j + 2) X : Int) < (costOf rows (j + 2) B : Int) := by omega
                clear hlt
                have hset := set_cell_eq m9 (.slice (some ⟨gX, 0, none⟩) X.size cX)
                have s1 : (w11.setCell ⟨w4.heap.size, 0, none⟩ (.slice (some ⟨gX, 0, none⟩) X.size cX)).cell? ⟨w.heap.size, 0, none⟩ = some (.slice A2 n2 c2) := mem_ne (.inl (by show w.heap.size ≠ w4.heap.size; omega)) m1
                have s5 : (w11.setCell ⟨w4.heap.size, 0, none⟩ (.slice (some ⟨gX, 0, none⟩) X.size cX)).cell? ⟨b5, 0, none⟩ = some (.slice (some ⟨g, 0, none⟩) sz c) := mem_ne (.inl (by show b5 ≠ w4.heap.size; omega)) m5
                go_wp2_with fail
                go_roundg (gk - 1)
                case measure => have := HGP.out; omega
                case rel =>
                  refine ⟨p + 1, by go_num, by omega, by have := HGP.out; show gk - 1 + (p + 1) = sz; omega, ?_, (frozen_set _ _ _ _).trans n9, below_set HB11.out (Nat.le_refl _) 0 _, by rw [World.size_setCell]; omega, s1, s5⟩
                  rw [HNB2.out]
                  exact ⟨gX, cX, hset, rfl, HFX.out.set m9 _⟩
              · have HNB2 : Hid (bestOf (costOf rows (j + 2)) ((cands T (j + 1)).take (p + 1)) = some B) := by
                  show _ = _
                  rw [HNB.out, bestStep, if_neg hlt]
                have hltI : ¬ (costOf rows (j + 2) X : Int) < (costOf rows (j + 2) B : Int) := by omega
                clear hlt
                go_wp2_with fail
                go_roundg (gk - 1)
                case measure => have := HGP.out; omega
                case rel =>
                  refine ⟨p + 1, by go_num, by omega, by have := HGP.out; show gk - 1 + (p + 1) = sz; omega, ?_, n9, HB11.out, by omega, m1, m5⟩
                  rw [HNB2.out]
                  exact ⟨gB, cB, m9, rfl, HFB.out⟩
          · have hall : (cands T (j + 1)).take p = cands T (j + 1) := List.take_of_length_le (by rw [cands_length]; have := HSZ.out; omega)
            rw [hall, HB'.out] at hbest
            obtain ⟨gB, cB, m9, rfl, hfB⟩ := hbest
            have HBT := Lib.hid (Below.then HB.out HB.out.size HBP.out)
            have HFB := Lib.hid hfB
            have m2' := cell_below HBP.out (by omega) m2w
            have m3' := frozen_below HBP.out (by omega) m3w
            have n5' := frozen_below HBP.out hz3 n5w
            have t5 := set_cell_eq m5 (.slice (some ⟨gB, 0, none⟩) (growN rows (j + 1)).size cB)
            have t1 : (wr.setCell ⟨b5, 0, none⟩ (.slice (some ⟨gB, 0, none⟩) (growN rows (j + 1)).size cB)).cell? ⟨w.heap.size, 0, none⟩ = some (.slice A2 n2 c2) := mem_ne (.inl (by show w.heap.size ≠ b5; omega)) m1
            have t2 : (wr.setCell ⟨b5, 0, none⟩ (.slice (some ⟨gB, 0, none⟩) (growN rows (j + 1)).size cB)).cell? ⟨w.heap.size + 1, 0, none⟩ = some (.slice none 0 0) := mem_ne (.inl (by show w.heap.size + 1 ≠ b5; omega)) m2'
            clear hall hfB
            go_wp2_with fail
            go_roundg (g1 - 1)
            case measure => have := HG.out; omega
            case rel => exact ⟨j + 1, gB, cB, by go_num, rfl, t5, (frozen_set _ _ _ _).trans n5', by omega, by have := HG.out; show g1 - 1 + (j + 1 + 1) = n2 + 1; omega, HFB.out.set m5 _, below_set HBT.out (by omega) _ _, t1, t2, (frozen_set _ _ _ _).trans m3', by rw [World.size_setCell]; omega⟩
      · have hjI : ¬ (j : Int) + 1 < n2 := by omega
        have HJ : Hid (rows.length - 1 = j) := by have := HN.out; show _ = _; omega
        have HJ2 : Hid (rows.length = j + 1) := by have := HN.out; show _ = _; omega
        clear hjn hj
        go_wp2_with fail
        have hcell := set_cell_eq m2 (.slice (some ⟨g, 0, none⟩) (growN rows j).size c)
        refine bodyPost_ret (v := .tuple #[.agg #[.slice (some ⟨g, 0, none⟩) (growN rows j).size c], .int .i64 (costOf rows (j + 1) (growN rows j) : Int), .int .i64 0]) (by simp [results, Try.results43, hcell, go_sem]) rfl ?_
        refine HIF.out _ _ ⟨below_set HB.out (by omega) _ _, g, c, by rw [HJ.out, HJ2.out], ?_⟩
        rw [HJ.out]
        exact HF.out.set m2 _
  · have he : errMat rows = 190 := by unfold errMat; rw [if_neg hm]
    rw [he] at HMC
    have HIF : Hid (∀ w', Below w.heap.size w w' → RetGrow w rows (.returned (.tuple #[.agg #[.slice none 0 0], .int .i64 0, .int .i64 190])) w') := by
      refine Lib.hid fun w' h => ⟨h, ?_⟩
      rw [if_neg hm]
    clear hm he hn hr
    go_enter Try.func43, Try.ntmps43
    go_wp2_with fail
    refine (HMC.out _ HB0.out).mono ?_
    rintro e w1 ⟨rfl, hb⟩
    have c2' := cell_below hb hz c2'
    have f2 := frozen_below hb hz f2
    have HB1 := Lib.hid (Below.then HB0.out HB0.out.size hb)
    clear hb
    go_wp2_with fail
    have hcell := set_cell_eq c2' (.slice none 0 0)
    exact bodyPost_ret (v := .tuple #[.agg #[.slice none 0 0], .int .i64 0, .int .i64 190]) (by simp [results, Try.results43, hcell, go_sem]) rfl (HIF.out _ (below_set HB1.out (by omega) _ _))
end Go.Proofs.Ytbmlkomfelkckaa
