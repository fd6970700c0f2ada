/- siglumref20.Numbered: the tree that has a number. -/
import Derived.Test.YtbmlkomfelkckaaHung
import Derived.Test.YtbmlkomfelkckaaHang
import Derived.Test.YtbmlkomfelkckaaGrow
import Derived.StillTailTactics
namespace Go.Proofs.Ytbmlkomfelkckaa
open Go Go.RowKit
set_option maxRecDepth 100000

/-- The number behind d divisions. -/
def levD (j i : Nat) : Nat → Nat
  | 0 => i
  | d + 1 => levD j i d / (2 * (j - d) - 1)

/-- The places, the last leaf's first. -/
def plc (j i d : Nat) : Nat := levD j i d % (2 * (j - d) - 1)

theorem lev_lt {j i : Nat} (h : i < countUp j) : ∀ d, d ≤ j → levD j i d < countUp (j - d)
  | 0, _ => h
  | d + 1, hd => by
    have h1 := lev_lt h d (by omega)
    have e : j - d = (j - (d + 1)) + 1 := by omega
    rw [levD]
    rw [e] at h1 ⊢
    rw [countUp] at h1
    refine Nat.div_lt_of_lt_mul ?_
    rw [show 2 * (j - (d + 1) + 1) - 1 = 2 * (j - (d + 1)) + 1 by omega, Nat.mul_comm]
    exact h1

theorem lev_le {j i : Nat} (h : i < countUp j) (hj : j ≤ 11) (d : Nat) (hd : d ≤ j) : levD j i d < 13749310575 :=
  Nat.lt_of_lt_of_le (lev_lt h d hd) (count_top _ (by omega))

/-- The trees on the way. -/
def numUp (j i k : Nat) : NT := numbered k (levD j i (j - k))

theorem numUp_on {j i k : Nat} (h : i < countUp j) (hj : j ≤ 11) (hk : k ≤ j) : (numUp j i k).On (k + 1) ∧ (numUp j i k).Norm := by
  have h1 := lev_lt h (j - k) (by omega)
  rw [show j - (j - k) = k by omega] at h1
  exact trees_on k (by omega) _ (List.mem_of_getElem? (trees_get k _ (by omega) h1))

theorem numUp_succ {j i k : Nat} (hk : k < j) : numUp j i (k + 1) = (numUp j i k).hung ((plc j i (j - (k + 1)) : Nat) : Int) (k + 1) ∧ plc j i (j - (k + 1)) < 2 * k + 1 := by
  have e : j - k = (j - (k + 1)) + 1 := by omega
  unfold numUp plc
  rw [e, levD, show 2 * (j - (j - (k + 1))) - 1 = 2 * k + 1 by omega]
  exact ⟨rfl, Nat.mod_lt _ (by omega)⟩

def plcs (j i d : Nat) : List Value := (List.range d).map fun x => .int .i64 (plc j i x : Int)

theorem plcs_succ (j i d : Nat) : plcs j i (d + 1) = plcs j i d ++ [.int .i64 (plc j i d : Int)] := by simp [plcs, List.range_succ]

theorem info_intN : (Try.prog.info? 3).map (fun i => (i.zero, i.size, i.bytes)) = some (some (.int .i64 0), 1, 8) := by kernel_rfl

set_option maxHeartbeats 2000000 in
theorem numbered_calls (j i : Nat) (w : World) (hj : j ≤ 11) (hi : i < countUp j) :
    Calls Try.prog 38 #[.int .i64 ((j + 1 : Nat) : Int), .int .i64 (i : Int)] w (RetHang w (numbered j i)) := by
  have hb0 := below_alloc w (.cells #[.slice none 0 0] 26)
  have c0 := new_cell w #[.slice none 0 0] 26 0
  have f0 := new_frozen w #[.slice none 0 0] 26 0
  have hz : w.heap.size < (w.alloc (.cells #[.slice none 0 0] 26)).heap.size := by simp
  have HB0 := Lib.hid hb0
  have HI := Lib.hid hi
  have HLV := Lib.hid (fun d (hd : d ≤ j) => lev_le hi hj d hd)
  have HON := Lib.hid (fun k (hk : k ≤ j) => numUp_on hi hj hk)
  have HNS := Lib.hid (fun k (hk : k < j) => numUp_succ (i := i) hk)
  have HPS := Lib.hid (fun d => plcs_succ j i d)
  obtain ⟨l, hl⟩ : ∃ l, l = j + 1 := ⟨_, rfl⟩
  rw [← hl]
  have q0 : (l : Int) - 1 = (j : Int) := by omega
  have HL := Lib.hid hl
  have hjI : (j : Int) ≤ 11 := by omega
  have hlI : (l : Int) ≤ 12 := by omega
  have hiI := HLV.out 0 (by omega)
  have hiI' : (i : Int) < 13749310575 := by have : levD j i 0 = i := rfl; omega
  clear hb0 hi hl hiI
  go_enter Try.func38, Try.ntmps38
  go_wp2_with fail
  generalize w.alloc (.cells #[.slice none 0 0] 26) = W0 at *
  go_loopg [1, 5, 6] j (fun gk v1 v5 v6 wr => ∃ (d x kk : Nat) (v : Value), v1 = .int .i64 (x : Int) ∧ v5 = v ∧ v6 = .int .i64 (kk : Int) ∧ Hid (kk + d = j ∧ x = levD j i d) ∧ kk ≤ 11 ∧ x < 13749310575 ∧ Hid (gk = kk) ∧ Hid (wr.ownsRow W0.heap.size 3 1 v d (plcs j i d)) ∧ Hid (Below W0.heap.size W0 wr))
  case atStart => exact ⟨0, i, j, _, rfl, rfl, rfl, ⟨rfl, rfl⟩, hj, by omega, rfl, World.ownsRow_nil _ _ _ _, Below.refl _ _⟩
  case round =>
    obtain ⟨d, x, kk, v, rfl, rfl, rfl, HK, hkk, hx, HG, HO, HB⟩ := hrel
    by_cases hk1 : 1 ≤ kk
    · obtain ⟨m, hm⟩ : ∃ m, m = 2 * kk - 1 := ⟨_, rfl⟩
      have q1 : 2 * (kk : Int) - 1 = (m : Int) := by omega
      have q2 : (x : Int) % (m : Int) = ((x % m : Nat) : Int) := by omega
      have q3 : (x : Int) / (m : Int) = ((x / m : Nat) : Int) := by omega
      have hmI : 0 < (m : Int) := by omega
      have hm0 : ((m : Int) == 0) = false := by rw [beq_eq_false_iff_ne]; omega
      have hk1I : 1 ≤ (kk : Int) := by omega
      have HP : Hid (x % m = plc j i d ∧ x / m = levD j i (d + 1)) := by
        have h1 := HK.out.1
        have h2 := HK.out.2
        unfold plc
        rw [levD, ← h2, show j - d = kk by omega, ← hm]
        exact ⟨rfl, rfl⟩
      have hxm : x / m < 13749310575 := Nat.lt_of_le_of_lt (Nat.div_le_self _ _) hx
      obtain ⟨r, hr⟩ : ∃ r, x % m = r := ⟨_, rfl⟩
      obtain ⟨y, hy⟩ : ∃ y, x / m = y := ⟨_, rfl⟩
      rw [hr] at q2 HP
      rw [hy] at q3 HP hxm
      have hd : d ≤ 100 := by have := HK.out.1; omega
      have hzr := HB.out.size
      have HM := Lib.hid hm
      clear hm hr hy
      go_wp2_with (at_builtin; refine walk_append1 HO.out hzr (by omega) 43 Try.underlying43 info_intN ⟨rfl, by decide, by decide⟩ #[.int .i64 (r : Int)] ⟨rfl, by simp [Value.oneCell']⟩ (by exact ⟨rfl, rfl, rfl, rfl, rfl⟩) ?_; intro v1 w6 ho6 hu6)
      go_roundg (gk - 1)
      case measure => have := HG.out; omega
      case rel =>
        refine ⟨d + 1, y, kk - 1, v1, rfl, rfl, by go_num, ⟨by have := HK.out.1; omega, HP.out.2⟩, by omega, hxm, by have := HG.out; show gk - 1 = kk - 1; omega, ?_, HB.out.trans (hu6.below hzr (own_base HO.out))⟩
        rw [HPS.out, ← HP.out.1]
        exact ho6
    · obtain rfl : kk = 0 := by omega
      obtain rfl : d = j := by have := HK.out.1; omega
      obtain ⟨A5, c5, rfl, -⟩ := own_slice HO.out
      have HPC : Hid (∀ x, x < d → ∃ gp, A5 = some ⟨gp, 0, none⟩ ∧ gp < wr.heap.size ∧ wr.cell? ⟨gp, x, none⟩ = some (.int .i64 (plc d i x : Int))) := by
        intro x hx
        obtain ⟨gp, h1, h2, -, h3⟩ := own_at HO.out (by omega)
        refine ⟨gp, h1, h2, ?_⟩
        have := h3 x (.int .i64 (plc d i x : Int)) (by simp [plcs, hx])
        rwa [add_plain] at this
      have hb3 := below_alloc wr (.cells #[.int .i64 0, .int .i64 0, .int .i64 0] 64)
      have hb4 := below_alloc (wr.alloc (.cells #[.int .i64 0, .int .i64 0, .int .i64 0] 64)) (.cells #[.slice (some ⟨wr.heap.size, 0, none⟩) 1 1] 26)
      have HF1 : Hid (FAt ((wr.alloc (.cells #[.int .i64 0, .int .i64 0, .int .i64 0] 64)).alloc (.cells #[.slice (some ⟨wr.heap.size, 0, none⟩) 1 1] 26)) wr.heap.size 1 ((NT.leaf 0).form 0)) := (leaf_fat wr 0).below hb4
      have HBR := Lib.hid (Below.then HB0.out HB0.out.size HB.out)
      have HB34 := Lib.hid (Below.then hb3 hb3.size hb4)
      have c5' := new_cell (wr.alloc (.cells #[.int .i64 0, .int .i64 0, .int .i64 0] 64)) #[.slice (some ⟨wr.heap.size, 0, none⟩) 1 1] 26 0
      have f5 := new_frozen (wr.alloc (.cells #[.int .i64 0, .int .i64 0, .int .i64 0] 64)) #[.slice (some ⟨wr.heap.size, 0, none⟩) 1 1] 26 0
      have hz2 : wr.heap.size + 1 < ((wr.alloc (.cells #[.int .i64 0, .int .i64 0, .int .i64 0] 64)).alloc (.cells #[.slice (some ⟨wr.heap.size, 0, none⟩) 1 1] 26)).heap.size := by simp
      rw [World.size_alloc] at c5' f5
      have hzw := HB.out.size
      clear hb3 hb4 HG HO HK hx hk1
      go_wp2_with fail
      generalize (wr.alloc (.cells #[.int .i64 0, .int .i64 0, .int .i64 0] 64)).alloc (.cells #[.slice (some ⟨wr.heap.size, 0, none⟩) 1 1] 26) = W2 at *
      obtain ⟨w1, rfl⟩ : ∃ w1 : World, w1 = wr := ⟨_, rfl⟩
      go_loopg [8] d (fun gk v8 wr => ∃ k g c : Nat, v8 = .int .i64 ((k : Int) + 1) ∧ k ≤ d ∧ Hid (gk + k = d) ∧ wr.cell? ⟨w1.heap.size + 1, 0, none⟩ = some (.slice (some ⟨g, 0, none⟩) (numUp d i k).size c) ∧ wr.frozen? ⟨w1.heap.size + 1, 0, none⟩ = false ∧ Hid (FAt wr g c ((numUp d i k).form 0)) ∧ Hid (Below (w1.heap.size + 1) W2 wr) ∧ w1.heap.size + 1 < wr.heap.size)
      case atStart => exact ⟨0, w1.heap.size, 1, rfl, Nat.zero_le _, rfl, c5', f5, HF1.out, Below.refl _ _, hz2⟩
      case round =>
        obtain ⟨k, g, c, rfl, hk, HG, m5, n5, HF, HBK, hzr⟩ := hrel
        clear c5' f5 HF1
        by_cases hkd : k < d
        · obtain ⟨hon, hnm⟩ := HON.out k hk
          obtain ⟨hsucc, hplt⟩ := HNS.out k hkd
          obtain ⟨gp, rfl, hgp, hpc⟩ := HPC.out (d - (k + 1)) (by omega)
          have hpc := cell_below HBK.out (by omega) (cell_below HB34.out hgp hpc)
          obtain ⟨p, hp⟩ : ∃ p, plc d i (d - (k + 1)) = p := ⟨_, rfl⟩
          rw [hp] at hpc hsucc hplt
          obtain ⟨T, hT⟩ : ∃ T, numUp d i k = T := ⟨_, rfl⟩
          rw [hT] at hon hnm hsucc m5 HF
          have hzT := hon.size
          have HHG : Hid (∀ W, Below wr.heap.size wr W → Calls Try.prog 73 #[.agg #[.slice (some ⟨g, 0, none⟩) T.size c], .int .i64 (p : Int), .int .i64 ((k : Int) + 1)] W (RetHang W (T.hung (p : Int) (k + 1)))) := by
            refine Lib.hid fun W hW => ?_
            have := hang_calls (some ⟨g, 0, none⟩) c p (k + 1) T W hon (by omega) (by omega) ((HF.out.below hW).rd)
            rw [← hung_norm hnm, show ((k + 1 : Nat) : Int) = (k : Int) + 1 by omega] at this
            exact this
          obtain ⟨e, he⟩ : ∃ e, e = d - (k + 1) := ⟨_, rfl⟩
          rw [← he] at hpc
          have HS := Lib.hid hsucc
          have q5 : (d : Int) - ((k : Int) + 1) = (e : Int) := by omega
          have q6 : (e : Int) < d := by omega
          have q7 : (k : Int) + 1 < l := by have := HL.out; omega
          have hkI : (k : Int) ≤ 11 := by omega
          clear hon hnm hsucc hplt hp hT hzT he
          go_wp2_with fail
          have s1 : IntKind.i64.wrap (d : Int) = (d : Int) := IntWalk.i64_in _ (by omega)
          have s2 : IntKind.i64.wrap (e : Int) = (e : Int) := IntWalk.i64_in _ (by omega)
          go_still_tail 9, (by kernel_rfl)
          change wpList _ _ _ _ _ wr.drew
          clear s1 s2
          go_wp2_with fail
          (with_reducible refine (HHG.out _ (Below.refl _ _).drew).mono ?_)
          rintro e8 w8 ⟨gX, cX, rfl, hfX, hb8⟩
          obtain ⟨X, hX⟩ : ∃ X, T.hung (p : Int) (k + 1) = X := ⟨_, rfl⟩
          rw [hX] at HS hfX
          rw [hX]
          have hb8' : Below wr.heap.size wr w8 := Below.then (Below.refl _ _).drew (Nat.le_refl _) hb8
          have m8 := cell_below hb8' hzr m5
          have n8 := frozen_below hb8' hzr n5
          have hz8 := hb8'.size
          have HBX := Lib.hid (HBK.out.trans (hb8'.mono (by omega)))
          have t5 := set_cell_eq m8 (.slice (some ⟨gX, 0, none⟩) X.size cX)
          have tf : (w8.setCell ⟨w1.heap.size + 1, 0, none⟩ (.slice (some ⟨gX, 0, none⟩) X.size cX)).frozen? ⟨w1.heap.size + 1, 0, none⟩ = false := (frozen_set _ _ _ _).trans n8
          have HFX := Lib.hid (hfX.set (j := 0) m8 (.slice (some ⟨gX, 0, none⟩) X.size cX))
          clear hb8 hb8' hX hfX HHG
          go_wp2_with fail
          go_roundg (gk - 1)
          case measure => have := HG.out; omega
          case rel =>
            refine ⟨k + 1, gX, cX, by go_num, by omega, by have := HG.out; show gk - 1 + (k + 1) = d; omega, ?_, tf, ?_, below_set HBX.out (Nat.le_refl _) 0 _, by simp; omega⟩
            · rw [HS.out]
              exact t5
            · show FAt _ _ _ _
              rw [HS.out]
              exact HFX.out
        · obtain rfl : k = d := by omega
          have q7 : ¬ (k : Int) + 1 < l := by have := HL.out; omega
          have HE : Hid (numUp k i k = numbered k i) := by
            show numUp _ _ _ = _
            unfold numUp
            rw [Nat.sub_self]
            rfl
          rw [HE.out] at m5 HF
          have hz0 : w.heap.size < w1.heap.size := by omega
          have c0' := cell_below HBK.out (by omega) (cell_below HB34.out (by omega) (cell_below HB.out hz c0))
          have f0' := frozen_below HBK.out (by omega) (frozen_below HB34.out (by omega) (frozen_below HB.out hz f0))
          have HBF := Lib.hid (HBR.out.trans ((HB34.out.mono (by omega)).trans (HBK.out.mono (by omega))) : Below w.heap.size w wr)
          clear c0 f0 hkd hk
          go_wp2_with fail
          have hcell := set_cell_eq c0' (.slice (some ⟨g, 0, none⟩) (numbered k i).size c)
          refine bodyPost_ret (v := .agg #[.slice (some ⟨g, 0, none⟩) (numbered k i).size c]) (by simp [results, Try.results38, hcell, go_sem]) rfl ⟨g, c, rfl, HF.out.set c0' _, below_set HBF.out (Nat.le_refl _) 0 _⟩
end Go.Proofs.Ytbmlkomfelkckaa
