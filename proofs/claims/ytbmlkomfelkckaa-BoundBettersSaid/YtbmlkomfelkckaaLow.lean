/- bound.Low and siglumref23.Low. -/
import Derived.Test.YtbmlkomfelkckaaLowP
import Derived.Test.YtbmlkomfelkckaaMat
import Derived.Test.YtbmlkomfelkckaaRMat
import Derived.Test.YtbmlkomfelkckaaFitch
namespace Go.Proofs.Ytbmlkomfelkckaa
open Go Go.RowKit
set_option maxRecDepth 100000

theorem mat_row {rows : List (List Int)} (h : matOk rows = true) {i : Nat} {r : List Int} (hi : rows[i]? = some r) : r.length = wid rows ∧ wid rows ≤ 4096 ∧ 0 < rows.length ∧ rows.length ≤ 12 := by
  unfold matOk at h
  simp only [Bool.and_eq_true, decide_eq_true_eq] at h
  have hr := List.all_eq_true.1 h.2.2 _ (List.mem_of_getElem? hi)
  unfold rowOk at hr
  simp only [Bool.and_eq_true, decide_eq_true_eq] at hr
  exact ⟨hr.1, by omega, h.1, h.2.1⟩

theorem lowNum_bad {rows : List (List Int)} (h : ¬ matOk rows = true) : lowNum rows = 0 ∧ errMat rows = 190 := by
  unfold lowNum errMat
  rw [if_neg h, if_neg h]
  exact ⟨rfl, rfl⟩
theorem lowNum_ok {rows : List (List Int)} (h : matOk rows = true) : lowNum rows = lowUp rows (wid rows) ∧ errMat rows = 0 := by
  unfold lowNum errMat
  rw [if_pos h, if_pos h]
  exact ⟨rfl, rfl⟩

set_option maxHeartbeats 4000000 in
theorem low_calls (A : Option Addr) (n c : Nat) (rows : List (List Int)) (w : World) (hr : RdRows w A rows) (hn : rows.length = n) (hcap : n ≤ 9223372036854775807) :
    Calls Try.prog 40 #[.agg #[.slice A n c]] w fun e w' => e = .returned (.tuple #[.int .i64 (lowNum rows : Int), .int .i64 (errMat rows)]) ∧ Below w.heap.size w w' := by
  have HMC := Lib.hid (fun (W : World) (h : Below w.heap.size w W) => mcheck_calls A n c rows W (hr.below h) hn hcap)
  have HB0 := Lib.hid (below_alloc w (.cells #[.slice A n c] 36))
  have c0 := new_cell w #[.slice A n c] 36 0
  have hz : w.heap.size < (w.alloc (.cells #[.slice A n c] 36)).heap.size := by simp
  by_cases hm : matOk rows = true
  · obtain ⟨hl, he⟩ := lowNum_ok hm
    rw [he] at HMC
    rw [he, hl]
    have HMO := Lib.hid hm
    have HN := Lib.hid hn
    have hpos : 0 < n ∧ n ≤ 12 := by
      unfold matOk at hm
      simp at hm
      omega
    obtain ⟨r0, hr0, hw0⟩ := wid_at (rows := rows) (by omega)
    have hwd := mat_row hm hr0
    obtain ⟨wd, hwd'⟩ : ∃ wd, wd = wid rows := ⟨_, rfl⟩
    rw [← hwd'] at hw0 hwd
    have HWD := Lib.hid hwd'
    rw [← hwd']
    have HR := Lib.hid hr
    have hwI : (wd : Int) ≤ 4096 := by omega
    have HR0 := Lib.hid hr0
    have HW0 := Lib.hid hw0
    clear hm he hl hr hn hr0 hwd' hw0 hwd
    go_enter Try.func40, Try.ntmps40
    go_wp2_with fail
    refine (HMC.out _ HB0.out).mono ?_
    rintro e w1 ⟨rfl, hb⟩
    have c0 := cell_below hb hz c0
    have HB1 := Lib.hid (Below.then HB0.out HB0.out.size hb)
    obtain ⟨ad, A0, k0, rfl, d0, -, -, -⟩ := (HR.out.below HB1.out) 0 r0 HR0.out
    rw [show ad.add 0 = ad by simp [Addr.add], HW0.out] at d0
    clear hb HMC
    go_wp2_with fail
    go_loopg [5, 20] wd (fun gk v5 v20 wr => ∃ s : Nat, v20 = .int .i64 s ∧ v5 = .int .i64 (lowUp rows s : Int) ∧ s ≤ wd ∧ Hid (gk + s = wd) ∧ wr = w1)
    case atStart => exact ⟨0, rfl, rfl, Nat.zero_le _, rfl, rfl⟩
    case round =>
      obtain ⟨s, rfl, rfl, hs, HG, rfl⟩ := hrel
      obtain ⟨g1, rfl⟩ : ∃ g1 : Nat, g1 = gk := ⟨_, rfl⟩
      have hle := lowUp_le rows s
      by_cases hsw : s < wd
      · have hsI : (s : Int) < wd := by omega
        have HSW : Hid (s < wid rows) := by show _ < _; rw [← HWD.out]; exact hsw
        go_wp2_with fail
        go_loopg [7, 26] n (fun gk v7 v26 ww => ∃ k : Nat, v26 = .int .i64 k ∧ v7 = .int .u64 (setUp (rows.take k) s : Int) ∧ k ≤ n ∧ Hid (gk + k = n) ∧ ww = wr)
        case atStart => exact ⟨0, rfl, rfl, Nat.zero_le _, rfl, rfl⟩
        case round =>
          obtain ⟨k, rfl, rfl, hk, HGK, rfl⟩ := hrel
          by_cases hkn : k < n
          · obtain ⟨r, hrk⟩ : ∃ r, rows[k]? = some r := ⟨_, List.getElem?_eq_getElem (by have := HN.out; omega)⟩
            obtain ⟨x, hx, hxd, hx0, hx1⟩ := mat_num HMO.out HSW.out hrk
            obtain ⟨hrl, -, -, -⟩ := mat_row HMO.out hrk
            obtain ⟨ad', A1, k1, he, d1, hri, hc1, hc2⟩ := (HR.out.below HB1.out) k r hrk
            obtain rfl : ad = ad' := by simpa using he
            obtain ⟨ad1, rfl, e1⟩ := hri s x hx
            rw [hrl, ← HWD.out] at d1
            have hkI : (k : Int) < n := by omega
            have hlt : setUp (rows.take k) s < 4096 := setUp_lt s _ 0 (by decide) (fun q hq => mat_lt HMO.out HSW.out q (List.mem_of_mem_take hq))
            have HST : Hid (setUp (rows.take (k + 1)) s = setStep s (setUp (rows.take k) s) r) := by
              show _ = _
              rw [take_more hrk, setUp_snoc]
            obtain ⟨st, hst⟩ : ∃ st, setUp (rows.take k) s = st := ⟨_, rfl⟩
            rw [hst] at hlt HST ⊢
            by_cases hx2 : 0 ≤ x
            · have hpw : IntKind.u64.wrap (2 ^ x.toNat) = ((2 ^ x.toNat : Nat) : Int) := wrap_pow12 ⟨x.toNat, by omega⟩
              have hp2 : 2 ^ x.toNat < 4096 := Nat.pow_lt_pow_right (n := 12) (by decide) (by omega)
              have HN2 : Hid (setStep s st r = st ||| 2 ^ x.toNat) := by
                show setStep s st r = _
                unfold setStep
                rw [hxd, if_pos hx2]
              obtain ⟨q, hq⟩ : ∃ q, 2 ^ x.toNat = q := ⟨_, rfl⟩
              rw [hq] at hp2 HN2
              have hpw2 : IntKind.u64.wrap (2 ^ x.toNat) = (q : Int) := by rw [hpw, hq]
              have heor := bits_or_nat st q hlt hp2
              clear hrk hx hxd hri he hst hpw hq hp2 hlt
              go_wp2_with fail
              go_roundg (gk - 1)
              case measure => have := HGK.out; omega
              case rel => exact ⟨k + 1, by go_num, by rw [HST.out, HN2.out], by omega, by have := HGK.out; show gk - 1 + (k + 1) = n; omega, rfl⟩
            · have HN2 : Hid (setStep s st r = st) := by
                show setStep s st r = _
                unfold setStep
                rw [hxd, if_neg hx2]
              clear hrk hx hxd hri he hst hlt
              go_wp2_with fail
              go_roundg (gk - 1)
              case measure => have := HGK.out; omega
              case rel => exact ⟨k + 1, by go_num, by rw [HST.out, HN2.out], by omega, by have := HGK.out; show gk - 1 + (k + 1) = n; omega, rfl⟩
          · have hall : rows.take k = rows := List.take_of_length_le (by have := HN.out; omega)
            rw [hall]
            have hON := Lib.hid (fun W => ones_calls (setUp rows s) W (setUp_lt s _ 0 (by decide) (mat_lt HMO.out HSW.out)))
            rw [pop_set (mat_lt HMO.out HSW.out)] at hON
            have hcn : colN rows s ≤ 12 := colUp_le rows s 12
            have HNX : Hid (lowUp rows (s + 1) = lowUp rows s + (colN rows s - 1)) := rfl
            generalize setUp rows s = st at *
            obtain ⟨cn, hcn'⟩ : ∃ cn, colN rows s = cn := ⟨_, rfl⟩
            rw [hcn'] at hcn hON HNX
            clear hall hcn'
            by_cases hc0 : cn = 0
            · subst hc0
              go_wp2_with fail
              (with_reducible refine (hON.out _).mono ?_)
              rintro e w9 ⟨rfl, rfl⟩
              go_wp2_with fail
              go_roundg (g1 - 1)
              case measure => have := HG.out; omega
              case rel => exact ⟨s + 1, by go_num, by rw [HNX.out]; go_num, by omega, by have := HG.out; show g1 - 1 + (s + 1) = wd; omega, rfl⟩
            · have hc1 : (1 : Int) ≤ cn := by omega
              clear hc0
              go_wp2_with fail
              (with_reducible refine (hON.out _).mono ?_)
              rintro e w9 ⟨rfl, rfl⟩
              go_wp2_with fail
              all_goals
                go_roundg (g1 - 1)
                case measure => have := HG.out; omega
                case rel => exact ⟨s + 1, by go_num, by rw [HNX.out]; exact congrArg (Value.int .i64) (by omega), by omega, by have := HG.out; show g1 - 1 + (s + 1) = wd; omega, rfl⟩
      · have hsI : ¬ (s : Int) < wd := by omega
        have HSS : Hid (s = wd) := Lib.hid (by omega)
        go_wp2_with fail
        go_ret2
        exact ⟨by rw [HSS.out]; rfl, HB1.out⟩
  · obtain ⟨hl, he⟩ := lowNum_bad hm
    rw [he] at HMC
    rw [he, hl]
    clear hm he hl hr hn
    go_enter Try.func40, Try.ntmps40
    go_wp2_with fail
    refine (HMC.out _ HB0.out).mono ?_
    rintro e w1 ⟨rfl, hb⟩
    have HB1 := Lib.hid (Below.then HB0.out HB0.out.size hb)
    clear hb
    go_wp2_with fail
    go_ret2
    exact ⟨rfl, HB1.out⟩
end Go.Proofs.Ytbmlkomfelkckaa
