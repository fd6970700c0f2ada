/- siglumref23.Low. -/
import Derived.Test.YtbmlkomfelkckaaLow
namespace Go.Proofs.Ytbmlkomfelkckaa
open Go Go.RowKit
set_option maxRecDepth 100000

theorem hasCol_snoc (rows : List (List Int)) (s : Nat) (x : Int) (r : List Int) : hasCol (rows ++ [r]) s x = (hasCol rows s x || hasRow s x r) := by simp [hasCol]

set_option maxHeartbeats 4000000 in
theorem rlow_calls (A : Option Addr) (n c : Nat) (rows : List (List Int)) (w : World) (hr : RdRows w A rows) (hn : rows.length = n) (hcap : n ≤ 9223372036854775807) :
    Calls Try.prog 41 #[.agg #[.slice A n c]] w fun e w' => e = .returned (.tuple #[.int .i64 (lowNum rows : Int), .int .i64 (errMat rows)]) ∧ Below w.heap.size w w' := by
  have HMC := Lib.hid (fun (W : World) (h : Below w.heap.size w W) => rmcheck_calls A n c rows W (hr.below h) hn hcap)
  have HB0 := Lib.hid (below_alloc w (.cells #[.slice A n c] 36))
  have c0 := new_cell w #[.slice A n c] 36 0
  have hz : w.heap.size < (w.alloc (.cells #[.slice A n c] 36)).heap.size := by simp
  by_cases hm : matOk rows = true
  · obtain ⟨hl, he⟩ := lowNum_ok hm
    rw [he] at HMC
    rw [he, hl]
    have HMO := Lib.hid hm
    have HN := Lib.hid hn
    have hpos : 0 < n ∧ n ≤ 12 := by
      unfold matOk at hm
      simp at hm
      omega
    obtain ⟨r0, hr0, hw0⟩ := wid_at (rows := rows) (by omega)
    have hwd := mat_row hm hr0
    obtain ⟨wd, hwd'⟩ : ∃ wd, wd = wid rows := ⟨_, rfl⟩
    rw [← hwd'] at hw0 hwd
    have HWD := Lib.hid hwd'
    rw [← hwd']
    have HR := Lib.hid hr
    have hwI : (wd : Int) ≤ 4096 := by omega
    have HR0 := Lib.hid hr0
    have HW0 := Lib.hid hw0
    clear hm he hl hr hn hr0 hwd' hw0 hwd
    go_enter Try.func41, Try.ntmps41
    go_wp2_with fail
    refine (HMC.out _ HB0.out).mono ?_
    rintro e w1 ⟨rfl, hb⟩
    have c0 := cell_below hb hz c0
    have HB1 := Lib.hid (Below.then HB0.out HB0.out.size hb)
    obtain ⟨ad, A0, k0, rfl, d0, -, -, -⟩ := (HR.out.below HB1.out) 0 r0 HR0.out
    rw [show ad.add 0 = ad by simp [Addr.add], HW0.out] at d0
    clear hb HMC
    go_wp2_with fail
    go_loopg [4, 5] wd (fun gk v4 v5 wr => ∃ s : Nat, v5 = .int .i64 s ∧ v4 = .int .i64 (lowUp rows s : Int) ∧ s ≤ wd ∧ Hid (gk + s = wd) ∧ wr = w1)
    case atStart => exact ⟨0, rfl, rfl, Nat.zero_le _, rfl, rfl⟩
    case round =>
      obtain ⟨s, rfl, rfl, hs, HG, rfl⟩ := hrel
      obtain ⟨g1, rfl⟩ : ∃ g1 : Nat, g1 = gk := ⟨_, rfl⟩
      have hle := lowUp_le rows s
      by_cases hsw : s < wd
      · have hsI : (s : Int) < wd := by omega
        have HSW : Hid (s < wid rows) := by show _ < _; rw [← HWD.out]; exact hsw
        go_wp2_with fail
        go_loopg [6, 7] 12 (fun gk v6 v7 ww => ∃ x : Nat, v7 = .int .i64 x ∧ v6 = .int .i64 (colUp rows s x : Int) ∧ x ≤ 12 ∧ Hid (gk + x = 12) ∧ ww = wr)
        case atStart => exact ⟨0, rfl, rfl, Nat.zero_le _, rfl, rfl⟩
        case round =>
          obtain ⟨x, rfl, rfl, hx, HGX, rfl⟩ := hrel
          obtain ⟨g2, rfl⟩ : ∃ g2 : Nat, g2 = gk := ⟨_, rfl⟩
          have hcu := colUp_le rows s x
          by_cases hx12 : x < 12
          · have hxI : (x : Int) < 12 := by omega
            go_wp2_with fail
            go_loopg [8, 9] n (fun gk v8 v9 ww => ∃ i : Nat, v9 = .int .i64 i ∧ v8 = .bool (hasCol (rows.take i) s (x : Int)) ∧ i ≤ n ∧ Hid (gk + i = n) ∧ ww = wr)
            case atStart => exact ⟨0, rfl, rfl, Nat.zero_le _, rfl, rfl⟩
            case round =>
              obtain ⟨i, rfl, rfl, hi, HGI, rfl⟩ := hrel
              by_cases hin : i < n
              · obtain ⟨r, hri⟩ : ∃ r, rows[i]? = some r := ⟨_, List.getElem?_eq_getElem (by have := HN.out; omega)⟩
                obtain ⟨y, hy, hyd, -, -⟩ := mat_num HMO.out HSW.out hri
                obtain ⟨hrl, -, -, -⟩ := mat_row HMO.out hri
                obtain ⟨ad', A1, k1, he, d1, hrd, hc1, hc2⟩ := (HR.out.below HB1.out) i r hri
                obtain rfl : ad = ad' := by simpa using he
                obtain ⟨ad1, rfl, e1⟩ := hrd s y hy
                rw [hrl, ← HWD.out] at d1
                have hiI : (i : Int) < n := by omega
                have HST : Hid (hasCol (rows.take (i + 1)) s (x : Int) = (hasCol (rows.take i) s (x : Int) || (y == (x : Int)))) := by
                  show _ = _
                  rw [take_more hri, hasCol_snoc, hasRow, hyd]
                obtain ⟨b, hb⟩ : ∃ b, hasCol (rows.take i) s (x : Int) = b := ⟨_, rfl⟩
                rw [hb] at HST ⊢
                clear hri hy hyd hrd he hb
                cases b with
                | true =>
                  go_wp2_with fail
                  go_roundg (gk - 1)
                  case measure => have := HGI.out; omega
                  case rel => exact ⟨i + 1, by go_num, by rw [HST.out]; rfl, by omega, by have := HGI.out; show gk - 1 + (i + 1) = n; omega, rfl⟩
                | false =>
                  obtain ⟨b2, hb2⟩ : ∃ b2, (y == (x : Int)) = b2 := ⟨_, rfl⟩
                  rw [hb2] at HST
                  go_wp2_with fail
                  go_roundg (gk - 1)
                  case measure => have := HGI.out; omega
                  case rel => exact ⟨i + 1, by go_num, by rw [HST.out]; rfl, by omega, by have := HGI.out; show gk - 1 + (i + 1) = n; omega, rfl⟩
              · have hall : rows.take i = rows := List.take_of_length_le (by have := HN.out; omega)
                rw [hall]
                have HNX : Hid (colUp rows s (x + 1) = colUp rows s x + if hasCol rows s (x : Int) then 1 else 0) := rfl
                obtain ⟨b, hb⟩ : ∃ b, hasCol rows s (x : Int) = b := ⟨_, rfl⟩
                rw [hb] at HNX ⊢
                clear hall hb
                cases b with
                | true =>
                  go_wp2_with fail
                  go_roundg (g2 - 1)
                  case measure => have := HGX.out; omega
                  case rel => exact ⟨x + 1, by go_num, by rw [HNX.out]; exact congrArg (Value.int .i64) (by simp), by omega, by have := HGX.out; show g2 - 1 + (x + 1) = 12; omega, rfl⟩
                | false =>
                  go_wp2_with fail
                  go_roundg (g2 - 1)
                  case measure => have := HGX.out; omega
                  case rel => exact ⟨x + 1, by go_num, by rw [HNX.out]; exact congrArg (Value.int .i64) (by simp), by omega, by have := HGX.out; show g2 - 1 + (x + 1) = 12; omega, rfl⟩
          · obtain rfl : x = 12 := by omega
            have HNX : Hid (lowUp rows (s + 1) = lowUp rows s + (colUp rows s 12 - 1)) := rfl
            obtain ⟨cn, hcn⟩ : ∃ cn, colUp rows s 12 = cn := ⟨_, rfl⟩
            rw [hcn] at hcu HNX ⊢
            clear hcn
            by_cases hc0 : cn = 0
            · subst hc0
              go_wp2_with fail
              go_roundg (g1 - 1)
              case measure => have := HG.out; omega
              case rel => exact ⟨s + 1, by go_num, by rw [HNX.out]; exact congrArg (Value.int .i64) (by omega), by omega, by have := HG.out; show g1 - 1 + (s + 1) = wd; omega, rfl⟩
            · have hc1 : (0 : Int) < cn := by omega
              clear hc0
              go_wp2_with fail
              go_roundg (g1 - 1)
              case measure => have := HG.out; omega
              case rel => exact ⟨s + 1, by go_num, by rw [HNX.out]; exact congrArg (Value.int .i64) (by omega), by omega, by have := HG.out; show g1 - 1 + (s + 1) = wd; omega, rfl⟩
      · have hsI : ¬ (s : Int) < wd := by omega
        have HSS : Hid (s = wd) := Lib.hid (by omega)
        go_wp2_with fail
        go_ret2
        exact ⟨by rw [HSS.out]; rfl, HB1.out⟩
  · obtain ⟨hl, he⟩ := lowNum_bad hm
    rw [he] at HMC
    rw [he, hl]
    clear hm he hl hr hn
    go_enter Try.func41, Try.ntmps41
    go_wp2_with fail
    refine (HMC.out _ HB0.out).mono ?_
    rintro e w1 ⟨rfl, hb⟩
    have HB1 := Lib.hid (Below.then HB0.out HB0.out.size hb)
    clear hb
    go_wp2_with fail
    go_ret2
    exact ⟨rfl, HB1.out⟩
end Go.Proofs.Ytbmlkomfelkckaa
