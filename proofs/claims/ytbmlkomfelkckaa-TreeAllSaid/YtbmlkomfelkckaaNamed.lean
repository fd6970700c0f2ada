/- tree.named: the names that are right. -/
import Derived.Test.YtbmlkomfelkckaaNames
import Derived.WalkSpells
namespace Go.Proofs.Ytbmlkomfelkckaa
open Go Go.RowKit
set_option maxRecDepth 100000

theorem toList_size {s : ByteArray} (h : 1 ≤ s.size) : (s.toList == []) = false := by
  rw [ByteArray.toList_eq]
  have := data_size s
  cases hl : s.data.toList with
  | nil => rw [hl] at this; simp at this; omega
  | cons x xs => rfl

set_option maxHeartbeats 2000000 in
theorem named_calls (A : Option Addr) (n c : Nat) (ns : List ByteArray) (W : World) (hr : RdStr W A ns) (hs : ∀ s ∈ ns, s.size ≤ 9223372036854775807) (hn : ns.length = n) (hcap : n ≤ 9223372036854775807) (hnc : n ≤ c) :
    Calls Try.prog 54 #[.slice A n c] W fun e w' => e = .returned (.bool (namesOk ns)) ∧ w' = W := by
  have HN := Lib.hid hn
  have HR := Lib.hid hr
  have HS := Lib.hid hs
  by_cases h1 : n < 1
  · rw [namesOk_few (by omega)]
    have b0 : ((n : Int) == 0) = true := by rw [beq_iff_eq]; omega
    clear hr hs hn h1
    go_enter Try.func54, Try.ntmps54
    go_wp2_with fail
    go_ret
    exact ⟨rfl, rfl⟩
  · have b0 : ((n : Int) == 0) = false := by rw [beq_eq_false_iff_ne]; omega
    by_cases h2 : 12 < n
    · rw [namesOk_few (by omega)]
      clear hr hs hn
      go_enter Try.func54, Try.ntmps54
      go_wp2_with fail
      go_ret
      exact ⟨rfl, rfl⟩
    · clear hr hs hn
      go_enter Try.func54, Try.ntmps54
      go_wp2_with fail
      go_loopg [16] n (fun gk v16 wr => ∃ k : Nat, v16 = .int .i64 k ∧ k ≤ n ∧ Hid (gk + k = n) ∧ wr = W ∧ Hid (∀ j, j < k → nameGood ns j = true))
      case atStart => exact ⟨0, rfl, Nat.zero_le _, rfl, rfl, fun j hj => by omega⟩
      case round =>
        obtain ⟨k, rfl, hk, HG, rfl, HB⟩ := hrel
        by_cases hkn : k < n
        · have hkx : k < ns.length := by have := HN.out; omega
          obtain ⟨ad, rfl, d0⟩ := HR.out k ns[k] (by simp [hkx])
          generalize hx : ns[k] = x at *
          have HXK : Hid (ns[k]? = some x) := by show ns[k]? = some x; rw [List.getElem?_eq_getElem hkx, hx]
          have hxs := HS.out x (List.mem_of_getElem? HXK.out)
          clear hx
          by_cases hx0 : x.size < 1
          · have HF : Hid (namesOk ns = false) := namesOk_bad hkx (by rw [good_of HXK.out (nameOk_size (by omega)) rfl]; rfl)
            have t1 : x.toList = [] := by rw [ByteArray.toList_eq]; have := data_size x; exact List.eq_nil_of_length_eq_zero (by omega)
            go_wp2_with fail
            go_ret
            exact ⟨by rw [HF.out]; rfl, rfl⟩
          · have t1 := toList_size (s := x) (by omega)
            have t2 : x.toList.isEmpty = false := by
              rw [ByteArray.toList_eq]
              have := data_size x
              cases hl : x.data.toList with
              | nil => rw [hl] at this; simp at this; omega
              | cons y ys => rfl
            by_cases hx8 : 8 < x.size
            · have HF : Hid (namesOk ns = false) := namesOk_bad hkx (by rw [good_of HXK.out (nameOk_size (by omega)) rfl]; rfl)
              go_wp2_with fail
              go_ret
              exact ⟨by rw [HF.out]; rfl, rfl⟩
            · have hkI : (k : Int) ≤ (c : Int) := by omega
              have HC := Lib.hid (contains_calls (some ad) k c (ns.take k) x wr (HR.out.take k) (by rw [List.length_take]; omega) (by omega))
              cases hcon : (idx (ns.take k) x.toList).isSome
              · rw [hcon] at HC
                have HCON := Lib.hid hcon
                clear hcon
                go_wp2_with fail
                refine HC.out.mono ?_
                rintro e w' ⟨rfl, rfl⟩
                go_wp2_with fail
                obtain ⟨wo, rfl⟩ : ∃ wo : World, wo = w' := ⟨_, rfl⟩
                obtain ⟨g1, rfl⟩ : ∃ g1 : Nat, g1 = gk := ⟨_, rfl⟩
                go_loopg [37] x.size (fun gk v37 wr => ∃ i : Nat, v37 = .int .i64 i ∧ i ≤ x.size ∧ Hid (gk + i = x.size) ∧ wr = wo ∧ Hid (∀ j, (hj : j < x.size) → j < i → wordI ((x[j]).toNat : Int) = true))
                case atStart => exact ⟨0, rfl, Nat.zero_le _, rfl, rfl, fun j _ hj => by omega⟩
                case round =>
                  obtain ⟨i, rfl, hi, HJ, rfl, HB2⟩ := hrel
                  by_cases hin : i < x.size
                  · have HWC := Lib.hid (word_calls ((x[i]).toNat : Int) wr)
                    cases hw : wordI ((x[i]).toNat : Int)
                    · rw [hw] at HWC
                      have HF : Hid (namesOk ns = false) := namesOk_bad hkx (by rw [good_of HXK.out (nameOk_byte hin hw) rfl]; rfl)
                      clear hw
                      go_wp2_with fail
                      refine HWC.out.mono ?_
                      rintro e w' ⟨rfl, rfl⟩
                      go_wp2_with fail
                      go_ret
                      exact ⟨by rw [HF.out]; rfl, rfl⟩
                    · rw [hw] at HWC
                      have HW := Lib.hid hw
                      clear hw
                      go_wp2_with fail
                      refine HWC.out.mono ?_
                      rintro e w' ⟨rfl, rfl⟩
                      go_wp2_with fail
                      go_roundg (gk - 1)
                      case measure => have := HJ.out; omega
                      case rel => exact ⟨i + 1, by go_num, by omega, by have := HJ.out; show gk - 1 + (i + 1) = x.size; omega, rfl, fun j hj hj2 => by
                        rcases Nat.lt_or_ge j i with h | h
                        · exact HB2.out j hj h
                        · obtain rfl : j = i := by omega
                          exact HW.out⟩
                  · have HGD : Hid (nameGood ns k = true) := by
                      show nameGood ns k = true
                      rw [good_of HXK.out (nameOk_all (by omega) (by omega) (fun j hj => HB2.out j hj (by omega))) HCON.out]
                      rfl
                    go_wp2_with fail
                    go_roundg (g1 - 1)
                    case measure => have := HG.out; omega
                    case rel => exact ⟨k + 1, by go_num, by omega, by have := HG.out; show g1 - 1 + (k + 1) = n; omega, rfl, fun j hj => by
                      rcases Nat.lt_or_ge j k with h | h
                      · exact HB.out j h
                      · obtain rfl : j = k := by omega
                        exact HGD.out⟩
              · rw [hcon] at HC
                have HF : Hid (namesOk ns = false) := namesOk_bad hkx (by rw [good_of HXK.out rfl hcon, Bool.not_true, Bool.and_false])
                clear hcon
                go_wp2_with fail
                refine HC.out.mono ?_
                rintro e w' ⟨rfl, rfl⟩
                go_wp2_with fail
                go_ret
                exact ⟨by rw [HF.out]; rfl, rfl⟩
        · have HF : Hid (namesOk ns = true) := namesOk_all (by have := HN.out; omega) (by have := HN.out; omega) (fun j hj => HB.out j (by have := HN.out; omega))
          go_wp2_with fail
          go_ret
          exact ⟨by rw [HF.out]; rfl, rfl⟩
end Go.Proofs.Ytbmlkomfelkckaa
