/- tree.named, siglumref12.Name, siglumref17.Names: the same names are right. -/
import Derived.Test.YtbmlkomfelkckaaStr
namespace Go.Proofs.Ytbmlkomfelkckaa
open Go Go.RowKit
set_option maxRecDepth 100000

def nameOk (s : ByteArray) : Bool := decide (1 ≤ s.size ∧ s.size ≤ 8) && s.data.toList.all fun c => wordI (c.toNat : Int)
def nameGood (ns : List ByteArray) (i : Nat) : Bool := nameOk (nameAt ns i) && !(idx (ns.take i) (nameAt ns i).toList).isSome
def namesOk (ns : List ByteArray) : Bool := decide (1 ≤ ns.length ∧ ns.length ≤ 12) && (List.range ns.length).all (nameGood ns)

theorem namesOk_few {ns : List ByteArray} (h : ¬ (1 ≤ ns.length ∧ ns.length ≤ 12)) : namesOk ns = false := by
  unfold namesOk
  rw [decide_eq_false h]
  rfl

theorem namesOk_bad {ns : List ByteArray} {i : Nat} (hi : i < ns.length) (h : nameGood ns i = false) : namesOk ns = false := by
  unfold namesOk
  have : (List.range ns.length).all (nameGood ns) = false := by
    rw [List.all_eq_false]
    exact ⟨i, List.mem_range.2 hi, by simp [h]⟩
  rw [this, Bool.and_false]

theorem namesOk_all {ns : List ByteArray} (h1 : 1 ≤ ns.length) (h2 : ns.length ≤ 12) (h : ∀ i, i < ns.length → nameGood ns i = true) : namesOk ns = true := by
  unfold namesOk
  rw [decide_eq_true ⟨h1, h2⟩, Bool.true_and, List.all_eq_true]
  exact fun i hi => h i (List.mem_range.1 hi)

theorem namesOk_true {ns : List ByteArray} (h : namesOk ns = true) : 1 ≤ ns.length ∧ ns.length ≤ 12 ∧ ∀ i, i < ns.length → nameGood ns i = true := by
  unfold namesOk at h
  simp only [Bool.and_eq_true, decide_eq_true_eq, List.all_eq_true, List.mem_range] at h
  exact ⟨h.1.1, h.1.2, h.2⟩

theorem data_size (s : ByteArray) : s.data.toList.length = s.size := by cases s; rfl

theorem nameOk_byte {s : ByteArray} {k : Nat} (hk : k < s.size) (h : wordI ((s[k]).toNat : Int) = false) : nameOk s = false := by
  unfold nameOk
  have : (s.data.toList.all fun c => wordI (c.toNat : Int)) = false := by
    rw [List.all_eq_false]
    refine ⟨s[k], ?_, by simp [h]⟩
    have h1 : k < s.data.toList.length := by rw [data_size]; exact hk
    have : s[k] = s.data.toList[k] := by simp [ByteArray.getElem_eq_getElem_data]
    rw [this]
    exact List.getElem_mem h1
  rw [this, Bool.and_false]

theorem nameOk_all {s : ByteArray} (h1 : 1 ≤ s.size) (h2 : s.size ≤ 8) (h : ∀ k, (hk : k < s.size) → wordI ((s[k]).toNat : Int) = true) : nameOk s = true := by
  unfold nameOk
  rw [decide_eq_true ⟨h1, h2⟩, Bool.true_and, List.all_eq_true]
  intro c hc
  obtain ⟨i, hi, rfl⟩ := List.mem_iff_getElem.1 hc
  have h3 : i < s.size := by rw [← data_size]; exact hi
  have : s[i] = s.data.toList[i] := by simp [ByteArray.getElem_eq_getElem_data]
  rw [← this]
  exact h i h3

theorem nameOk_size {s : ByteArray} (h : ¬ (1 ≤ s.size ∧ s.size ≤ 8)) : nameOk s = false := by
  unfold nameOk
  rw [decide_eq_false h]
  rfl

theorem nameOk_true {s : ByteArray} (h : nameOk s = true) : 1 ≤ s.size ∧ s.size ≤ 8 ∧ ∀ c ∈ s.data.toList, wordI (c.toNat : Int) = true := by
  unfold nameOk at h
  simp only [Bool.and_eq_true, decide_eq_true_eq, List.all_eq_true] at h
  exact ⟨h.1.1, h.1.2, h.2⟩

theorem nameAt_eq {ns : List ByteArray} {i : Nat} {s : ByteArray} (h : ns[i]? = some s) : nameAt ns i = s := by
  unfold nameAt
  rw [List.getD_eq_getElem?_getD, h]
  rfl

theorem good_of {ns : List ByteArray} {i : Nat} {s : ByteArray} (h : ns[i]? = some s) {a b : Bool} (ha : nameOk s = a) (hb : (idx (ns.take i) s.toList).isSome = b) : nameGood ns i = (a && !b) := by
  unfold nameGood
  rw [nameAt_eq h, ha, hb]

set_option maxHeartbeats 1000000 in
theorem name_calls (s : ByteArray) (W : World) (hs : s.size ≤ 9223372036854775807) : Calls Try.prog 95 #[.string s] W fun e w' => e = .returned (.bool (nameOk s)) ∧ w' = W := by
  by_cases h1 : s.size < 1
  · rw [nameOk_size (by omega)]
    go_enter Try.func95, Try.ntmps95
    go_wp2_with fail
    go_ret
    exact ⟨rfl, rfl⟩
  · by_cases h2 : 8 < s.size
    · rw [nameOk_size (by omega)]
      go_enter Try.func95, Try.ntmps95
      go_wp2_with fail
      go_ret
      exact ⟨rfl, rfl⟩
    · go_enter Try.func95, Try.ntmps95
      go_wp2_with fail
      go_loopg [3] s.size (fun gk v3 wr => ∃ k : Nat, v3 = .int .i64 k ∧ k ≤ s.size ∧ Hid (gk + k = s.size) ∧ wr = W ∧ Hid (∀ j, (hj : j < s.size) → j < k → wordI ((s[j]).toNat : Int) = true))
      case atStart => exact ⟨0, rfl, Nat.zero_le _, rfl, rfl, fun j _ hj => by omega⟩
      case round =>
        obtain ⟨k, rfl, hk, HG, rfl, HB⟩ := hrel
        by_cases hkn : k < s.size
        · have hbig : (s[k]).toNat < 256 := UInt8.toNat_lt _
          obtain ⟨c, hc⟩ : ∃ c : UInt8, s[k] = c := ⟨_, rfl⟩
          rw [hc] at hbig
          have HC := Lib.hid hc
          rcases word_cases (c.toNat : Int) with ⟨h, q1⟩ | ⟨h, q1, q2⟩ | ⟨h, q1, q2⟩ | ⟨h, q1, q2⟩ | ⟨h, q1, q2⟩ | ⟨h, q1, q2⟩ | ⟨h, q1⟩
          all_goals
            have HW := Lib.hid h
            clear h
            go_wp2_with fail
          all_goals
            first
              | (exfalso; simp only [Bool.not_eq_false', Bool.not_eq_true', decide_eq_true_eq, decide_eq_false_iff_not] at *; omega)
              | (have HT : Hid (wordI (c.toNat : Int) = true) := HW.out
                 go_roundg (gk - 1)
                 case measure => have := HG.out; omega
                 case rel => exact ⟨k + 1, by go_num, by omega, by have := HG.out; show gk - 1 + (k + 1) = s.size; omega, rfl, fun j hj hj2 => by
                   rcases Nat.lt_or_ge j k with h | h
                   · exact HB.out j hj h
                   · obtain rfl : j = k := by omega
                     rw [HC.out]
                     exact HT.out⟩)
              | (have HF : Hid (nameOk s = false) := nameOk_byte hkn (by rw [HC.out]; exact HW.out)
                 go_ret
                 exact ⟨by rw [HF.out]; rfl, rfl⟩)
        · have HF : Hid (nameOk s = true) := nameOk_all (by omega) (by omega) (fun j hj => HB.out j hj (by omega))
          go_wp2_with fail
          go_ret
          exact ⟨by rw [HF.out]; rfl, rfl⟩

/-- The inner loop's finding. -/
theorem idx_take_none {ns : List ByteArray} {i : Nat} {s : ByteArray} (h : ∀ j y, j < i → ns[j]? = some y → (s.toList == y.toList) = false) : (idx (ns.take i) s.toList).isSome = false := by
  have : idx (ns.take i) s.toList = none := by
    refine idxFrom_none (fun x hx => ?_)
    obtain ⟨j, hj, rfl⟩ := List.mem_iff_getElem.1 hx
    have h1 := List.getElem?_eq_getElem hj
    rw [List.getElem?_take] at h1
    split at h1
    · exact h j _ (by assumption) h1
    · cases h1
  rw [this]
  rfl

theorem idxFrom_mem {l : List UInt8} : ∀ {k : Nat} {ns : List ByteArray} {x : ByteArray}, x ∈ ns → (l == x.toList) = true → (idxFrom l k ns).isSome = true
  | _, [], _, h, _ => by simp at h
  | k, y :: ys, x, h, he => by
    rw [idxFrom]
    split
    · rfl
    · rename_i hy
      rcases List.mem_cons.1 h with rfl | h
      · exact absurd he hy
      · exact idxFrom_mem h he

theorem idx_take_some {ns : List ByteArray} {i j : Nat} {s y : ByteArray} (hj : j < i) (hy : ns[j]? = some y) (he : (s.toList == y.toList) = true) : (idx (ns.take i) s.toList).isSome = true := by
  refine idxFrom_mem (x := y) ?_ he
  exact List.mem_of_getElem? (i := j) (by rw [List.getElem?_take, if_pos hj]; exact hy)

theorem beq_turn (a b : List UInt8) : (a == b) = (b == a) := by
  rw [Bool.eq_iff_iff, beq_iff_eq, beq_iff_eq]
  exact ⟨Eq.symm, Eq.symm⟩

set_option maxHeartbeats 2000000 in
theorem names_calls (A : Option Addr) (n c : Nat) (ns : List ByteArray) (W : World) (hr : RdStr W A ns) (hs : ∀ s ∈ ns, s.size ≤ 9223372036854775807) (hn : ns.length = n) (hcap : n ≤ 9223372036854775807) :
    Calls Try.prog 59 #[.slice A n c] W fun e w' => e = .returned (.bool (namesOk ns)) ∧ ∃ q, w' = W.drewN q := by
  have HN := Lib.hid hn
  have HR := Lib.hid hr
  have HS := Lib.hid hs
  by_cases h1 : n < 1
  · rw [namesOk_few (by omega)]
    clear hr hs hn
    go_enter Try.func59, Try.ntmps59
    go_wp2_with fail
    go_ret
    exact ⟨rfl, 0, rfl⟩
  · by_cases h2 : 12 < n
    · rw [namesOk_few (by omega)]
      clear hr hs hn
      go_enter Try.func59, Try.ntmps59
      go_wp2_with fail
      go_ret
      exact ⟨rfl, 0, rfl⟩
    · clear hr hs hn
      go_enter Try.func59, Try.ntmps59
      go_wp2_with fail
      go_loopg [3] n (fun gk v3 wr => ∃ k : Nat, v3 = .int .i64 k ∧ k ≤ n ∧ Hid (gk + k = n) ∧ Hid (∃ q, wr = W.drewN q) ∧ Hid (∀ j, j < k → nameGood ns j = true))
      case atStart => exact ⟨0, rfl, Nat.zero_le _, rfl, ⟨0, rfl⟩, fun j hj => by omega⟩
      case round =>
        obtain ⟨k, rfl, hk, HG, HQ, HB⟩ := hrel
        have HRW : Hid (RdStr wr A ns) := by
          obtain ⟨q, hq⟩ := HQ.out
          show RdStr wr A ns
          rw [hq]
          exact HR.out
        by_cases hkn : k < n
        · have hkx : k < ns.length := by have := HN.out; omega
          obtain ⟨ad, rfl, d0⟩ := HRW.out k ns[k] (by simp [hkx])
          generalize hx : ns[k] = x at *
          have HXK : Hid (ns[k]? = some x) := by show ns[k]? = some x; rw [List.getElem?_eq_getElem hkx, hx]
          have hxs := HS.out x (List.mem_of_getElem? HXK.out)
          have hkI : (k : Int) < (n : Int) := by omega
          clear hx
          cases hnk : nameOk x
          · have HF : Hid (namesOk ns = false) := namesOk_bad hkx (by rw [good_of HXK.out hnk rfl]; rfl)
            have HC := Lib.hid (name_calls x wr hxs)
            rw [hnk] at HC
            clear hnk
            go_wp2_with fail
            refine HC.out.mono ?_
            rintro e w' ⟨rfl, rfl⟩
            go_wp2_with fail
            go_ret
            exact ⟨by rw [HF.out]; rfl, HQ.out⟩
          · have HC := Lib.hid (name_calls x wr hxs)
            rw [hnk] at HC
            have HNK := Lib.hid hnk
            clear hnk
            go_wp2_with fail
            refine HC.out.mono ?_
            rintro e w' ⟨rfl, rfl⟩
            go_wp2_with fail
            obtain ⟨wo, rfl⟩ : ∃ wo : World, wo = w' := ⟨_, rfl⟩
            obtain ⟨g1, rfl⟩ : ∃ g1 : Nat, g1 = gk := ⟨_, rfl⟩
            go_loopg [4] k (fun gk v4 wr => ∃ i : Nat, v4 = .int .i64 i ∧ i ≤ k ∧ Hid (gk + i = k) ∧ Hid (∃ q, wr = W.drewN q) ∧ Hid (∀ j y, j < i → ns[j]? = some y → (x.toList == y.toList) = false))
            case atStart => exact ⟨0, rfl, Nat.zero_le _, rfl, HQ.out, fun j y hj => by omega⟩
            case round =>
              obtain ⟨i, rfl, hi, HJ, HQ2, HB2⟩ := hrel
              have HRW2 : Hid (RdStr wr (some ad) ns) := by
                obtain ⟨q, hq⟩ := HQ2.out
                show RdStr wr (some ad) ns
                rw [hq]
                exact HR.out
              obtain ⟨ad', he', e0⟩ := HRW2.out k x HXK.out
              obtain rfl := Option.some.inj he'
              by_cases hik : i < k
              · have hix : i < ns.length := by omega
                obtain ⟨ad', he'', e1⟩ := HRW2.out i ns[i] (by simp [hix])
                obtain rfl := Option.some.inj he''
                generalize hy : ns[i] = y at *
                have HYK : Hid (ns[i]? = some y) := by show ns[i]? = some y; rw [List.getElem?_eq_getElem hix, hy]
                have hiI : (i : Int) < (n : Int) := by omega
                clear hy he' he''
                cases he : (y.toList == x.toList)
                · have HE : Hid ((x.toList == y.toList) = false) := (beq_turn _ _).trans he
                  go_wp2_with fail
                  go_quiet (fail)
                  go_wp2_with fail
                  go_roundg (gk - 1)
                  case measure => have := HJ.out; omega
                  case rel => exact ⟨i + 1, by go_num, by omega, by have := HJ.out; show gk - 1 + (i + 1) = k; omega, (by obtain ⟨q, hq⟩ := HQ2.out; exact ⟨_, by rw [hq, World.drewN_drewN]⟩), fun j z hj hz => by
                    rcases Nat.lt_or_ge j i with h | h
                    · exact HB2.out j z h hz
                    · obtain rfl : j = i := by omega
                      have h2 := HYK.out
                      rw [h2] at hz
                      cases hz
                      exact HE.out⟩
                · have HF : Hid (namesOk ns = false) := namesOk_bad hkx (by rw [good_of HXK.out HNK.out (idx_take_some hik HYK.out ((beq_turn _ _).trans he))]; rfl)
                  go_wp2_with fail
                  go_quiet (fail)
                  go_wp2_with fail
                  go_ret
                  exact ⟨by rw [HF.out]; rfl, by obtain ⟨q, hq⟩ := HQ2.out; exact ⟨_, by rw [hq, World.drewN_drewN]⟩⟩
              · have HGD : Hid (nameGood ns k = true) := by
                  show nameGood ns k = true
                  rw [good_of HXK.out HNK.out (idx_take_none (fun j y hj hy => HB2.out j y (by omega) hy))]
                  rfl
                go_wp2_with fail
                go_roundg (g1 - 1)
                case measure => have := HG.out; omega
                case rel => exact ⟨k + 1, by go_num, by omega, by have := HG.out; show g1 - 1 + (k + 1) = n; omega, HQ2.out, fun j hj => by
                  rcases Nat.lt_or_ge j k with h | h
                  · exact HB.out j h
                  · obtain rfl : j = k := by omega
                    exact HGD.out⟩
        · have HF : Hid (namesOk ns = true) := namesOk_all (by have := HN.out; omega) (by have := HN.out; omega) (fun j hj => HB.out j (by have := HN.out; omega))
          go_wp2_with fail
          go_ret
          exact ⟨by rw [HF.out]; rfl, HQ.out⟩
end Go.Proofs.Ytbmlkomfelkckaa
