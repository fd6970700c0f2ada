/- siglumref20.reader.read at a name. -/
import Derived.Test.YtbmlkomfelkckaaRdMem
import Derived.Test.YtbmlkomfelkckaaPart
import Derived.Deep.QuietTactic
import Derived.BigQuiet
import Derived.Deep.DeepMust
import Derived.Deep.DeepCutAuto
import Derived.Deep.CutBlock
namespace Go.Proofs.Ytbmlkomfelkckaa
open Go Go.RowKit
set_option maxRecDepth 100000

theorem idxFrom_get' {l : List UInt8} : ∀ {k : Nat} {ns : List ByteArray} {i : Nat}, idxFrom l k ns = some i → ∃ x, ns[i - k]? = some x ∧ (l == x.toList) = true
  | _, [], _, h => by cases h
  | k, x :: xs, i, h => by
    rw [idxFrom] at h
    by_cases hx : (l == x.toList) = true
    · rw [if_pos hx] at h
      cases h
      exact ⟨x, by simp, hx⟩
    · rw [if_neg hx] at h
      have h1 := (idxFrom_range h).1
      obtain ⟨y, hy, he⟩ := idxFrom_get' h
      exact ⟨y, by rw [show i - k = (i - (k + 1)) + 1 by omega]; exact hy, he⟩

theorem idxFrom_get {l : List UInt8} {ns : List ByteArray} {i : Nat} (h : idx ns l = some i) : ∃ x, ns[i]? = some x ∧ (l == x.toList) = true := idxFrom_get' h

set_option maxHeartbeats 4000000 in
theorem rdr_leaf (w0 : World) (g sg b2 n c : Nat) (s : ByteArray) (ns : List ByteArray) (A : Option Addr) (hs : s.size ≤ 65536) (hr : RdStr w0 A ns) (hn : ns.length = n) (hn12 : n ≤ 12)
    (hun : ∀ (j k : Nat) (x y : ByteArray), j < k → ns[j]? = some x → ns[k]? = some y → x.toList ≠ y.toList) (i : Nat) (had : List Nat) (xs : List Br) (v : Value) (W : World) (his : i < s.size) (h40 : ¬ (s[i]).toNat = 40) (hxs : xs.length ≤ i) (hI : RInv w0 g sg b2 s n W i had xs v) :
    Calls Try.prog 60 #[.pointer (some ⟨g, 0, none⟩), .slice A n c] W (RetRd w0 g sg b2 s n xs (leafAt s ns i had)) := by
  have HR := Lib.hid hr
  have HN := Lib.hid hn
  have HUN := Lib.hid hun
  have HI := Lib.hid hI
  obtain ⟨r0, r1, r2, r3, fr1, fr2⟩ := hI.cells
  have hb0 : (((s[i]).toNat : Int) == 40) = false := by rw [beq_eq_false_iff_ne]; omega
  have HX := Lib.hid hxs
  have HWE := Lib.hid (wend_is s i)
  have hwe := wend_le (s := s) (i := i) (by omega)
  have hie := (wend_is s i).le
  obtain ⟨e, he⟩ : ∃ e, wend s i = e := ⟨_, rfl⟩
  have HE := Lib.hid he
  rw [he] at HWE hwe hie
  clear hr hn hun hI hxs h40 he
  have hdi : decide (s.size ≤ i) = false := decide_eq_false (by omega)
  go_enter Try.func60, Try.ntmps60
  go_wp2_with fail
  go_quiet (fail)
  have HI1 := Lib.hid (HI.out.drew nq)
  clear r0 r1 r2 r3 fr1 fr2
  generalize W.drewN nq = W1 at *
  obtain ⟨r0, r1, r2, r3, fr1, fr2⟩ := HI1.out.cells
  go_wp2_with fail
  go_quiet (fail)
  have HI2 := Lib.hid (HI1.out.drew nq)
  clear r0 r1 r2 r3 fr1 fr2
  generalize W1.drewN nq = W2 at *
  obtain ⟨r0, r1, r2, r3, fr1, fr2⟩ := HI2.out.cells
  try rw [hdi]
  go_upto_block 0 with (fail)
  go_cut [10] (fun v10 wc => v10 = .int .i64 ((e : Nat) : Int) ∧ wc = W2)
  case first =>
    go_wp2_with fail
    go_loopg [10] (s.size - i) (fun gk v10 wr => ∃ j : Nat, v10 = .int .i64 j ∧ j ≤ s.size ∧ Hid (gk + j = s.size) ∧ wr = W2 ∧ Hid (i ≤ j ∧ ∀ m, i ≤ m → m < j → m < s.size ∧ wordI (byteAt s m : Int) = true))
    case atStart => exact ⟨i, rfl, by omega, by show s.size - i + i = s.size; omega, rfl, Nat.le_refl _, fun m h1 h2 => by omega⟩
    case round =>
      obtain ⟨j, rfl, hj, HJ, rfl, HM⟩ := hrel
      by_cases hjs : j < s.size
      · have HWC2 := Lib.hid (fun W => rword_calls ((s[j]).toNat : Int) W)
        cases hw : wordI ((s[j]).toNat : Int)
        · rw [hw] at HWC2
          have HEJ : Hid (j = e) := IsEnd.unique ⟨HM.out.1, HM.out.2, fun _ => by rw [byteAt_lt hjs]; exact hw⟩ HWE.out
          clear hw
          go_wp2_with fail
          refine (HWC2.out _).mono ?_
          rintro _ w' ⟨rfl, rfl⟩
          go_wp2_with fail
          go_meet
          exact ⟨by rw [HEJ.out], rfl⟩
        · rw [hw] at HWC2
          have HW2 : Hid (wordI (byteAt s j : Int) = true) := by show wordI (byteAt s j : Int) = true; rw [byteAt_lt hjs]; exact hw
          clear hw
          go_wp2_with fail
          refine (HWC2.out _).mono ?_
          rintro _ w' ⟨rfl, rfl⟩
          go_wp2_with fail
          go_roundg (gk - 1)
          case measure => have := HJ.out; omega
          case rel => exact ⟨j + 1, by go_num, by omega, by have := HJ.out; show gk - 1 + (j + 1) = s.size; omega, rfl, by have := HM.out.1; omega, fun m h1 h2 => by
            rcases Nat.lt_or_ge m j with h | h
            · exact HM.out.2 m h1 h
            · obtain rfl : m = j := by omega
              exact ⟨hjs, HW2.out⟩⟩
      · have HEJ : Hid (j = e) := IsEnd.unique ⟨HM.out.1, HM.out.2, fun q => absurd q hjs⟩ HWE.out
        go_wp2_with fail
        go_meet
        exact ⟨by rw [HEJ.out], rfl⟩
  case rest =>
    obtain ⟨rfl, rfl⟩ := hcut
    go_wp2_with fail
    go_loopg [11] n (fun gk v11 wr => ∃ k : Nat, v11 = .int .i64 k ∧ k ≤ n ∧ Hid (gk + k = n) ∧ Hid (RInv w0 g sg b2 s n wr i had xs v) ∧ Hid (∀ j y, j < k → ns[j]? = some y → ¬ (i < e ∧ ((s.extract i e).toList == y.toList) = true ∧ j ∉ had)))
    case atStart => exact ⟨0, rfl, Nat.zero_le _, rfl, HI2.out, fun j y hj => by omega⟩
    case round =>
      obtain ⟨k, rfl, hk, HG, HJ, HB⟩ := hrel
      clear r0 r1 r2 r3 fr1 fr2
      obtain ⟨r0, r1, r2, r3, fr1, fr2⟩ := HJ.out.cells
      by_cases hkn : k < n
      · obtain ⟨x, hx⟩ : ∃ x, ns[k]? = some x := ⟨_, List.getElem?_eq_getElem (by have := HN.out; omega)⟩
        obtain ⟨ad, rfl, d0⟩ := (HR.out.below HJ.out.low) k x hx
        have HXK := Lib.hid hx
        obtain ⟨q0, fq0⟩ := HJ.out.seen_cell hkn
        clear hx
        by_cases hpos : i < e
        · have hp1 : (i : Int) < (e : Int) := by omega
          cases heq : ((s.extract i e).toList == x.toList)
          · have heq' : (x.toList == (s.extract i e).toList) = false := by rw [beq_eq_false_iff_ne] at heq ⊢; exact Ne.symm heq
            have HQ := Lib.hid heq
            go_wp2_with fail
            go_quiet (fail)
            go_wp2_with fail
            go_roundg (gk - 1)
            case measure => have := HG.out; omega
            case rel => exact ⟨k + 1, by go_num, by omega, by have := HG.out; show gk - 1 + (k + 1) = n; omega, HJ.out.drew nq, fun j y hj hy => by
              rcases Nat.lt_or_ge j k with h | h
              · exact HB.out j y h hy
              · obtain rfl : j = k := by omega
                have h2 := HXK.out
                rw [h2] at hy
                cases hy
                intro q
                have := HQ.out
                rw [q.2.1] at this
                cases this⟩
          · have heq' : (x.toList == (s.extract i e).toList) = true := by rw [beq_iff_eq] at heq ⊢; exact heq.symm
            have HQ := Lib.hid heq
            by_cases hkh : k ∈ had
            · rw [decide_eq_true hkh] at q0
              have HK := Lib.hid hkh
              clear hkh
              go_wp2_with fail
              go_quiet (fail)
              go_wp2_with fail
              go_roundg (gk - 1)
              case measure => have := HG.out; omega
              case rel => exact ⟨k + 1, by go_num, by omega, by have := HG.out; show gk - 1 + (k + 1) = n; omega, HJ.out.drew nq, fun j y hj hy => by
                rcases Nat.lt_or_ge j k with h | h
                · exact HB.out j y h hy
                · obtain rfl : j = k := by omega
                  intro q
                  exact q.2.2 HK.out⟩
            · rw [decide_eq_false hkh] at q0
              have HLA : Hid (leafAt s ns i had = .ok e (.leaf k) (had ++ [k])) := by
                show leafAt s ns i had = _
                unfold leafAt
                rw [HE.out, if_neg (by omega)]
                have h1 : idx ns (wordOf s i e) = some k := by
                  show idxFrom (s.extract i e).toList 0 ns = some k
                  rw [idxFrom_some HXK.out HQ.out (fun j y hj hy => by
                    rw [beq_eq_false_iff_ne]
                    intro q
                    have h3 := HQ.out
                    rw [beq_iff_eq] at h3
                    exact HUN.out j k y x hj hy HXK.out (by rw [← q, h3])), Nat.zero_add]
                rw [h1]
                simp only
                rw [if_neg hkh]
              clear hkh
              go_wp2_with fail
              go_quiet (fail)
              have HI4 := Lib.hid (HJ.out.drew nq)
              clear r0 r1 r2 r3 fr1 fr2 q0 fq0
              generalize wr.drewN nq = W4 at *
              obtain ⟨r0, r1, r2, r3, fr1, fr2⟩ := HI4.out.cells
              obtain ⟨q0, fq0⟩ := HI4.out.seen_cell hkn
              have HI5 := Lib.hid (HI4.out.setSeen k)
              obtain ⟨s0, s1, s2, s3, fs1, fs2⟩ := HI5.out.cells
              have HI6 := Lib.hid (HI5.out.setAt (p := (e : Int)) (j := e) rfl)
              obtain ⟨t0, t1, t2, t3, ft1, ft2⟩ := HI6.out.cells
              have hq1 : (xs.length : Int) ≤ 100000 := by have := HX.out; omega
              go_wp2_with (at_builtin; refine walk_append1 HI6.out.tree HI6.out.hg.2.2.2.2.2 (by omega) 24 Try.underlying24 info_brP ⟨rfl, by decide, by decide⟩ _ (one3 _ _ _) (by exact ⟨rfl, rfl, rfl, rfl, by simp⟩) ?_; intro v1 w1 ho1 hu1; obtain ⟨hrow1, hI9⟩ := HI6.out.upd (x := ⟨_, _, _⟩) ho1 hu1; have t1 := hrow1.frozen 2; have t2 := hrow1.cell (i := 2) (by decide); obtain ⟨A9, c9, rfl, _⟩ := own_slice ho1; have HI9 := Lib.hid hI9; have t3 := hI9.cells.2.2.1; clear hI9 hrow1 ho1 hu1)
              exact bodyPost_ret (v := .tuple #[.int .i64 (xs.length : Int), .bool true]) (by simp [results, Try.results60, go_sem]) rfl (by
                rw [HLA.out]
                refine ⟨.slice A9 (xs.length + 1) c9, by rw [show (xs.length : Int) + (((NT.leaf k).size : Nat) : Int) - 1 = (xs.length : Int) by simp only [NT.size]; omega], ?_⟩
                exact HI9.out)
        · have hp1 : ¬ (i : Int) < (e : Int) := by omega
          have HQ := Lib.hid hpos
          go_wp2_with fail
          go_quiet (fail)
          go_wp2_with fail
          go_roundg (gk - 1)
          case measure => have := HG.out; omega
          case rel => exact ⟨k + 1, by go_num, by omega, by have := HG.out; show gk - 1 + (k + 1) = n; omega, HJ.out.drew nq, fun j y hj hy q => HQ.out q.1⟩
      · have HLA : Hid (leafAt s ns i had = .err i) := by
          show leafAt s ns i had = _
          unfold leafAt
          by_cases hw : wend s i = i
          · rw [if_pos hw]
          · rw [if_neg hw]
            cases hx : idx ns (wordOf s i (wend s i)) with
            | none => rfl
            | some m =>
              simp only
              obtain ⟨y, hy, hey⟩ := idxFrom_get hx
              rw [HE.out] at hw hey
              have hm := (List.getElem?_eq_some_iff.1 hy).1
              by_cases hmh : m ∈ had
              · rw [if_pos hmh]
              · exact absurd ⟨by omega, hey, hmh⟩ (HB.out m y (by have := HN.out; omega) hy)
        go_wp2_with fail
        exact bodyPost_ret (v := .tuple #[.int .i64 0, .bool false]) (by simp [results, Try.results60, go_sem]) rfl (by rw [HLA.out]; exact ⟨rfl, HJ.out.low, HJ.out.hg.2.2.2.2.2, HJ.out.cells.2.1⟩)
end Go.Proofs.Ytbmlkomfelkckaa
