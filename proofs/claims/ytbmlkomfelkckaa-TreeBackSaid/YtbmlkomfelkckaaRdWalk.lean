/- siglumref20.reader.read: a part of a text, by going down. -/
import Derived.Test.YtbmlkomfelkckaaRdLeaf
import Derived.Deep.QuietTactic
import Derived.BigQuiet
import Derived.Deep.DeepMust
import Derived.Deep.DeepCutAuto
import Derived.Deep.CutBlock
namespace Go.Proofs.Ytbmlkomfelkckaa
open Go Go.RowKit
set_option maxRecDepth 100000

theorem rdP_size (s : ByteArray) (ns : List ByteArray) : ∀ (f i : Nat) (had : List Nat) (a : Nat) (T : NT) (h : List Nat), rdP s ns f i had = .ok a T h → i + T.size ≤ a
  | 0, i, had, a, T, h, e => by cases e
  | f + 1, i, had, a, T, h, e => by
    rw [rdP] at e
    by_cases hi : i < s.size
    · rw [if_pos hi] at e
      by_cases hb : byteAt s i = 40
      · rw [if_pos hb] at e
        cases h1 : rdP s ns f (i + 1) had with
        | err q => rw [h1] at e; cases e
        | ok a1 A had1 =>
          rw [h1] at e
          simp only at e
          have k1 := rdP_size s ns f (i + 1) had a1 A had1 h1
          by_cases hc : a1 < s.size ∧ byteAt s a1 = 44
          · rw [if_pos hc] at e
            cases h2 : rdP s ns f (a1 + 1) had1 with
            | err q => rw [h2] at e; cases e
            | ok b1 B had2 =>
              rw [h2] at e
              simp only at e
              have k2 := rdP_size s ns f (a1 + 1) had1 b1 B had2 h2
              by_cases hd : b1 < s.size ∧ byteAt s b1 = 41
              · rw [if_pos hd] at e
                cases e
                simp only [NT.size]
                omega
              · rw [if_neg hd] at e; cases e
          · rw [if_neg hc] at e; cases e
      · rw [if_neg hb] at e
        obtain ⟨k, rfl, _, _, _, h1, _⟩ := leafAt_ok hi e
        simp only [NT.size]
        omega
    · rw [if_neg hi] at e; cases e

set_option maxHeartbeats 4000000 in
theorem rdr_calls (w0 : World) (g sg b2 n c : Nat) (s : ByteArray) (ns : List ByteArray) (A : Option Addr) (hs : s.size ≤ 65536) (hr : RdStr w0 A ns) (hn : ns.length = n) (hn12 : n ≤ 12)
    (hun : ∀ (j k : Nat) (x y : ByteArray), j < k → ns[j]? = some x → ns[k]? = some y → x.toList ≠ y.toList) : ∀ (f i : Nat) (had : List Nat) (xs : List Br) (v : Value) (W : World), s.size < i + f → i ≤ s.size → xs.length ≤ i → RInv w0 g sg b2 s n W i had xs v →
    Calls Try.prog 60 #[.pointer (some ⟨g, 0, none⟩), .slice A n c] W (RetRd w0 g sg b2 s n xs (rdP s ns f i had)) := by
  intro f
  have HR := Lib.hid hr
  have HN := Lib.hid hn
  have HUN := Lib.hid hun
  clear hr hn hun
  induction f with
  | zero => intro i had xs v W h1 h2; omega
  | succ f ih =>
    intro i had xs v W hf hi hxs hI
    have HIH := Lib.hid ih
    have HI := Lib.hid hI
    obtain ⟨r0, r1, r2, r3, fr1, fr2⟩ := hI.cells
    have HF := Lib.hid hf
    clear ih hI hf
    by_cases his : i < s.size
    · have hbt : byteAt s i = (s[i]).toNat := byteAt_lt his
      by_cases h40 : (s[i]).toNat = 40
      · have hb0 : (((s[i]).toNat : Int) == 40) = true := by rw [beq_iff_eq]; omega
        have HB40 : Hid (byteAt s i = 40) := by show byteAt s i = 40; omega
        clear h40 hbt
        go_enter Try.func60, Try.ntmps60
        go_wp2_with fail
        go_quiet (fail)
        have HI1 := Lib.hid (HI.out.drew nq)
        clear r0 r1 r2 r3 fr1 fr2
        generalize W.drewN nq = W1 at *
        obtain ⟨r0, r1, r2, r3, fr1, fr2⟩ := HI1.out.cells
        go_wp2_with fail
        go_quiet (fail)
        have HI2 := Lib.hid (HI1.out.drew nq)
        clear r0 r1 r2 r3 fr1 fr2
        generalize W1.drewN nq = W2 at *
        obtain ⟨r0, r1, r2, r3, fr1, fr2⟩ := HI2.out.cells
        have HC := Lib.hid (HIH.out (i + 1) had xs v _ (by have := HF.out; omega) (by omega) (by omega) (HI2.out.setAt (p := (i : Int) + 1) (by omega)))
        have HU : Hid (rdP s ns (f + 1) i had = match rdP s ns f (i + 1) had with
          | .err e => .err e
          | .ok a1 A h1 =>
            if a1 < s.size ∧ byteAt s a1 = 44 then
              match rdP s ns f (a1 + 1) h1 with
              | .err e => .err e
              | .ok b1 B h2 => if b1 < s.size ∧ byteAt s b1 = 41 then .ok (b1 + 1) (.fork A B) h2 else .err b1
            else .err a1) := by
          show rdP s ns (f + 1) i had = _
          rw [rdP, if_pos his, if_pos HB40.out]
          rfl
        cases hA : rdP s ns f (i + 1) had with
        | err e =>
          rw [hA] at HC HU
          clear hA
          go_wp2_with fail
          refine HC.out.mono ?_
          rintro _ w3 ⟨rfl, hb3, hz3, hc3⟩
          have HP := Lib.hid (And.intro hb3 (And.intro hz3 hc3))
          clear hb3 hz3 hc3 r0 r1 r2 r3 fr1 fr2
          go_wp2_with fail
          go_quiet (fail)
          go_wp2_with fail
          exact bodyPost_ret (v := .tuple #[.int .i64 0, .bool false]) (by simp [results, Try.results60, go_sem]) rfl (by rw [HU.out]; exact ⟨rfl, HP.out.1.trans ((below_drewN _ _).mono HP.out.1.size), HP.out.2.1, HP.out.2.2⟩)
        | ok a1 TA h1 =>
          rw [hA] at HC HU
          simp only at HU
          have hle := rdP_le s ns f (i + 1) had a1 TA h1 hA
          have hsz := rdP_size s ns f (i + 1) had a1 TA h1 hA
          have hTA := TA.size_pos
          have hln : (xs ++ TA.form xs.length).length = xs.length + TA.size := by rw [List.length_append, NT.form_length]
          clear hA
          go_wp2_with fail
          refine HC.out.mono ?_
          rintro _ w3 ⟨v3, rfl, hI3⟩
          have HI3 := Lib.hid hI3
          clear hI3 r0 r1 r2 r3 fr1 fr2
          obtain ⟨r0, r1, r2, r3, fr1, fr2⟩ := HI3.out.cells
          have HLN := Lib.hid hln
          have HTA : Hid (0 < TA.size ∧ i + 1 < a1) := ⟨hTA, hle.1⟩
          have HSZ := Lib.hid hsz
          have ha1 : a1 ≤ s.size := hle.2
          clear hln hTA hle hsz
          by_cases ha : a1 < s.size
          · have hbt : byteAt s a1 = (s[a1]).toNat := byteAt_lt ha
            by_cases h44 : (s[a1]).toNat = 44
            · have hb1 : (((s[a1]).toNat : Int) != 44) = false := by rw [bne_eq_false_iff_eq]; omega
              rw [if_pos ⟨ha, by omega⟩] at HU
              clear h44 hbt
              go_wp2_with fail
              go_quiet (fail)
              have HI4 := Lib.hid (HI3.out.drew nq)
              clear r0 r1 r2 r3 fr1 fr2
              generalize w3.drewN nq = W4 at *
              obtain ⟨r0, r1, r2, r3, fr1, fr2⟩ := HI4.out.cells
              have HC2 := Lib.hid (HIH.out (a1 + 1) h1 _ _ _ (by have := HF.out; have := HTA.out; omega) (by omega) (by rw [HLN.out]; have := HSZ.out; omega) (HI4.out.setAt (p := (a1 : Int) + 1) (by omega)))
              cases hB : rdP s ns f (a1 + 1) h1 with
              | err e =>
                rw [hB] at HC2 HU
                clear hB
                go_wp2_with fail
                refine HC2.out.mono ?_
                rintro _ w5 ⟨rfl, hb3, hz3, hc3⟩
                have HP := Lib.hid (And.intro hb3 (And.intro hz3 hc3))
                clear hb3 hz3 hc3 r0 r1 r2 r3 fr1 fr2
                go_wp2_with fail
                go_quiet (fail)
                go_wp2_with fail
                exact bodyPost_ret (v := .tuple #[.int .i64 0, .bool false]) (by simp [results, Try.results60, go_sem]) rfl (by rw [HU.out]; exact ⟨rfl, HP.out.1.trans ((below_drewN _ _).mono HP.out.1.size), HP.out.2.1, HP.out.2.2⟩)
              | ok b1 TB h2 =>
                rw [hB] at HC2 HU
                simp only at HU
                have hle := rdP_le s ns f (a1 + 1) h1 b1 TB h2 hB
                have hsz := rdP_size s ns f (a1 + 1) h1 b1 TB h2 hB
                have hTB := TB.size_pos
                have hln : (xs ++ TA.form xs.length ++ TB.form (xs.length + TA.size)).length = xs.length + TA.size + TB.size := by rw [List.length_append, NT.form_length, HLN.out]
                clear hB
                go_wp2_with fail
                refine HC2.out.mono ?_
                rintro _ w5 ⟨v5, he, hI5⟩
                rw [HLN.out] at he hI5
                subst he
                have HI5 := Lib.hid hI5
                clear hI5 r0 r1 r2 r3 fr1 fr2
                obtain ⟨r0, r1, r2, r3, fr1, fr2⟩ := HI5.out.cells
                have HLN2 := Lib.hid hln
                have HTB : Hid (0 < TB.size ∧ a1 + 1 < b1) := ⟨hTB, hle.1⟩
                have HSZ2 := Lib.hid hsz
                have hb1s : b1 ≤ s.size := hle.2
                clear hln hTB hle hsz
                by_cases hb : b1 < s.size
                · have hbt : byteAt s b1 = (s[b1]).toNat := byteAt_lt hb
                  by_cases h41 : (s[b1]).toNat = 41
                  · have hb2 : (((s[b1]).toNat : Int) != 41) = false := by rw [bne_eq_false_iff_eq]; omega
                    rw [if_pos ⟨hb, by omega⟩] at HU
                    clear h41 hbt
                    go_wp2_with fail
                    go_quiet (fail)
                    have HI6 := Lib.hid (HI5.out.drew nq)
                    clear r0 r1 r2 r3 fr1 fr2
                    generalize w5.drewN nq = W6 at *
                    obtain ⟨r0, r1, r2, r3, fr1, fr2⟩ := HI6.out.cells
                    have HI7 := Lib.hid (HI6.out.setAt (p := (b1 : Int) + 1) (j := b1 + 1) (by omega))
                    obtain ⟨s0, s1, s2, s3, fs1, fs2⟩ := HI7.out.cells
                    have hq1 : (xs.length : Int) + (TA.size : Int) - 1 + 1 ≤ 100000 := by have := HSZ.out; omega
                    have hq2 : (xs.length : Int) + (TA.size : Int) + (TB.size : Int) ≤ 100000 := by have := HSZ.out; have := HSZ2.out; omega
                    go_wp2_with (at_builtin; refine walk_append1 HI7.out.tree HI7.out.hg.2.2.2.2.2 (by rw [HLN2.out]; omega) 24 Try.underlying24 info_brP ⟨rfl, by decide, by decide⟩ _ (one3 _ _ _) (by exact ⟨rfl, rfl, rfl, rfl, by simp⟩) ?_; intro v1 w1 ho1 hu1; obtain ⟨hrow1, hI9⟩ := HI7.out.upd (x := ⟨0, _, _⟩) ho1 hu1; have t1 := hrow1.frozen 2; have t2 := hrow1.cell (i := 2) (by decide); rw [HLN2.out] at ho1; obtain ⟨A9, c9, rfl, _⟩ := own_slice ho1; have HI9 := Lib.hid hI9; have t3 := hI9.cells.2.2.1; clear hI9 hrow1 ho1 hu1)
                    exact bodyPost_ret (v := .tuple #[.int .i64 ((xs.length : Int) + (TA.size : Int) + (TB.size : Int)), .bool true]) (by simp [results, Try.results60, go_sem]) rfl (by
                      rw [HU.out]
                      refine ⟨.slice A9 (xs.length + TA.size + TB.size + 1) c9, by rw [show (xs.length : Int) + (((TA.fork TB).size : Nat) : Int) - 1 = (xs.length : Int) + (TA.size : Int) + (TB.size : Int) by simp only [NT.size]; omega], ?_⟩
                      have h9 := HI9.out
                      simpa [NT.form, List.append_assoc] using h9)
                  · have hb2 : (((s[b1]).toNat : Int) != 41) = true := by rw [bne_iff_ne]; omega
                    rw [if_neg (fun q => h41 (by omega))] at HU
                    clear h41 hbt
                    go_wp2_with fail
                    go_quiet (fail)
                    have HI6 := Lib.hid (HI5.out.drew nq)
                    go_wp2_with fail
                    exact bodyPost_ret (v := .tuple #[.int .i64 0, .bool false]) (by simp [results, Try.results60, go_sem]) rfl (by rw [HU.out]; exact ⟨rfl, HI6.out.low, HI6.out.hg.2.2.2.2.2, HI6.out.cells.2.1⟩)
                · rw [if_neg (fun q => hb q.1)] at HU
                  go_wp2_with fail
                  go_quiet (fail)
                  have HI6 := Lib.hid (HI5.out.drew nq)
                  go_wp2_with fail
                  exact bodyPost_ret (v := .tuple #[.int .i64 0, .bool false]) (by simp [results, Try.results60, go_sem]) rfl (by rw [HU.out]; exact ⟨rfl, HI6.out.low, HI6.out.hg.2.2.2.2.2, HI6.out.cells.2.1⟩)
            · have hb1 : (((s[a1]).toNat : Int) != 44) = true := by rw [bne_iff_ne]; omega
              rw [if_neg (fun q => h44 (by omega))] at HU
              clear h44 hbt
              go_wp2_with fail
              go_quiet (fail)
              have HI4 := Lib.hid (HI3.out.drew nq)
              go_wp2_with fail
              exact bodyPost_ret (v := .tuple #[.int .i64 0, .bool false]) (by simp [results, Try.results60, go_sem]) rfl (by rw [HU.out]; exact ⟨rfl, HI4.out.low, HI4.out.hg.2.2.2.2.2, HI4.out.cells.2.1⟩)
          · rw [if_neg (fun q => ha q.1)] at HU
            go_wp2_with fail
            go_quiet (fail)
            have HI4 := Lib.hid (HI3.out.drew nq)
            go_wp2_with fail
            exact bodyPost_ret (v := .tuple #[.int .i64 0, .bool false]) (by simp [results, Try.results60, go_sem]) rfl (by rw [HU.out]; exact ⟨rfl, HI4.out.low, HI4.out.hg.2.2.2.2.2, HI4.out.cells.2.1⟩)
      · have HE : rdP s ns (f + 1) i had = leafAt s ns i had := by
          rw [rdP, if_pos his, if_neg (fun q => h40 (by omega))]
        rw [HE]
        exact rdr_leaf w0 g sg b2 n c s ns A hs HR.out HN.out hn12 HUN.out i had xs v W his h40 hxs HI.out
    · have HE : Hid (rdP s ns (f + 1) i had = .err i) := by
        show rdP s ns (f + 1) i had = _
        rw [rdP, if_neg his]
      rw [HE.out]
      go_enter Try.func60, Try.ntmps60
      go_wp2_with fail
      go_quiet (fail)
      go_wp2_with fail
      exact bodyPost_ret (v := .tuple #[.int .i64 0, .bool false]) (by simp [results, Try.results60, go_sem]) rfl ⟨rfl, (HI.out.drew nq).low, (HI.out.drew nq).hg.2.2.2.2.2, (HI.out.drew nq).cells.2.1⟩
end Go.Proofs.Ytbmlkomfelkckaa
