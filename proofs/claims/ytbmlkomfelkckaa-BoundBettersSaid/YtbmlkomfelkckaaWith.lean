/- bound's forms: another part in the place of one (with, instead). -/
import Derived.Test.YtbmlkomfelkckaaFormW
import Derived.Deep.RegionHeld3
namespace Go.Proofs.Ytbmlkomfelkckaa
open Go Go.RowKit
set_option maxRecDepth 100000

/-- What a call that answers a tree's form leaves. -/
def RetN (w : World) (X : NT) (e : Ending) (w' : World) : Prop :=
  ∃ g c, e = .returned (.slice (some ⟨g, 0, none⟩) X.size c) ∧ FAt w' g c (X.form 0) ∧ Below w.heap.size w w'

theorem RetN.of {w w' : World} {X : NT} {e : Ending} (h : RetF w (X.form 0) e w') : RetN w X e w' := by
  obtain ⟨g, c, he, hf, hb, _⟩ := h
  exact ⟨g, c, by rw [he, NT.form_length], hf, hb⟩

theorem put_size : ∀ (T : NT) (p : Int) (S : NT), (T.put p S).size ≤ T.size + S.size
  | .leaf j, p, S => by
    unfold NT.put
    split
    · omega
    · simp only [NT.size]; omega
  | .fork a b, p, S => by
    unfold NT.put
    split
    · omega
    · by_cases h : p < a.size
      · have := put_size a p S
        rw [put_out b _ S (by omega)]
        simp only [NT.size]
        omega
      · have := put_size b (p - a.size) S
        rw [put_out a _ S (by omega)]
        simp only [NT.size]
        omega

theorem held_with {w2 W w' : World} {b : Nat} {v1 v2 : Value} (z : b < w2.heap.size) (h1 : W.cell? ⟨b, 1, none⟩ = some v1) (h2 : W.cell? ⟨b, 2, none⟩ = some v2) (hb : Below w2.heap.size w2 W) (k : Below w2.heap.size W w') :
    w'.cell? ⟨b, 1, none⟩ = some v1 ∧ w'.cell? ⟨b, 2, none⟩ = some v2 ∧ Below w2.heap.size w2 w' :=
  ⟨cell_below k z h1, cell_below k z h2, hb.trans k⟩

set_option maxHeartbeats 4000000 in
theorem with_calls (g c g2 c2 p : Nat) (T S : NT) (hz : T.size ≤ 300) (hs : S.size ≤ 300) (hc : c ≤ 9223372036854775807) (hp : p ≤ 1000) : ∀ (P : NT) (top : Nat) (w : World), FAt w g c (T.form 0) → FAt w g2 c2 (S.form 0) → T.pieces[top]? = some P →
    Calls Try.prog 105 #[.slice (some ⟨g, 0, none⟩) T.size c, .int .i64 (top : Int), .int .i64 (p : Int), .slice (some ⟨g2, 0, none⟩) S.size c2] w (RetN w (P.put ((p : Int) - (top + 1 - P.size : Nat)) S)) := by
  intro P
  induction P with
  | leaf j =>
    intro top w hf hf2 hP
    have htop : top < T.size := by have := (List.getElem?_eq_some_iff.1 hP).1; rwa [pieces_length] at this
    have hpc := piece_at T 0 top _ hP
    obtain ⟨ad, he, d0, d1, d2⟩ := hf.rd top _ hpc.2
    obtain rfl : (⟨g, 0, none⟩ : Addr) = ad := by simpa using he
    rw [add_plain] at d0 d1 d2
    dsimp only at d0 d1 d2
    have htI : (top : Int) < (T.size : Int) := by omega
    have HB0 := Lib.hid (below_alloc w (.cells #[.int .i64 (j : Int), .int .i64 0, .int .i64 0] 64))
    have HRUN := Lib.hid (run_calls g c top T _ _ (hf.below HB0.out) hP (by omega))
    have HPART := Lib.hid (fun (W : World) (h : Below w.heap.size w W) => bpart_calls g c top T _ W (hf.below h) hP (by omega) hc)
    have HF2 := Lib.hid hf2
    rw [show top + 1 - (NT.leaf j).size = top by simp [NT.size]] at HRUN ⊢
    clear hpc he hf hf2 hP
    by_cases h1 : top = p
    · subst h1
      have HE : Hid ((NT.leaf j).put ((top : Int) - (top : Nat)) S = S) := by
        show NT.put _ _ _ = _
        unfold NT.put
        rw [if_pos (Int.sub_self _)]
      rw [HE.out]
      clear htop
      go_enter Try.func105, Try.ntmps105
      go_wp2_with fail
      go_ret
      exact ⟨g2, c2, rfl, HF2.out.below HB0.out, HB0.out⟩
    · have HE : Hid ((NT.leaf j).put ((p : Int) - (top : Nat)) S = .leaf j) := Lib.hid (put_out _ _ _ (by simp only [NT.size]; omega))
      rw [HE.out]
      have f0 : ((top : Int) == (p : Int)) = false := by rw [beq_eq_false_iff_ne]; omega
      by_cases h2 : p < top
      · have f1 : (p : Int) < top := by omega
        clear h1 htop
        go_enter Try.func105, Try.ntmps105
        go_wp2_with fail
        refine HRUN.out.mono ?_
        rintro e w1 ⟨rfl, k1, hk1⟩
        have HB1 : Hid (Below w.heap.size w w1) := by show Below _ _ _; rw [hk1]; exact Below.then HB0.out HB0.out.size (below_drewN _ k1)
        clear hk1 HRUN
        go_wp2_with fail
        refine (HPART.out _ HB1.out).mono ?_
        rintro e w2 h
        obtain ⟨g', c', rfl, hf', hb'⟩ := RetN.of h
        clear h
        go_wp2_with fail
        go_ret
        exact ⟨g', c', rfl, hf', Below.then HB1.out HB1.out.size hb'⟩
      · have f1 : ¬ (p : Int) < top := by omega
        have f2 : (top : Int) < (p : Int) := by omega
        clear h1 htop h2
        go_enter Try.func105, Try.ntmps105
        go_wp2_with fail
        refine HRUN.out.mono ?_
        rintro e w1 ⟨rfl, k1, hk1⟩
        have HB1 : Hid (Below w.heap.size w w1) := by show Below _ _ _; rw [hk1]; exact Below.then HB0.out HB0.out.size (below_drewN _ k1)
        clear hk1 HRUN
        go_wp2_with fail
        refine (HPART.out _ HB1.out).mono ?_
        rintro e w2 h
        obtain ⟨g', c', rfl, hf', hb'⟩ := RetN.of h
        clear h
        go_wp2_with fail
        go_ret
        exact ⟨g', c', rfl, hf', Below.then HB1.out HB1.out.size hb'⟩
  | fork a b iha ihb =>
    intro top w hf hf2 hP
    have htop : top < T.size := by have := (List.getElem?_eq_some_iff.1 hP).1; rwa [pieces_length] at this
    have hpc := piece_at T 0 top _ hP
    obtain ⟨ad, he, d0, d1, d2⟩ := hf.rd top _ hpc.2.1
    obtain rfl : (⟨g, 0, none⟩ : Addr) = ad := by simpa using he
    rw [add_plain] at d0 d1 d2
    have pa := a.size_pos
    have pb := b.size_pos
    have hsz : a.size + b.size + 1 ≤ top + 1 := hpc.1
    obtain ⟨ra, hra⟩ : ∃ ra : Nat, ra = top - b.size - 1 := ⟨_, rfl⟩
    obtain ⟨rb, hrb⟩ : ∃ rb : Nat, rb = top - 1 := ⟨_, rfl⟩
    have e1 : ((0 + top : Nat) : Int) - b.size - 1 = (ra : Int) := by omega
    have e2 : ((0 + top : Nat) : Int) - 1 = (rb : Int) := by omega
    simp only [e1, e2] at d0 d1 d2
    have htI : (top : Int) < (T.size : Int) := by omega
    have HB0 := Lib.hid (below_alloc w (.cells #[.int .i64 0, .int .i64 (ra : Int), .int .i64 (rb : Int)] 64))
    have HRUN := Lib.hid (run_calls g c top T _ _ (hf.below HB0.out) hP (by omega))
    have HPART := Lib.hid (fun (W : World) (h : Below w.heap.size w W) => bpart_calls g c top T _ W (hf.below h) hP (by omega) hc)
    have HF2 := Lib.hid hf2
    have HIA := Lib.hid (fun (W : World) (h : Below w.heap.size w W) => iha ra W (hf.below h) (hf2.below h) (by rw [hra]; exact hpc.2.2.1))
    have HIB := Lib.hid (fun (W : World) (h : Below w.heap.size w W) => ihb rb W (hf.below h) (hf2.below h) (by rw [hrb]; exact hpc.2.2.2))
    obtain ⟨s, hs'⟩ : ∃ s : Nat, s = top + 1 - (NT.fork a b).size := ⟨_, rfl⟩
    have hfs : (NT.fork a b).size = a.size + b.size + 1 := rfl
    rw [← hs'] at HRUN ⊢
    rw [show ra + 1 - a.size = s by omega] at HIA
    have hst : s + a.size + b.size = top := by omega
    clear hpc he hf hf2 iha ihb e1 e2
    by_cases h1 : top = p
    · subst h1
      have HE : Hid ((NT.fork a b).put ((top : Int) - (s : Nat)) S = S) := by
        show NT.put _ _ _ = _
        unfold NT.put
        rw [if_pos (by omega)]
      rw [HE.out]
      clear htop hra hrb hs' hfs hst HIA HIB
      go_enter Try.func105, Try.ntmps105
      go_wp2_with fail
      go_ret
      exact ⟨g2, c2, rfl, HF2.out.below HB0.out, HB0.out⟩
    · have f0 : ((top : Int) == (p : Int)) = false := by rw [beq_eq_false_iff_ne]; omega
      by_cases h2 : p < s
      · have HE : Hid ((NT.fork a b).put ((p : Int) - (s : Nat)) S = .fork a b) := Lib.hid (put_out _ _ _ (by omega))
        rw [HE.out]
        have f1 : (p : Int) < s := by omega
        clear h1 htop hra hrb hs' hfs hst HIA HIB
        go_enter Try.func105, Try.ntmps105
        go_wp2_with fail
        refine HRUN.out.mono ?_
        rintro e w1 ⟨rfl, k1, hk1⟩
        have HB1 : Hid (Below w.heap.size w w1) := by show Below _ _ _; rw [hk1]; exact Below.then HB0.out HB0.out.size (below_drewN _ k1)
        clear hk1 HRUN
        go_wp2_with fail
        refine (HPART.out _ HB1.out).mono ?_
        rintro e w2 h
        obtain ⟨g', c', rfl, hf', hb'⟩ := RetN.of h
        clear h
        go_wp2_with fail
        go_ret
        exact ⟨g', c', rfl, hf', Below.then HB1.out HB1.out.size hb'⟩
      · by_cases h3 : top < p
        · have HE : Hid ((NT.fork a b).put ((p : Int) - (s : Nat)) S = .fork a b) := Lib.hid (put_out _ _ _ (by omega))
          rw [HE.out]
          have f1 : ¬ (p : Int) < s := by omega
          have f2 : (top : Int) < (p : Int) := by omega
          clear h1 htop hra hrb hs' hfs hst HIA HIB h2 h3
          go_enter Try.func105, Try.ntmps105
          go_wp2_with fail
          refine HRUN.out.mono ?_
          rintro e w1 ⟨rfl, k1, hk1⟩
          have HB1 : Hid (Below w.heap.size w w1) := by show Below _ _ _; rw [hk1]; exact Below.then HB0.out HB0.out.size (below_drewN _ k1)
          clear hk1 HRUN
          go_wp2_with fail
          refine (HPART.out _ HB1.out).mono ?_
          rintro e w2 h
          obtain ⟨g', c', rfl, hf', hb'⟩ := RetN.of h
          clear h
          go_wp2_with fail
          go_ret
          exact ⟨g', c', rfl, hf', Below.then HB1.out HB1.out.size hb'⟩
        · have HE : Hid ((NT.fork a b).put ((p : Int) - (s : Nat)) S = .fork (a.put ((p : Int) - (s : Nat)) S) (b.put ((p : Int) - ((rb + 1 - b.size : Nat) : Int)) S)) := by
            show NT.put _ _ _ = _
            conv => lhs; unfold NT.put
            rw [if_neg (by omega), show (p : Int) - (s : Nat) - a.size = (p : Int) - ((rb + 1 - b.size : Nat) : Int) by omega]
          rw [HE.out]
          have hXA := put_size a ((p : Int) - (s : Nat)) S
          have hXB := put_size b ((p : Int) - ((rb + 1 - b.size : Nat) : Int)) S
          generalize a.put ((p : Int) - (s : Nat)) S = XA at *
          generalize b.put ((p : Int) - ((rb + 1 - b.size : Nat) : Int)) S = XB at *
          have HGL := Lib.hid (fun (W : World) (g1 c1 g2 c2 : Nat) (h1 : FAt W g1 c1 (XA.form 0)) (h2 : FAt W g2 c2 (XB.form 0)) => glued_calls g1 c1 g2 c2 XA XB W h1 h2 (by omega) (by omega))
          have f1 : ¬ (p : Int) < s := by omega
          have f2 : ¬ (top : Int) < (p : Int) := by omega
          have hab : (ra : Int) < rb := by omega
          have q1 := new_cell w #[.int .i64 0, .int .i64 (ra : Int), .int .i64 (rb : Int)] 64 1
          have q2 := new_cell w #[.int .i64 0, .int .i64 (ra : Int), .int .i64 (rb : Int)] 64 2
          clear h1 htop hra hrb hs' hfs hst h2 h3 HPART hXA hXB pa pb hsz
          go_enter Try.func105, Try.ntmps105
          go_wp2_with fail
          refine HRUN.out.mono ?_
          rintro e w1 ⟨rfl, k1, hk1⟩
          have hb1 : Below (w.alloc (.cells #[.int .i64 0, .int .i64 (ra : Int), .int .i64 (rb : Int)] 64)).heap.size (w.alloc (.cells #[.int .i64 0, .int .i64 (ra : Int), .int .i64 (rb : Int)] 64)) w1 := by rw [hk1]; exact below_drewN _ k1
          have HB1 := Lib.hid (Below.then HB0.out HB0.out.size hb1)
          have q1 := cell_below hb1 (by simp) q1
          have q2 := cell_below hb1 (by simp) q2
          have hz1 : w.heap.size < w1.heap.size := by have := hb1.size; simp at this; omega
          clear hk1 HRUN hb1
          go_wp2_with fail
          trace "region"
          go_region_held3 (fun w' => w'.cell? ⟨w.heap.size, 1, none⟩ = some (.int .i64 (ra : Int)) ∧ w'.cell? ⟨w.heap.size, 2, none⟩ = some (.int .i64 (rb : Int)) ∧ Below w1.heap.size w1 w')
            (first
              | exact ⟨q1, q2, below_drewN w1 1⟩
              | (go_split_ands; exact held_with hz1 (by assumption) (by assumption) (by assumption) hup))
            (first
              | (go_at_call 105; go_split_ands; have hf1 := hf; (with_reducible refine (HIA.out _ (Below.then HB1.out HB1.out.size (by assumption))).mono ?_); rintro e w' ⟨gA, cA, rfl, hfA, hb⟩; have hf2 := hf1.below hb; have hup := hb.mono (Below.size (by assumption : Below w1.heap.size w1 _)))
              | (go_at_call 105; go_split_ands; have hf1 := hf; (with_reducible refine (HIB.out _ (Below.then HB1.out HB1.out.size (by assumption))).mono ?_); rintro e w' ⟨gA, cA, rfl, hfA, hb⟩; have hf2 := hf1.below hb; have hup := hb.mono (Below.size (by assumption : Below w1.heap.size w1 _)))
              | (go_at_call 105; go_split_ands; (with_reducible refine (HIA.out _ (Below.then HB1.out HB1.out.size (by assumption))).mono ?_); rintro e w' ⟨gA, cA, rfl, hf, hb⟩; have hup := hb.mono (Below.size (by assumption : Below w1.heap.size w1 _)))
              | (go_at_call 105; go_split_ands; (with_reducible refine (HIB.out _ (Below.then HB1.out HB1.out.size (by assumption))).mono ?_); rintro e w' ⟨gA, cA, rfl, hf, hb⟩; have hup := hb.mono (Below.size (by assumption : Below w1.heap.size w1 _)))
              | (go_at_call 77; go_split_ands; refine (HGL.out _ _ _ _ _ (by assumption) (by assumption)).mono ?_; rintro e w' h7; obtain ⟨g7, c7, rfl, hf7, hb7⟩ := RetN.of h7; have hup := hb7.mono (Below.size (by assumption : Below w1.heap.size w1 _))))
          go_split_ands
          go_wp2_with fail
          go_ret
          exact ⟨g7, c7, rfl, hf7, Below.then HB1.out HB1.out.size (by assumption)⟩

set_option maxHeartbeats 1000000 in
theorem instead_calls (g c g2 c2 p : Nat) (T S : NT) (w : World) (hz : T.size ≤ 300) (hs : S.size ≤ 300) (hc : c ≤ 9223372036854775807) (hp : p ≤ 1000) (hf : FAt w g c (T.form 0)) (hf2 : FAt w g2 c2 (S.form 0)) :
    Calls Try.prog 76 #[.slice (some ⟨g, 0, none⟩) T.size c, .int .i64 (p : Int), .slice (some ⟨g2, 0, none⟩) S.size c2] w (RetN w (T.put (p : Int) S)) := by
  have hT : T.pieces[T.size - 1]? = some T := by
    rw [some_at (by have := T.size_pos; omega)]
    unfold NT.at
    rw [pieces_last]
  have HW := Lib.hid (with_calls g c g2 c2 p T S hz hs hc hp T (T.size - 1) w hf hf2 hT)
  have pT := T.size_pos
  rw [show T.size - 1 + 1 - T.size = 0 by omega, show (p : Int) - ((0 : Nat) : Int) = p by omega, show ((T.size - 1 : Nat) : Int) = (T.size : Int) - 1 by omega] at HW
  clear hf hf2 hT
  go_enter Try.func76, Try.ntmps76
  go_wp2_with fail
  refine HW.out.mono ?_
  rintro e w2 ⟨g', c', rfl, hf', hb'⟩
  go_wp2_with fail
  go_ret
  exact ⟨g', c', rfl, hf', hb'⟩
end Go.Proofs.Ytbmlkomfelkckaa
