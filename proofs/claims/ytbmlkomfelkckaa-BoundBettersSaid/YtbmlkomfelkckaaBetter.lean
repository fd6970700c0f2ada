/- bound.Better. -/
import Derived.Test.YtbmlkomfelkckaaNext
namespace Go.Proofs.Ytbmlkomfelkckaa
open Go Go.RowKit
set_option maxRecDepth 100000

/-- As long as the best neighbour has fewer changes. -/
def better (cost : NT → Nat) (T : NT) : NT :=
  match bestOf cost (nbrsUp T T.size) with
  | none => T
  | some X => if cost X < cost T then better cost X else T
termination_by cost T

theorem better_none {cost : NT → Nat} {T : NT} (h : bestOf cost (nbrsUp T T.size) = none) : better cost T = T := by
  rw [better, h]
theorem better_ge {cost : NT → Nat} {T X : NT} (h : bestOf cost (nbrsUp T T.size) = some X) (hc : ¬ cost X < cost T) : better cost T = T := by
  rw [better, h]
  exact if_neg hc
theorem better_lt {cost : NT → Nat} {T X : NT} (h : bestOf cost (nbrsUp T T.size) = some X) (hc : cost X < cost T) : better cost T = better cost X := by
  rw [better, h]
  exact if_pos hc

theorem best_on {cost : NT → Nat} {T X : NT} {n : Nat} (hT : T.On n) (h : bestOf cost (nbrsUp T T.size) = some X) : X.On n ∧ X.Norm := by
  rcases bestOf_mem _ _ _ h with h | h
  · exact nbrs_on hT h
  · cases h

structure BetterOk (cost : NT → Nat) (T B : NT) (n : Nat) : Prop where
  on : B.On n
  norm : B.Norm
  le : cost B ≤ cost T
  again : better cost B = B

theorem better_ok (cost : NT → Nat) (n : Nat) : ∀ (k : Nat) (T : NT), cost T ≤ k → T.On n → T.Norm → BetterOk cost T (better cost T) n := by
  intro k
  induction k with
  | zero =>
    intro T hk h1 h2
    have e : better cost T = T := by
      cases hb : bestOf cost (nbrsUp T T.size) with
      | none => exact better_none hb
      | some X => exact better_ge hb (by omega)
    rw [e]
    exact ⟨h1, h2, Nat.le_refl _, e⟩
  | succ k ih =>
    intro T hk h1 h2
    cases hb : bestOf cost (nbrsUp T T.size) with
    | none =>
      have e := better_none hb
      rw [e]
      exact ⟨h1, h2, Nat.le_refl _, e⟩
    | some X =>
      by_cases hc : cost X < cost T
      · obtain ⟨x1, x2⟩ := best_on h1 hb
        rw [better_lt hb hc]
        obtain ⟨r1, r2, r3, r4⟩ := ih X (by omega) x1 x2
        exact ⟨r1, r2, by omega, r4⟩
      · have e := better_ge hb hc
        rw [e]
        exact ⟨h1, h2, Nat.le_refl _, e⟩

theorem better_all {cost : NT → Nat} {T : NT} {n : Nat} (h1 : T.On n) (h2 : T.Norm) : BetterOk cost T (better cost T) n := better_ok cost n _ T (Nat.le_refl _) h1 h2

/-- What Better leaves. -/
def RetBetter (w : World) (bs : List Br) (rows : List (List Int)) (e : Ending) (w' : World) : Prop :=
  Below w.heap.size w w' ∧ if matOk rows = true then
      match rdRoot (rows.length : Int) bs with
      | some T => ∃ g c, e = .returned (.tuple #[.agg #[.slice (some ⟨g, 0, none⟩) (better (fun T => sumNum (T.form 0) rows) T).size c], .int .i64 (sumNum ((better (fun T => sumNum (T.form 0) rows) T).form 0) rows : Int), .int .i64 0]) ∧ FAt w' g c ((better (fun T => sumNum (T.form 0) rows) T).form 0)
      | none => e = .returned (.tuple #[.agg #[.slice none 0 0], .int .i64 0, .int .i64 200])
    else e = .returned (.tuple #[.agg #[.slice none 0 0], .int .i64 0, .int .i64 190])

theorem root_on {leaves : Nat} {bs : List Br} {T : NT} (h : rdRoot (leaves : Int) bs = some T) (h1 : 1 ≤ leaves) (h12 : leaves ≤ 12) : T.On leaves := by
  obtain ⟨a, b, c⟩ := rdRoot_leaves h
  exact ⟨a, fun k hk => by have := b k hk; omega, by omega, h1, h12⟩

set_option maxHeartbeats 4000000 in
theorem better_calls (A1 : Option Addr) (n1 c1 : Nat) (bs : List Br) (A2 : Option Addr) (n2 c2 : Nat) (rows : List (List Int)) (w : World) (ht : RdBr w A1 bs) (hx : bs.length = n1) (hn1 : n1 ≤ 9223372036854775807) (hr : RdRows w A2 rows) (hn : rows.length = n2) (hcap : n2 ≤ 9223372036854775807) :
    Calls Try.prog 44 #[.agg #[.slice A1 n1 c1], .agg #[.slice A2 n2 c2]] w (RetBetter w bs rows) := by
  have HMC := Lib.hid (fun (W : World) (h : Below w.heap.size w W) => mcheck_calls A2 n2 c2 rows W (hr.below h) hn hcap)
  have HFM := Lib.hid (fun (W : World) (h : Below w.heap.size w W) => form_calls A1 n1 c1 bs (n2 : Int) W (ht.below h) hx hn1 (by omega) (by omega))
  have hb0 := below_alloc w (.cells #[.slice A1 n1 c1] 26)
  have hb1 := below_alloc (w.alloc (.cells #[.slice A1 n1 c1] 26)) (.cells #[.slice A2 n2 c2] 36)
  have hb2 := below_alloc ((w.alloc (.cells #[.slice A1 n1 c1] 26)).alloc (.cells #[.slice A2 n2 c2] 36)) (.cells #[.slice none 0 0] 26)
  have c0 := cell_below hb2 (by simp; omega) (cell_below hb1 (by simp) (new_cell w #[.slice A1 n1 c1] 26 0))
  have c1' := cell_below hb2 (by simp) (new_cell (w.alloc (.cells #[.slice A1 n1 c1] 26)) #[.slice A2 n2 c2] 36 0)
  have c2' := new_cell ((w.alloc (.cells #[.slice A1 n1 c1] 26)).alloc (.cells #[.slice A2 n2 c2] 36)) #[.slice none 0 0] 26 0
  have f2 := new_frozen ((w.alloc (.cells #[.slice A1 n1 c1] 26)).alloc (.cells #[.slice A2 n2 c2] 36)) #[.slice none 0 0] 26 0
  have hz : w.heap.size + 1 + 1 < (((w.alloc (.cells #[.slice A1 n1 c1] 26)).alloc (.cells #[.slice A2 n2 c2] 36)).alloc (.cells #[.slice none 0 0] 26)).heap.size := by simp
  have HB0 := Lib.hid (Below.then (Below.then hb0 hb0.size hb1) (by simp; omega) hb2)
  simp only [World.size_alloc] at c1' c2' f2
  clear hb0 hb1 hb2
  by_cases hm : matOk rows = true
  · have he : errMat rows = 0 := by unfold errMat; rw [if_pos hm]
    rw [he] at HMC
    have hlen : 0 < n2 ∧ n2 ≤ 12 := by
      unfold matOk at hm
      simp at hm
      omega
    have HN := Lib.hid hn
    have HR := Lib.hid hr
    have hnil := fun (W : World) => Lib.run_eql_slice_nil (P := Try.prog) W 123 64 none 0 0 0 0 Try.underlying123
    simp only [Option.isNone_none] at hnil
    have hsl := fun (W : World) (a : Addr) (k q : Nat) => Lib.run_eql_slice_nil (P := Try.prog) W 123 64 (some a) k q 0 0 Try.underlying123
    simp only [Option.isNone_some] at hsl
    cases hrt : rdRoot (n2 : Int) bs with
    | none =>
      rw [hrt] at HFM
      have HIF : Hid (∀ w', Below w.heap.size w w' → RetBetter w bs rows (.returned (.tuple #[.agg #[.slice none 0 0], .int .i64 0, .int .i64 200])) w') := by
        refine Lib.hid fun w' h => ⟨h, ?_⟩
        rw [if_pos hm, hn, hrt]
      clear hm he hn hr ht hx hrt
      go_enter Try.func44, Try.ntmps44
      go_wp2_with fail
      refine (HMC.out _ HB0.out).mono ?_
      rintro e w1 ⟨rfl, hb⟩
      have c0 := cell_below hb (by omega) c0
      have c1' := cell_below hb (by omega) c1'
      have c2' := cell_below hb hz c2'
      have f2 := frozen_below hb hz f2
      have HB1 := Lib.hid (Below.then HB0.out HB0.out.size hb)
      have hz1 := Nat.lt_of_lt_of_le hz hb.size
      clear hb hz
      go_wp2_with fail
      (with_reducible refine (HFM.out _ HB1.out).mono ?_)
      rintro e w2 ⟨hb2, rfl⟩
      have c2' := cell_below hb2 hz1 c2'
      have f2 := frozen_below hb2 hz1 f2
      have HB2 := Lib.hid (Below.then HB1.out HB1.out.size hb2)
      have hz2 := Nat.lt_of_lt_of_le hz1 hb2.size
      clear hb2
      go_wp2_with fail
      have hb3 := below_alloc (w2.setCell ⟨w.heap.size + 1 + 1, 0, none⟩ (.slice none 0 0)) (.cells #[.slice none 0 0] 26)
      have hcell := cell_below hb3 (by simpa using hz2) (set_cell_eq c2' (.slice none 0 0))
      have hbs := below_set HB2.out (show w.heap.size ≤ w.heap.size + 1 + 1 by omega) 0 (.slice none 0 0)
      exact bodyPost_ret (v := .tuple #[.agg #[.slice none 0 0], .int .i64 0, .int .i64 200]) (by simp [results, Try.results44, hcell, go_sem]) rfl (HIF.out _ (Below.then hbs hbs.size hb3))
    | some T =>
      rw [hrt] at HFM
      have hon := root_on hrt hlen.1 hlen.2
      have hnorm := rdRoot_norm hrt
      have HIF : Hid (∀ e w', (Below w.heap.size w w' ∧ ∃ g c, e = .returned (.tuple #[.agg #[.slice (some ⟨g, 0, none⟩) (better (fun T => sumNum (T.form 0) rows) T).size c], .int .i64 (sumNum ((better (fun T => sumNum (T.form 0) rows) T).form 0) rows : Int), .int .i64 0]) ∧ FAt w' g c ((better (fun T => sumNum (T.form 0) rows) T).form 0)) → RetBetter w bs rows e w') := by
        refine Lib.hid fun e w' h => ⟨h.1, ?_⟩
        rw [if_pos hm, hn, hrt]
        exact h.2
      have HCHG := Lib.hid (fun (W : World) (g c : Nat) (S : NT) (hs : S.On n2) (h : Below w.heap.size w W) (hf : FAt W g c (S.form 0)) => bchanges_calls g c S A2 n2 c2 rows W (by have := hs.size; omega) hf (hr.below h) hn hcap)
      have HNXT := Lib.hid (fun (W : World) (g c : Nat) (S : NT) (hs : S.On n2) (h : Below w.heap.size w W) (hf : FAt W g c (S.form 0)) => next_calls g c n2 n2 c2 A2 S rows W hs hf (hr.below h) hn hcap)
      have HON := Lib.hid hon
      have hpT := T.size_pos
      clear hm he hn hr ht hx hrt hon hnorm
      go_enter Try.func44, Try.ntmps44
      go_wp2_with fail
      refine (HMC.out _ HB0.out).mono ?_
      rintro e w1 ⟨rfl, hb⟩
      have c0 := cell_below hb (by omega) c0
      have c1' := cell_below hb (by omega) c1'
      have c2' := cell_below hb hz c2'
      have f2 := frozen_below hb hz f2
      have HB1 := Lib.hid (Below.then HB0.out HB0.out.size hb)
      have hz1 := Nat.lt_of_lt_of_le hz hb.size
      clear hb hz
      go_wp2_with fail
      (with_reducible refine (HFM.out _ HB1.out).mono ?_)
      rintro e w2 ⟨hb2, A3, c3, rfl, ho⟩
      obtain ⟨g3, he, -, -, hf3⟩ := FAt.own ho hpT
      subst he
      have hb3 := below_alloc w2 (.cells #[.slice (some ⟨g3, 0, none⟩) T.size c3] 26)
      have hz2 := Nat.lt_of_lt_of_le hz1 hb2.size
      have c1' := cell_below hb3 (by omega) (cell_below hb2 (by omega) c1')
      have c2' := cell_below hb3 hz2 (cell_below hb2 hz1 c2')
      have f2 := frozen_below hb3 hz2 (frozen_below hb2 hz1 f2)
      have HB3 := Lib.hid (Below.then (Below.then HB1.out HB1.out.size hb2) (by have := HB1.out.size; omega) hb3)
      have HF3 := Lib.hid (hf3.below hb3)
      have q3 := new_cell w2 #[.slice (some ⟨g3, 0, none⟩) T.size c3] 26 0
      have hz3 : w.heap.size + 1 + 1 < (w2.alloc (.cells #[.slice (some ⟨g3, 0, none⟩) T.size c3] 26)).heap.size := by simp; omega
      have HC := Lib.hid (HCHG.out _ g3 c3 T HON.out HB3.out HF3.out)
      clear hb2 hb3 ho hf3 c0
      go_wp2_with fail
      generalize w2.alloc (.cells #[.slice (some ⟨g3, 0, none⟩) T.size c3] 26) = W3 at *
      (with_reducible refine HC.out.mono ?_)
      rintro e w4 ⟨rfl, hb4⟩
      have c1' := cell_below hb4 (by omega) c1'
      have c2' := cell_below hb4 hz3 c2'
      have f2 := frozen_below hb4 hz3 f2
      have HB4 := Lib.hid (Below.then HB3.out HB3.out.size hb4)
      have HF4 := Lib.hid (HF3.out.below hb4)
      have hz4 := Nat.lt_of_lt_of_le hz3 hb4.size
      clear hb4 HC q3
      go_wp2_with fail
      go_loopg [10, 11] (sumNum (T.form 0) rows) (fun gk v10 v11 wr => ∃ (g c : Nat) (S : NT), v10 = .slice (some ⟨g, 0, none⟩) S.size c ∧ v11 = .int .i64 (sumNum (S.form 0) rows : Int) ∧ Hid (gk = sumNum (S.form 0) rows) ∧ Hid (S.On n2) ∧ Hid (better (fun T => sumNum (T.form 0) rows) T = better (fun T => sumNum (T.form 0) rows) S) ∧ Hid (FAt wr g c (S.form 0)) ∧ Hid (Below w.heap.size w wr) ∧
        wr.cell? ⟨w.heap.size + 1, 0, none⟩ = some (.slice A2 n2 c2) ∧ wr.cell? ⟨w.heap.size + 1 + 1, 0, none⟩ = some (.slice none 0 0) ∧ wr.frozen? ⟨w.heap.size + 1 + 1, 0, none⟩ = false ∧ w.heap.size + 1 + 1 < wr.heap.size)
      case atStart => exact ⟨g3, c3, T, rfl, rfl, rfl, HON.out, rfl, HF4.out, HB4.out, c1', c2', f2, hz4⟩
      case round =>
        obtain ⟨g, c, S, rfl, rfl, HG, HS, HE, HF, HB, m1, m2, m3, hz5⟩ := hrel
        clear c1' c2' f2
        have HNX := Lib.hid (HNXT.out _ g c S HS.out HB.out HF.out)
        go_wp2_with fail
        (with_reducible refine HNX.out.mono ?_)
        rintro e w6 ⟨hb6, hret⟩
        have m1 := cell_below hb6 (by omega) m1
        have m2 := cell_below hb6 hz5 m2
        have m3 := frozen_below hb6 hz5 m3
        have HB6 := Lib.hid (Below.then HB.out HB.out.size hb6)
        have HF6 := Lib.hid (HF.out.below hb6)
        have hz6 := Nat.lt_of_lt_of_le hz5 hb6.size
        clear hb6 HNX
        cases hbo : bestOf (fun T => sumNum (T.form 0) rows) (nbrsUp S S.size) with
        | none =>
          rw [hbo] at hret
          subst hret
          have HEE := HE.out.trans (better_none hbo)
          have HEH := Lib.hid HEE
          clear hbo HEE
          go_wp2_with fail
          have hcell := set_cell_eq m2 (.slice (some ⟨g, 0, none⟩) S.size c)
          refine bodyPost_ret (v := .tuple #[.agg #[.slice (some ⟨g, 0, none⟩) S.size c], .int .i64 (sumNum (S.form 0) rows : Int), .int .i64 0]) (by simp [results, Try.results44, hcell, go_sem]) rfl ?_
          refine HIF.out _ _ ⟨below_set HB6.out (by omega) _ _, g, c, by rw [HEH.out], ?_⟩
          rw [HEH.out]
          exact HF6.out.set m2 _
        | some X =>
          rw [hbo] at hret
          obtain ⟨gX, cX, rfl, hfX⟩ := hret
          have HFX := Lib.hid hfX
          by_cases hlt : sumNum (X.form 0) rows < sumNum (S.form 0) rows
          · have hge : ¬ (sumNum (X.form 0) rows : Int) ≥ (sumNum (S.form 0) rows : Int) := by omega
            have HEX := Lib.hid (HE.out.trans (better_lt hbo hlt))
            have HOX := Lib.hid (best_on HS.out hbo).1
            have HLT := Lib.hid hlt
            have hltI : (sumNum (X.form 0) rows : Int) < (sumNum (S.form 0) rows : Int) := by omega
            clear hbo hlt hfX
            go_wp2_with fail
            go_roundg (sumNum (X.form 0) rows)
            case measure => have := HLT.out; have := HG.out; omega
            case rel => exact ⟨gX, cX, X, rfl, rfl, rfl, HOX.out, HEX.out, HFX.out, HB6.out, m1, m2, m3, hz6⟩
          · have hge : (sumNum (X.form 0) rows : Int) ≥ (sumNum (S.form 0) rows : Int) := by omega
            have hltI : ¬ (sumNum (X.form 0) rows : Int) < (sumNum (S.form 0) rows : Int) := by omega
            have HEH := Lib.hid (HE.out.trans (better_ge hbo hlt))
            clear hbo hlt hfX
            go_wp2_with fail
            have hcell := set_cell_eq m2 (.slice (some ⟨g, 0, none⟩) S.size c)
            refine bodyPost_ret (v := .tuple #[.agg #[.slice (some ⟨g, 0, none⟩) S.size c], .int .i64 (sumNum (S.form 0) rows : Int), .int .i64 0]) (by simp [results, Try.results44, hcell, go_sem]) rfl ?_
            refine HIF.out _ _ ⟨below_set HB6.out (by omega) _ _, g, c, by rw [HEH.out], ?_⟩
            rw [HEH.out]
            exact HF6.out.set m2 _
  · have he : errMat rows = 190 := by unfold errMat; rw [if_neg hm]
    rw [he] at HMC
    have HIF : Hid (∀ w', Below w.heap.size w w' → RetBetter w bs rows (.returned (.tuple #[.agg #[.slice none 0 0], .int .i64 0, .int .i64 190])) w') := by
      refine Lib.hid fun w' h => ⟨h, ?_⟩
      rw [if_neg hm]
    clear hm he hn hr ht hx HFM
    go_enter Try.func44, Try.ntmps44
    go_wp2_with fail
    refine (HMC.out _ HB0.out).mono ?_
    rintro e w1 ⟨rfl, hb⟩
    have c2' := cell_below hb hz c2'
    have f2 := frozen_below hb hz f2
    have HB1 := Lib.hid (Below.then HB0.out HB0.out.size hb)
    clear hb
    go_wp2_with fail
    have hcell := set_cell_eq c2' (.slice none 0 0)
    exact bodyPost_ret (v := .tuple #[.agg #[.slice none 0 0], .int .i64 0, .int .i64 190]) (by simp [results, Try.results44, hcell, go_sem]) rfl (HIF.out _ (below_set HB1.out (by omega) _ _))

/-- Better, where the matrix and the tree are right. -/
theorem better_right {A1 : Option Addr} {n1 c1 : Nat} {bs : List Br} {A2 : Option Addr} {n2 c2 : Nat} {rows : List (List Int)} {T : NT} {w : World} (hm : matOk rows = true) (hT : rdRoot (rows.length : Int) bs = some T)
    (ht : RdBr w A1 bs) (hx : bs.length = n1) (hn1 : n1 ≤ 9223372036854775807) (hr : RdRows w A2 rows) (hn : rows.length = n2) (hcap : n2 ≤ 9223372036854775807) :
    Calls Try.prog 44 #[.agg #[.slice A1 n1 c1], .agg #[.slice A2 n2 c2]] w fun e w' => Below w.heap.size w w' ∧ ∃ g c, e = .returned (.tuple #[.agg #[.slice (some ⟨g, 0, none⟩) (better (fun T => sumNum (T.form 0) rows) T).size c], .int .i64 (sumNum ((better (fun T => sumNum (T.form 0) rows) T).form 0) rows : Int), .int .i64 0]) ∧ FAt w' g c ((better (fun T => sumNum (T.form 0) rows) T).form 0) := by
  refine (better_calls A1 n1 c1 bs A2 n2 c2 rows w ht hx hn1 hr hn hcap).mono fun e w' h => ?_
  unfold RetBetter at h
  rw [if_pos hm, hT] at h
  exact h
end Go.Proofs.Ytbmlkomfelkckaa
