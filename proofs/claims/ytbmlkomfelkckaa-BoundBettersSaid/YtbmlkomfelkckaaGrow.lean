/- bound.Grow. -/
import Derived.Test.YtbmlkomfelkckaaGrowP
namespace Go.Proofs.Ytbmlkomfelkckaa
open Go Go.RowKit
set_option maxRecDepth 100000

theorem RdRows.take {w : World} {A : Option Addr} {rows : List (List Int)} (h : RdRows w A rows) (k : Nat) : RdRows w A (rows.take k) := by
  intro i r hi
  rw [List.getElem?_take] at hi
  split at hi
  · exact h i r hi
  · cases hi

theorem FAt.set {w : World} {g c b j n d : Nat} {A : Option Addr} {xs : List Br} (h : FAt w g c xs) (hb : w.cell? ⟨b, 0, none⟩ = some (.slice A n d)) (u : Value) : FAt (w.setCell ⟨b, j, none⟩ u) g c xs := by
  have hne : g ≠ b := by
    rintro rfl
    obtain ⟨x, hx⟩ : ∃ x, xs[0]? = some x := ⟨_, List.getElem?_eq_getElem h.pos⟩
    have := h.cells 0 _ (brs_get xs 0 x hx).1
    rw [hb] at this
    cases this
  exact ⟨h.cap, h.pos, by simpa using h.lt, h.top, fun j u hu => mem_ne (.inl hne) (h.cells j u hu)⟩

/-- What Grow leaves. -/
def RetGrow (w : World) (rows : List (List Int)) (e : Ending) (w' : World) : Prop :=
  Below w.heap.size w w' ∧ if matOk rows = true then ∃ g c, e = .returned (.tuple #[.agg #[.slice (some ⟨g, 0, none⟩) (growN rows (rows.length - 1)).size c], .int .i64 (costOf rows rows.length (growN rows (rows.length - 1)) : Int), .int .i64 0]) ∧ FAt w' g c ((growN rows (rows.length - 1)).form 0)
    else e = .returned (.tuple #[.agg #[.slice none 0 0], .int .i64 0, .int .i64 190])

/-- The best tree so far, and its changes. -/
def BestAt (w : World) (cost : NT → Nat) (acc : Option NT) (v8 v9 : Value) : Prop :=
  match acc with
  | none => v8 = .slice none 0 0 ∧ v9 = .int .i64 0
  | some B => ∃ g c, v8 = .slice (some ⟨g, 0, none⟩) B.size c ∧ v9 = .int .i64 (cost B : Int) ∧ FAt w g c (B.form 0)

theorem leaf_fat (w : World) (k : Nat) : FAt (w.alloc (.cells #[.int .i64 (k : Int), .int .i64 0, .int .i64 0] 64)) w.heap.size 1 ((NT.leaf k).form 0) :=
  ⟨by simp [NT.form], by simp [NT.form], by simp, by omega, fun j u hu => by
    rw [new_cell]
    simpa [NT.form, brs, Br.cells] using hu⟩

set_option maxHeartbeats 4000000 in
theorem grow_all (A2 : Option Addr) (n2 c2 : Nat) (rows : List (List Int)) (w : World) (hr : RdRows w A2 rows) (hn : rows.length = n2) (hnc : n2 ≤ c2) (hcap : c2 ≤ 9223372036854775807) :
    Calls Try.prog 42 #[.agg #[.slice A2 n2 c2]] w (RetGrow w rows) := by
  have HMC := Lib.hid (fun (W : World) (h : Below w.heap.size w W) => mcheck_calls A2 n2 c2 rows W (hr.below h) hn (by omega))
  have hb1 := below_alloc w (.cells #[.slice A2 n2 c2] 36)
  have hb2 := below_alloc (w.alloc (.cells #[.slice A2 n2 c2] 36)) (.cells #[.slice none 0 0] 26)
  have c1 := cell_below hb2 (by simp) (new_cell w #[.slice A2 n2 c2] 36 0)
  have c2' := new_cell (w.alloc (.cells #[.slice A2 n2 c2] 36)) #[.slice none 0 0] 26 0
  have f2 := new_frozen (w.alloc (.cells #[.slice A2 n2 c2] 36)) #[.slice none 0 0] 26 0
  have hz : w.heap.size + 1 < ((w.alloc (.cells #[.slice A2 n2 c2] 36)).alloc (.cells #[.slice none 0 0] 26)).heap.size := by simp
  have HB0 := Lib.hid (Below.then hb1 hb1.size hb2)
  rw [World.size_alloc] at c2' f2
  clear hb1 hb2
  by_cases hm : matOk rows = true
  · have he : errMat rows = 0 := by unfold errMat; rw [if_pos hm]
    rw [he] at HMC
    have HIF : Hid (∀ e w', (Below w.heap.size w w' ∧ ∃ g c, e = .returned (.tuple #[.agg #[.slice (some ⟨g, 0, none⟩) (growN rows (rows.length - 1)).size c], .int .i64 (costOf rows rows.length (growN rows (rows.length - 1)) : Int), .int .i64 0]) ∧ FAt w' g c ((growN rows (rows.length - 1)).form 0)) → RetGrow w rows e w') := by
      refine Lib.hid fun e w' h => ⟨h.1, ?_⟩
      rw [if_pos hm]
      exact h.2
    have hlen : 0 < n2 ∧ n2 ≤ 12 := by
      unfold matOk at hm
      simp at hm
      omega
    have HN := Lib.hid hn
    have HR := Lib.hid hr
    have hnil := fun (W : World) => Lib.run_eql_slice_nil (P := Try.prog) W 123 64 none 0 0 0 0 Try.underlying123
    simp only [Option.isNone_none] at hnil
    have hsl := fun (W : World) (a : Addr) (k q : Nat) => Lib.run_eql_slice_nil (P := Try.prog) W 123 64 (some a) k q 0 0 Try.underlying123
    simp only [Option.isNone_some] at hsl
    clear hm he hn hr
    go_enter Try.func42, Try.ntmps42
    go_wp2_with fail
    refine (HMC.out _ HB0.out).mono ?_
    rintro e w1 ⟨rfl, hb⟩
    have c1 := cell_below hb (by omega) c1
    have c2' := cell_below hb hz c2'
    have f2 := frozen_below hb hz f2
    have HB1 := Lib.hid (Below.then HB0.out HB0.out.size hb)
    have hz1 := Nat.lt_of_lt_of_le hz hb.size
    clear hb hz
    have hb3 := below_alloc w1 (.cells #[.int .i64 0, .int .i64 0, .int .i64 0] 64)
    have HF1 : Hid (FAt (w1.alloc (.cells #[.int .i64 0, .int .i64 0, .int .i64 0] 64)) w1.heap.size 1 ((NT.leaf 0).form 0)) := leaf_fat w1 0
    have HB2 := Lib.hid (Below.then HB1.out HB1.out.size hb3)
    have c1 := cell_below hb3 (by omega) c1
    have c2' := cell_below hb3 hz1 c2'
    have f2 := frozen_below hb3 hz1 f2
    clear hb3
    go_wp2_with fail
    go_loopg [6, 7] n2 (fun gk v6 v7 wr => ∃ (j g c : Nat), v7 = .int .i64 ((j : Int) + 1) ∧ v6 = .slice (some ⟨g, 0, none⟩) (growN rows j).size c ∧ j + 1 ≤ n2 ∧ Hid (gk + (j + 1) = n2 + 1) ∧ Hid (FAt wr g c ((growN rows j).form 0)) ∧ Hid (Below w.heap.size w wr) ∧
      wr.cell? ⟨w.heap.size, 0, none⟩ = some (.slice A2 n2 c2) ∧ wr.cell? ⟨w.heap.size + 1, 0, none⟩ = some (.slice none 0 0) ∧ wr.frozen? ⟨w.heap.size + 1, 0, none⟩ = false ∧ w.heap.size + 1 < wr.heap.size)
    case atStart => exact ⟨0, w1.heap.size, 1, rfl, rfl, by omega, rfl, HF1.out, HB2.out, c1, c2', f2, by simp; omega⟩
    case round =>
      obtain ⟨j, g, c, rfl, rfl, hj, HG, HF, HB, m1, m2, m3, hz3⟩ := hrel
      clear c1 c2' f2 HF1
      obtain ⟨w3, rfl⟩ : ∃ w3 : World, w3 = wr := ⟨_, rfl⟩
      obtain ⟨g1, rfl⟩ : ∃ g1 : Nat, g1 = gk := ⟨_, rfl⟩
      by_cases hjn : j + 1 < n2
      · obtain ⟨hon, hnm⟩ := grow_on rows j (by omega)
        have HB' := Lib.hid (grow_best rows j)
        obtain ⟨T, hT⟩ : ∃ T, growN rows j = T := ⟨_, rfl⟩
        rw [hT] at hon hnm HF HB'
        have hzT := hon.size
        have hjI : (j : Int) + 1 < n2 := by omega
        rw [hT]
        obtain ⟨sz, hsz⟩ : ∃ sz, sz = T.size := ⟨_, rfl⟩
        rw [← hsz] at hzT
        have HSZ := Lib.hid hsz
        have HON := Lib.hid hon
        have HNM := Lib.hid hnm
        have HCB := Lib.hid HF.out.top
        rw [← hsz]
        have hszI : (sz : Int) ≤ 23 := by omega
        have hszp : 0 < sz := by omega
        clear hT hsz hon hnm hzT
        go_wp2_with fail
        go_loopg [8, 9, 30] sz (fun gk v8 v9 v30 wr => ∃ p : Nat, v30 = .int .i64 p ∧ p ≤ sz ∧ Hid (gk + p = sz) ∧ BestAt wr (costOf rows (j + 2)) (bestOf (costOf rows (j + 2)) ((cands T (j + 1)).take p)) v8 v9 ∧ Hid (Below w3.heap.size w3 wr))
        case atStart => exact ⟨0, rfl, Nat.zero_le _, rfl, by simp [BestAt, bestOf], Below.refl _ _⟩
        case round =>
          obtain ⟨p, rfl, hp, HGP, hbest, HBP⟩ := hrel
          have m1' := cell_below HBP.out (by omega) m1
          by_cases hpn : p < sz
          · have hpT : p < T.size := by have := HSZ.out; omega
            have hpI : (p : Int) < (sz : Int) := by omega
            have HNX : Hid ((cands T (j + 1)).take (p + 1) = (cands T (j + 1)).take p ++ [T.hung (p : Int) (j + 1)]) := cands_take T (j + 1) p hpT
            have hpP := some_at hpT
            have hsP := (piece_at T 0 p _ hpP).1
            have HPART : Hid (∀ W : World, Below w3.heap.size w3 W → Calls Try.prog 78 #[.slice (some ⟨g, 0, none⟩) sz c, .int .i64 (p : Int)] W (RetN W (T.at p))) := by
              refine Lib.hid fun W h => ?_
              have := bpart_calls g c p T _ W (HF.out.below h) hpP (by have := HSZ.out; omega) HCB.out
              rw [← HSZ.out] at this
              exact this.mono fun e w' h => RetN.of h
            have HGLU : Hid (∀ (W : World) (g1 c1 g2 c2 : Nat), FAt W g1 c1 ((T.at p).form 0) → FAt W g2 c2 ((NT.leaf (j + 1)).form 0) → Calls Try.prog 77 #[.slice (some ⟨g1, 0, none⟩) (T.at p).size c1, .slice (some ⟨g2, 0, none⟩) 1 c2] W (RetN W (NT.fork (T.at p) (.leaf (j + 1))))) :=
              Lib.hid fun W g1 c1 g2 c2 h1 h2 => (glued_calls g1 c1 g2 c2 (T.at p) (.leaf (j + 1)) W h1 h2 (by have := HSZ.out; omega) (by simp [NT.size])).mono fun e w' h => RetN.of h
            have hons := HON.out.hang (by omega) hpT
            have hR := hangR_put T p (j + 1) hpT
            have hXn := hung_norm HNM.out (p : Int) (j + 1)
            have hSsz : (NT.fork (T.at p) (.leaf (j + 1))).size ≤ 300 := by simp only [NT.size]; have := HSZ.out; omega
            obtain ⟨S, hS⟩ : ∃ S, NT.fork (T.at p) (.leaf (j + 1)) = S := ⟨_, rfl⟩
            rw [hS] at HGLU hR hSsz
            obtain ⟨R, hRR⟩ : ∃ R, T.hangR (p : Int) (j + 1) = R := ⟨_, rfl⟩
            rw [hRR] at hons hR hXn
            have HINS : Hid (∀ (W : World) (g2 c2 : Nat), Below w3.heap.size w3 W → FAt W g2 c2 (S.form 0) → Calls Try.prog 76 #[.slice (some ⟨g, 0, none⟩) sz c, .int .i64 (p : Int), .slice (some ⟨g2, 0, none⟩) S.size c2] W (RetN W R)) := by
              refine Lib.hid fun W g2 c2 h h2 => ?_
              have := instead_calls g c g2 c2 p T S W (by have := HSZ.out; omega) hSsz HCB.out (by omega) (HF.out.below h) h2
              rw [← HSZ.out, ← hR] at this
              exact this
            have HFOR := Lib.hid (fun (W : World) (g c : Nat) (h : FAt W g c (R.form 0)) => formed_calls g c (j + 1 + 1) R W hons h)
            have hXon := hons.norm
            rw [← hXn] at HFOR hXon
            obtain ⟨X, hX⟩ : ∃ X, T.hung (p : Int) (j + 1) = X := ⟨_, rfl⟩
            rw [hX] at HFOR HNX hXon
            have hXz := hXon.size
            have HCHG : Hid (∀ (W : World) (g c : Nat), Below w3.heap.size w3 W → FAt W g c (X.form 0) → Calls Try.prog 79 #[.slice (some ⟨g, 0, none⟩) X.size c, .slice A2 (j + 1 + 1) c2] W fun e w' => e = .returned (.int .i64 (costOf rows (j + 2) X : Int)) ∧ Below W.heap.size W w') :=
              Lib.hid fun W g c h hf => bchanges_calls g c X A2 (j + 1 + 1) c2 (rows.take (j + 2)) W (by omega) hf ((HR.out.below (Below.then HB.out HB.out.size h)).take _) (by rw [List.length_take, HN.out]; omega) (by omega)
            have HLF : Hid (∀ W : World, FAt (W.alloc (.cells #[.int .i64 ((j : Int) + 1), .int .i64 0, .int .i64 0] 64)) W.heap.size 1 ((NT.leaf (j + 1)).form 0)) := Lib.hid fun W => leaf_fat W (j + 1)
            have hc2I : (j : Int) + 1 + 1 ≤ c2 := by omega
            clear hpT hpP hsP hons hR hXn hSsz hS hRR hXon hX hXz
            have HBST := Lib.hid hbest
            clear hbest m2 m3
            go_wp2_with fail
            (with_reducible refine (HPART.out _ HBP.out).mono ?_)
            rintro e w4 ⟨gP, cP, rfl, hfP, hb4⟩
            have hb5 := below_alloc w4 (.cells #[.int .i64 ((j : Int) + 1), .int .i64 0, .int .i64 0] 64)
            have HGL := Lib.hid (HGLU.out _ _ _ _ _ (hfP.below hb5) (HLF.out w4))
            have z4 : w.heap.size < w4.heap.size := by have := hb4.size; have := HBP.out.size; omega
            have m4 := cell_below hb5 (by omega) (cell_below hb4 (by have := HBP.out.size; omega) m1')
            have HB5 := Lib.hid (Below.then (Below.then HBP.out HBP.out.size hb4) (Nat.le_trans HBP.out.size hb4.size) hb5)
            have HBW5 := Lib.hid (Below.then hb4 hb4.size hb5)
            clear hfP hb4 hb5 m1' HGLU HPART
            go_wp2_with fail
            (with_reducible refine HGL.out.mono ?_)
            rintro e w6 ⟨gS, cS, rfl, hfS, hb6⟩
            have m6 := cell_below hb6 (by simp; omega) m4
            have HB6 := Lib.hid (Below.then HB5.out HB5.out.size hb6)
            have HBW6 := Lib.hid (Below.then HBW5.out HBW5.out.size hb6)
            have HI := Lib.hid (HINS.out _ _ _ HB6.out hfS)
            have z6 : w.heap.size < w6.heap.size := by have := hb6.size; simp at this; omega
            clear hfS hb6 m4 HINS HGL
            go_wp2_with fail
            (with_reducible refine HI.out.mono ?_)
            rintro e w7 ⟨gR, cR, rfl, hfR, hb7⟩
            have m7 := cell_below hb7 z6 m6
            have HB7 := Lib.hid (Below.then HB6.out HB6.out.size hb7)
            have HBW7 := Lib.hid (Below.then HBW6.out HBW6.out.size hb7)
            have HO := Lib.hid (HFOR.out _ _ _ hfR)
            have z7 := Nat.lt_of_lt_of_le z6 hb7.size
            clear hfR hb7 m6 HFOR HI
            go_wp2_with fail
            (with_reducible refine HO.out.mono ?_)
            rintro e w8 ⟨gX, cX, rfl, hfX, hb8⟩
            have m8 := cell_below hb8 z7 m7
            have HB8 := Lib.hid (Below.then HB7.out HB7.out.size hb8)
            have HBW8 := Lib.hid (Below.then HBW7.out HBW7.out.size hb8)
            have HC := Lib.hid (HCHG.out _ _ _ HB8.out hfX)
            have HFX := Lib.hid hfX
            clear hfX hb8 m7 HCHG HO
            go_wp2_with fail
            (with_reducible refine HC.out.mono ?_)
            rintro e w9 ⟨rfl, hb9⟩
            have HB9 := Lib.hid (Below.then HB8.out HB8.out.size hb9)
            have HFX9 := Lib.hid (HFX.out.below hb9)
            have HBW9 := Lib.hid (Below.then HBW8.out HBW8.out.size hb9)
            clear hb9 HC HFX m8
            have hbest := HBST.out
            generalize hacc : bestOf (costOf rows (j + 2)) ((cands T (j + 1)).take p) = acc at *
            have HNB : Hid (bestOf (costOf rows (j + 2)) ((cands T (j + 1)).take (p + 1)) = bestStep (costOf rows (j + 2)) acc X) := by
              show _ = _
              rw [HNX.out, bestOf_snoc, hacc]
            cases acc with
            | none =>
              obtain ⟨rfl, rfl⟩ := hbest
              clear hacc HBST
              go_wp2_with fail
              go_roundg (gk - 1)
              case measure => have := HGP.out; omega
              case rel =>
                refine ⟨p + 1, by go_num, by omega, by have := HGP.out; show gk - 1 + (p + 1) = sz; omega, ?_, HB9.out⟩
                rw [HNB.out]
                exact ⟨gX, cX, rfl, rfl, HFX9.out⟩
            | some B =>
              obtain ⟨gB, cB, rfl, rfl, hfB⟩ := hbest
              have HFB := Lib.hid (hfB.below HBW9.out)
              by_cases hlt : costOf rows (j + 2) X < costOf rows (j + 2) B
              · have HNB2 : Hid (bestOf (costOf rows (j + 2)) ((cands T (j + 1)).take (p + 1)) = some X) := by
                  show _ = _
                  rw [HNB.out, bestStep, if_pos hlt]
                have hltI : (costOf rows (j + 2) X : Int) < (costOf rows (j + 2) B : Int) := by omega
                clear hacc HBST hfB hlt
                go_wp2_with fail
                go_roundg (gk - 1)
                case measure => have := HGP.out; omega
                case rel =>
                  refine ⟨p + 1, by go_num, by omega, by have := HGP.out; show gk - 1 + (p + 1) = sz; omega, ?_, HB9.out⟩
                  rw [HNB2.out]
                  exact ⟨gX, cX, rfl, rfl, HFX9.out⟩
              · have HNB2 : Hid (bestOf (costOf rows (j + 2)) ((cands T (j + 1)).take (p + 1)) = some B) := by
                  show _ = _
                  rw [HNB.out, bestStep, if_neg hlt]
                have hltI : ¬ (costOf rows (j + 2) X : Int) < (costOf rows (j + 2) B : Int) := by omega
                clear hacc HBST hfB hlt
                go_wp2_with fail
                go_roundg (gk - 1)
                case measure => have := HGP.out; omega
                case rel =>
                  refine ⟨p + 1, by go_num, by omega, by have := HGP.out; show gk - 1 + (p + 1) = sz; omega, ?_, HB9.out⟩
                  rw [HNB2.out]
                  exact ⟨gB, cB, rfl, rfl, HFB.out⟩
          · have hall : (cands T (j + 1)).take p = cands T (j + 1) := List.take_of_length_le (by rw [cands_length]; have := HSZ.out; omega)
            rw [hall, HB'.out] at hbest
            obtain ⟨gB, cB, rfl, rfl, hfB⟩ := hbest
            have HFB := Lib.hid hfB
            have HBT := Lib.hid (Below.then HB.out HB.out.size HBP.out)
            have m2' := cell_below HBP.out hz3 m2
            have m3' := frozen_below HBP.out hz3 m3
            have hzr : w.heap.size + 1 < wr.heap.size := Nat.lt_of_lt_of_le hz3 HBP.out.size
            clear hall hfB
            go_wp2_with fail
            go_roundg (g1 - 1)
            case measure => have := HG.out; omega
            case rel => exact ⟨j + 1, gB, cB, by go_num, rfl, by omega, by have := HG.out; show g1 - 1 + (j + 1 + 1) = n2 + 1; omega, HFB.out, HBT.out, m1', m2', m3', hzr⟩
      · have hjI : ¬ (j : Int) + 1 < n2 := by omega
        have HJ : Hid (rows.length - 1 = j) := by have := HN.out; show _ = _; omega
        obtain ⟨hon, -⟩ := grow_on rows j (by omega)
        have hzT := hon.size
        have HCH : Hid (Calls Try.prog 79 #[.slice (some ⟨g, 0, none⟩) (growN rows j).size c, .slice A2 n2 c2] w3 fun e w' => e = .returned (.int .i64 (costOf rows rows.length (growN rows j) : Int)) ∧ Below w3.heap.size w3 w') := by
          have := bchanges_calls g c (growN rows j) A2 n2 c2 rows w3 (by omega) HF.out (HR.out.below HB.out) HN.out (by omega)
          unfold costOf
          rw [List.take_length]
          exact this
        clear hjn hj hon hzT
        go_wp2_with fail
        (with_reducible refine HCH.out.mono ?_)
        rintro e w9 ⟨rfl, hb9⟩
        have m2' := cell_below hb9 hz3 m2
        have m3' := frozen_below hb9 hz3 m3
        have HB9 := Lib.hid (Below.then HB.out HB.out.size hb9)
        have HF9 := Lib.hid (HF.out.below hb9)
        clear hb9
        go_wp2_with fail
        have hcell := set_cell_eq m2' (.slice (some ⟨g, 0, none⟩) (growN rows j).size c)
        refine bodyPost_ret (v := .tuple #[.agg #[.slice (some ⟨g, 0, none⟩) (growN rows j).size c], .int .i64 (costOf rows rows.length (growN rows j) : Int), .int .i64 0]) (by simp [results, Try.results42, hcell, go_sem]) rfl ?_
        refine HIF.out _ _ ⟨below_set HB9.out (by omega) _ _, g, c, by rw [HJ.out], ?_⟩
        rw [HJ.out]
        exact HF9.out.set m2' _
  · have he : errMat rows = 190 := by unfold errMat; rw [if_neg hm]
    rw [he] at HMC
    have HIF : Hid (∀ w', Below w.heap.size w w' → RetGrow w rows (.returned (.tuple #[.agg #[.slice none 0 0], .int .i64 0, .int .i64 190])) w') := by
      refine Lib.hid fun w' h => ⟨h, ?_⟩
      rw [if_neg hm]
    clear hm he hn hr
    go_enter Try.func42, Try.ntmps42
    go_wp2_with fail
    refine (HMC.out _ HB0.out).mono ?_
    rintro e w1 ⟨rfl, hb⟩
    have c2' := cell_below hb hz c2'
    have f2 := frozen_below hb hz f2
    have HB1 := Lib.hid (Below.then HB0.out HB0.out.size hb)
    clear hb
    go_wp2_with fail
    have hcell := set_cell_eq c2' (.slice none 0 0)
    exact bodyPost_ret (v := .tuple #[.agg #[.slice none 0 0], .int .i64 0, .int .i64 190]) (by simp [results, Try.results42, hcell, go_sem]) rfl (HIF.out _ (below_set HB1.out (by omega) _ _))
end Go.Proofs.Ytbmlkomfelkckaa
