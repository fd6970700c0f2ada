/- PROVED: siglumlaw23.BoundBetters returns true for every input, and what it was given reads behind the call as before: its row. CONDITIONS: none. -/
import Derived.Test.YtbmlkomfelkckaaNbrs
import Derived.Test.YtbmlkomfelkckaaBetter
import Derived.Test.YtbmlkomfelkckaaRSite
import Derived.BigQuiet
import Derived.Test.YtbmlkomfelkckaaAwk23
import Derived.Test.YtbmlkomfelkckaaBox
import Derived.Test.YtbmlkomfelkckaaRows
import Derived.Test.YtbmlkomfelkckaaOpen
import Derived.ChangeSame
import Derived.ChangeVars
import Derived.Handed
import Derived.OpenShut
namespace Go.Proofs.Ytbmlkomfelkckaa
open Go Go.RowKit
set_option maxRecDepth 100000

theorem take_snoc' {α : Type} {l : List α} {i : Nat} {x : α} (h : l[i]? = some x) : l.take (i + 1) = l.take i ++ [x] := by
  obtain ⟨hi, he⟩ := List.getElem?_eq_some_iff.1 h
  rw [List.take_succ_eq_append_getElem hi, he]

/-- What the scan of all neighbours says of the whole. -/
theorem scan_end {cost : NT → Nat} {S : NT} {best : Int} {least : Nat} (h : Scan cost (cost S) (nbrsUp S S.size) best least) :
    (best < 0 ∧ best = -1 ∧ least = cost S ∧ better cost S = S) ∨ ∃ (j : Nat) (X : NT), best = (j : Int) ∧ (nbrsUp S S.size)[j]? = some X ∧ least = cost X ∧ cost X < cost S ∧ better cost S = better cost X := by
  rcases h with ⟨h1, h2, h3⟩ | ⟨j, X, h1, h2, h3, h4, h5⟩
  · refine .inl ⟨by omega, h1, h2, ?_⟩
    cases hb : bestOf cost (nbrsUp S S.size) with
    | none => exact better_none hb
    | some B =>
      rcases bestOf_mem _ _ _ hb with hB | hB
      · exact better_ge hb (by have := h3 B hB; omega)
      · cases hB
  · exact .inr ⟨j, X, h1, h2, h3, h4, better_lt h5 h4⟩

theorem scan_on {T X : NT} {n j : Nat} (hT : T.On n) (h : (nbrsUp T T.size)[j]? = some X) : X.On n := (nbrs_on hT (List.mem_of_getElem? h)).1

set_option maxHeartbeats 8000000 in
theorem rbetter_calls (A1 : Option Addr) (n1 c1 : Nat) (bs : List Br) (A2 : Option Addr) (n2 c2 : Nat) (rows : List (List Int)) (w : World) (ht : RdBr w A1 bs) (hx : bs.length = n1) (hn1 : n1 ≤ 9223372036854775807) (hr : RdRows w A2 rows) (hn : rows.length = n2) (hcap : n2 ≤ 9223372036854775807) :
    Calls Try.prog 45 #[.agg #[.slice A1 n1 c1], .agg #[.slice A2 n2 c2]] w (RetBetter w bs rows) := by
  have HMC := Lib.hid (fun (W : World) (h : Below w.heap.size w W) => rmcheck_calls A2 n2 c2 rows W (hr.below h) hn hcap)
  have HFM := Lib.hid (fun (W : World) (h : Below w.heap.size w W) => rform_calls A1 n1 c1 bs (n2 : Int) W (ht.below h) hx hn1)
  have hb0 := below_alloc w (.cells #[.slice A1 n1 c1] 26)
  have hb1 := below_alloc (w.alloc (.cells #[.slice A1 n1 c1] 26)) (.cells #[.slice A2 n2 c2] 36)
  have hb2 := below_alloc ((w.alloc (.cells #[.slice A1 n1 c1] 26)).alloc (.cells #[.slice A2 n2 c2] 36)) (.cells #[.slice none 0 0] 26)
  have c0 := cell_below hb2 (by simp; omega) (cell_below hb1 (by simp) (new_cell w #[.slice A1 n1 c1] 26 0))
  have c1' := cell_below hb2 (by simp) (new_cell (w.alloc (.cells #[.slice A1 n1 c1] 26)) #[.slice A2 n2 c2] 36 0)
  have c2' := new_cell ((w.alloc (.cells #[.slice A1 n1 c1] 26)).alloc (.cells #[.slice A2 n2 c2] 36)) #[.slice none 0 0] 26 0
  have f2 := new_frozen ((w.alloc (.cells #[.slice A1 n1 c1] 26)).alloc (.cells #[.slice A2 n2 c2] 36)) #[.slice none 0 0] 26 0
  have hz : w.heap.size + 1 + 1 < (((w.alloc (.cells #[.slice A1 n1 c1] 26)).alloc (.cells #[.slice A2 n2 c2] 36)).alloc (.cells #[.slice none 0 0] 26)).heap.size := by simp
  have HB0 := Lib.hid (Below.then (Below.then hb0 hb0.size hb1) (by simp; omega) hb2)
  simp only [World.size_alloc] at c1' c2' f2
  clear hb0 hb1 hb2
  by_cases hm : matOk rows = true
  · have he : errMat rows = 0 := by unfold errMat; rw [if_pos hm]
    rw [he] at HMC
    have hlen : 0 < n2 ∧ n2 ≤ 12 := by
      unfold matOk at hm
      simp at hm
      omega
    have HN := Lib.hid hn
    have HR := Lib.hid hr
    cases hrt : rdRoot (n2 : Int) bs with
    | none =>
      rw [hrt] at HFM
      have HIF : Hid (∀ w', Below w.heap.size w w' → RetBetter w bs rows (.returned (.tuple #[.agg #[.slice none 0 0], .int .i64 0, .int .i64 200])) w') := by
        refine Lib.hid fun w' h => ⟨h, ?_⟩
        rw [if_pos hm, hn, hrt]
      clear hm he hn hr ht hx hrt
      go_enter Try.func45, Try.ntmps45
      go_wp2_with fail
      refine (HMC.out _ HB0.out).mono ?_
      rintro e w1 ⟨rfl, hb⟩
      have c0 := cell_below hb (by omega) c0
      have c1' := cell_below hb (by omega) c1'
      have c2' := cell_below hb hz c2'
      have f2 := frozen_below hb hz f2
      have HB1 := Lib.hid (Below.then HB0.out HB0.out.size hb)
      have hz1 := Nat.lt_of_lt_of_le hz hb.size
      clear hb hz
      go_wp2_with fail
      (with_reducible refine (HFM.out _ HB1.out).mono ?_)
      rintro e w2 ⟨hb2, rfl⟩
      have c2' := cell_below hb2 hz1 c2'
      have f2 := frozen_below hb2 hz1 f2
      have HB2 := Lib.hid (Below.then HB1.out HB1.out.size hb2)
      have hz2 := Nat.lt_of_lt_of_le hz1 hb2.size
      clear hb2
      go_wp2_with fail
      have hb3 := below_alloc (w2.setCell ⟨w.heap.size + 1 + 1, 0, none⟩ (.slice none 0 0)) (.cells #[.slice none 0 0] 26)
      have hcell := cell_below hb3 (by simpa using hz2) (set_cell_eq c2' (.slice none 0 0))
      have hbs := below_set HB2.out (show w.heap.size ≤ w.heap.size + 1 + 1 by omega) 0 (.slice none 0 0)
      exact bodyPost_ret (v := .tuple #[.agg #[.slice none 0 0], .int .i64 0, .int .i64 200]) (by simp [results, Try.results45, hcell, go_sem]) rfl (HIF.out _ (Below.then hbs hbs.size hb3))
    | some T =>
      rw [hrt] at HFM
      have hon := root_on hrt hlen.1 hlen.2
      have HIF : Hid (∀ e w', (Below w.heap.size w w' ∧ ∃ g c, e = .returned (.tuple #[.agg #[.slice (some ⟨g, 0, none⟩) (better (fun T => sumNum (T.form 0) rows) T).size c], .int .i64 (sumNum ((better (fun T => sumNum (T.form 0) rows) T).form 0) rows : Int), .int .i64 0]) ∧ FAt w' g c ((better (fun T => sumNum (T.form 0) rows) T).form 0)) → RetBetter w bs rows e w') := by
        refine Lib.hid fun e w' h => ⟨h.1, ?_⟩
        rw [if_pos hm, hn, hrt]
        exact h.2
      have HCHG : Hid (∀ (W : World) (g c : Nat) (S : NT), S.On n2 → Below w.heap.size w W → FAt W g c (S.form 0) → Calls Try.prog 64 #[.agg #[.slice (some ⟨g, 0, none⟩) S.size c], .agg #[.slice A2 n2 c2]] W fun e w' => e = .returned (.tuple #[.int .i64 (sumNum (S.form 0) rows : Int), .int .i64 (errBoth (S.form 0) rows)]) ∧ Below W.heap.size W w') :=
        Lib.hid fun W g c S hs h hf => rsum_calls (some ⟨g, 0, none⟩) S.size c (S.form 0) A2 n2 c2 rows W ⟨hf.rd, NT.form_length S 0, by have := hs.size; have := hs.few; omega, hr.below h, hn, hcap⟩
      have HNB := Lib.hid (fun (W : World) (g c : Nat) (S : NT) (hs : S.On n2) (hf : FAt W g c (S.form 0)) => nbrs_calls g c n2 S W hs hf)
      have HON := Lib.hid hon
      have hpT := T.size_pos
      clear hm he hn hr ht hx hrt hon
      go_enter Try.func45, Try.ntmps45
      go_wp2_with fail
      refine (HMC.out _ HB0.out).mono ?_
      rintro e w1 ⟨rfl, hb⟩
      have c0 := cell_below hb (by omega) c0
      have c1' := cell_below hb (by omega) c1'
      have c2' := cell_below hb hz c2'
      have f2 := frozen_below hb hz f2
      have HB1 := Lib.hid (Below.then HB0.out HB0.out.size hb)
      have hz1 := Nat.lt_of_lt_of_le hz hb.size
      clear hb hz
      go_wp2_with fail
      (with_reducible refine (HFM.out _ HB1.out).mono ?_)
      rintro e w2 ⟨hb2, A3, c3, rfl, ho⟩
      obtain ⟨g3, he, -, -, hf3⟩ := FAt.own ho hpT
      subst he
      have hb3 := below_alloc w2 (.cells #[.slice (some ⟨g3, 0, none⟩) T.size c3] 26)
      have hz2 := Nat.lt_of_lt_of_le hz1 hb2.size
      have c1' := cell_below hb3 (by omega) (cell_below hb2 (by omega) c1')
      have c2' := cell_below hb3 hz2 (cell_below hb2 hz1 c2')
      have f2 := frozen_below hb3 hz2 (frozen_below hb2 hz1 f2)
      have HB3 := Lib.hid (Below.then (Below.then HB1.out HB1.out.size hb2) (by have := HB1.out.size; omega) hb3)
      have HF3 := Lib.hid (hf3.below hb3)
      have q3 := new_cell w2 #[.slice (some ⟨g3, 0, none⟩) T.size c3] 26 0
      have k3 := new_frozen w2 #[.slice (some ⟨g3, 0, none⟩) T.size c3] 26 0
      have hz3 : w2.heap.size < (w2.alloc (.cells #[.slice (some ⟨g3, 0, none⟩) T.size c3] 26)).heap.size := by simp
      have HC := Lib.hid (HCHG.out _ g3 c3 T HON.out HB3.out HF3.out)
      obtain ⟨bf, hbf⟩ : ∃ bf, bf = w2.heap.size := ⟨_, rfl⟩
      have hbfz : w.heap.size + 2 < bf := by omega
      clear hb2 hb3 ho hf3 c0
      go_wp2_with fail
      generalize w2.alloc (.cells #[.slice (some ⟨g3, 0, none⟩) T.size c3] 26) = W3 at *
      (with_reducible refine HC.out.mono ?_)
      rintro e w4 ⟨rfl, hb4⟩
      rw [← hbf] at q3 k3 hz3 ⊢
      have c1' := cell_below hb4 (by omega) c1'
      have c2' := cell_below hb4 (by omega) c2'
      have f2 := frozen_below hb4 (by omega) f2
      have q3 := cell_below hb4 hz3 q3
      have k3 := frozen_below hb4 hz3 k3
      have HB4 := Lib.hid (Below.then HB3.out HB3.out.size hb4)
      have HF4 := Lib.hid (HF3.out.below hb4)
      have hz4 := Nat.lt_of_lt_of_le hz3 hb4.size
      clear hb4 HC hbf
      go_wp2_with fail
      go_loopg [10] (sumNum (T.form 0) rows) (fun gk v10 wr => ∃ (g c : Nat) (S : NT), wr.cell? ⟨bf, 0, none⟩ = some (.slice (some ⟨g, 0, none⟩) S.size c) ∧ v10 = .int .i64 (sumNum (S.form 0) rows : Int) ∧ Hid (gk = sumNum (S.form 0) rows) ∧ Hid (S.On n2) ∧ Hid (better (fun T => sumNum (T.form 0) rows) T = better (fun T => sumNum (T.form 0) rows) S) ∧ Hid (FAt wr g c (S.form 0)) ∧ Hid (Below w.heap.size w wr) ∧
        wr.cell? ⟨w.heap.size + 1, 0, none⟩ = some (.slice A2 n2 c2) ∧ wr.cell? ⟨w.heap.size + 1 + 1, 0, none⟩ = some (.slice none 0 0) ∧ wr.frozen? ⟨w.heap.size + 1 + 1, 0, none⟩ = false ∧ wr.frozen? ⟨bf, 0, none⟩ = false ∧ bf < wr.heap.size)
      case atStart => exact ⟨g3, c3, T, q3, rfl, rfl, HON.out, rfl, HF4.out, HB4.out, c1', c2', f2, k3, hz4⟩
      case round =>
        obtain ⟨g, c, S, q3, rfl, HG, HS, HE, HF, HB, m1, m2, m3, k3, hz5⟩ := hrel
        clear c1' c2' f2
        have HNX := Lib.hid (HNB.out _ g c S HS.out HF.out)
        obtain ⟨L, hL⟩ : ∃ L, nbrsUp S S.size = L := ⟨_, rfl⟩
        rw [hL] at HNX
        have hlen : L.length ≤ 100 := by
          have h1 := nbrsUp_len S S.size
          have h2 := HS.out.size
          have h3 := HS.out.few
          rw [hL] at h1
          omega
        have HL := Lib.hid hL
        obtain ⟨c0, hc0⟩ : ∃ c0, sumNum (S.form 0) rows = c0 := ⟨_, rfl⟩
        rw [hc0]
        have HC0 := Lib.hid hc0
        clear hL hc0
        go_wp2_with fail
        (with_reducible refine HNX.out.mono ?_)
        rintro e w6 ⟨hb6, A6, c6, vs, rfl, hT6⟩
        have q3 := cell_below hb6 hz5 q3
        have k3 := frozen_below hb6 hz5 k3
        have m1 := cell_below hb6 (by omega) m1
        have m2 := cell_below hb6 (by omega) m2
        have m3 := frozen_below hb6 (by omega) m3
        have HB6 := Lib.hid (Below.then HB.out HB.out.size hb6)
        have HF6 := Lib.hid (HF.out.below hb6)
        have HT6 := Lib.hid hT6
        have hz6 := Nat.lt_of_lt_of_le hz5 hb6.size
        obtain ⟨ln, hln⟩ : ∃ ln, L.length = ln := ⟨_, rfl⟩
        have HLN := Lib.hid hln
        rw [hln] at hlen HT6 ⊢
        obtain ⟨gk0, rfl⟩ : ∃ g, g = gk := ⟨_, rfl⟩
        obtain ⟨bb, hbb⟩ : ∃ b, wr.heap.size = b := ⟨_, rfl⟩
        rw [hbb] at HT6
        clear hb6 HNX hT6 hln hbb
        go_wp2_with fail
        go_loopg [13, 14, 15] ln (fun gk v13 v14 v15 wk => ∃ (i : Nat) (best : Int) (least : Nat), v13 = .int .i64 best ∧ v14 = .int .i64 (least : Int) ∧ v15 = .int .i64 (i : Int) ∧ i ≤ ln ∧ ln - i ≤ gk ∧ Hid (Scan (fun T => sumNum (T.form 0) rows) c0 (L.take i) best least) ∧ -1 ≤ best ∧ best ≤ 100 ∧ Hid (Below w6.heap.size w6 wk))
        case atStart => exact ⟨0, -1, c0, rfl, rfl, rfl, Nat.zero_le _, by omega, Scan.start _ _, by omega, by omega, Below.refl _ _⟩
        case round =>
          obtain ⟨i, best, least, rfl, rfl, rfl, hi, hgk, HSC, hb1', hb2', HW⟩ := hrel
          have q3' := cell_below HW.out hz6 q3
          have k3' := frozen_below HW.out hz6 k3
          have m1' := cell_below HW.out (by omega) m1
          have m2' := cell_below HW.out (by omega) m2
          have m3' := frozen_below HW.out (by omega) m3
          by_cases hil : i < ln
          · have hiI : (i : Int) < (ln : Int) := by omega
            obtain ⟨X, hX⟩ : ∃ X, L[i]? = some X := ⟨_, List.getElem?_eq_getElem (by rw [HLN.out]; exact hil)⟩
            obtain ⟨gX, cX, hvX, hfX⟩ := HT6.out.rows i X hX
            obtain ⟨gl, rfl, hgl, -, hcl⟩ := own_at (by have := HT6.out.own; rw [HLN.out] at this; exact this) (by omega)
            have hce := hcl i _ hvX
            rw [add_plain] at hce
            have hXon := scan_on (j := i) HS.out (by rw [HL.out]; exact hX)
            have HSX := Lib.hid (fun (W : World) (h : Below w6.heap.size w6 W) => HCHG.out W gX cX X hXon (Below.then HB6.out HB6.out.size h) (hfX.below h))
            have HTK := Lib.hid (take_snoc' hX)
            clear hX hvX hfX hcl hXon q3 k3 m2 m3
            obtain ⟨cx, hcx⟩ : ∃ cx, sumNum (X.form 0) rows = cx := ⟨_, rfl⟩
            rw [hcx] at HSX
            have HCX := Lib.hid hcx
            have hcapI : (ln : Int) ≤ (c6 : Int) := by
              obtain ⟨_, _, he, hle⟩ := own_slice HT6.out.own
              have := HLN.out
              obtain ⟨-, -, rfl⟩ : (some ⟨gl, 0, none⟩ : Option Addr) = _ ∧ ln = L.length ∧ c6 = _ := by simpa [eq_comm] using he
              omega
            clear hcx
            go_upto_region 14 with (fail)
            have e1 : ∀ s : Later wr, s.W.cell? ⟨gl, i, none⟩ = some (.slice (some ⟨gX, 0, none⟩) X.size cX) := fun s => cell_below s.below (Nat.lt_of_lt_of_le hgl HW.out.size) (cell_below HW.out hgl hce)
            have e2 : ∀ s : Later wr, s.W.cell? ⟨w.heap.size + 1, 0, none⟩ = some (.slice A2 n2 c2) := fun s => cell_below s.below (by have := HW.out.size; omega) m1'
            have HS1 := Lib.hid (fun s : Later wr => (HSX.out s.W (Below.then HW.out HW.out.size s.below)).mono (R' := fun e w' => e = .returned (.tuple #[.int .i64 (cx : Int), .int .i64 (errBoth (X.form 0) rows)]) ∧ ∃ s : Later wr, w' = s.W) (fun e w' ⟨he, hb⟩ => ⟨he, ⟨w', Below.then s.below s.below.size hb⟩, rfl⟩))
            clear hce m1 q3' k3' m1' m2' m3'
            refine wp_quiet_below (w := wr) (by kernel_rfl) (by kernel_rfl) ?_
            repeat (go_big_quiet_step (exact HS1.out _))
            refine wpQuiet_nil ?_
            rintro w8 ⟨⟨_, hb8⟩, rfl⟩
            have HW8 := Lib.hid (Below.then HW.out HW.out.size hb8)
            clear e1 e2 HS1 hb8
            by_cases hlt : cx < least
            · have hltI : (cx : Int) < (least : Int) := by omega
              have HN2 : Hid (Scan (fun T => sumNum (T.form 0) rows) c0 (L.take (i + 1)) (i : Int) cx) := by
                have h1 : Scan (fun T => sumNum (T.form 0) rows) c0 (L.take i ++ [X]) ((L.take i).length : Int) (sumNum (X.form 0) rows) := HSC.out.hit (X := X) (by show sumNum _ _ < least; rw [HCX.out]; exact hlt)
                rw [HTK.out]
                have h2 : (L.take i).length = i := by rw [List.length_take, HLN.out]; omega
                rw [h2] at h1
                rw [HCX.out] at h1
                exact h1
              clear hlt
              go_wp2_with fail
              go_roundg (gk - 1)
              case measure => omega
              case rel => exact ⟨i + 1, (i : Int), cx, rfl, rfl, by go_num, by omega, by omega, HN2.out, by omega, by omega, HW8.out⟩
            · have hltI : ¬ (cx : Int) < (least : Int) := by omega
              have HN2 : Hid (Scan (fun T => sumNum (T.form 0) rows) c0 (L.take (i + 1)) best least) := by
                have h1 := HSC.out.miss (X := X) (by show ¬ sumNum _ _ < least; rw [HCX.out]; exact hlt)
                rw [HTK.out]
                exact h1
              clear hlt
              go_wp2_with fail
              go_roundg (gk - 1)
              case measure => omega
              case rel => exact ⟨i + 1, best, least, rfl, rfl, by go_num, by omega, by omega, HN2.out, by omega, by omega, HW8.out⟩
          · obtain rfl : i = ln := by omega
            have hiI : ¬ (i : Int) < (i : Int) := by omega
            have hsc := HSC.out
            rw [List.take_of_length_le (by rw [HLN.out]; exact Nat.le_refl _), ← HC0.out, ← HL.out] at hsc
            clear HSC q3 k3 m1 m2 m3
            rcases scan_end (cost := fun T => sumNum (T.form 0) rows) hsc with ⟨n1', n2', n3, n4⟩ | ⟨j, X, rfl, hX, n3, n4, n5⟩
            · have HEE := Lib.hid (HE.out.trans n4)
              have HF8 := Lib.hid (HF6.out.below HW.out)
              have HB8 := Lib.hid (Below.then HB6.out HB6.out.size HW.out)
              have HN3 := Lib.hid (n3.trans HC0.out)
              clear n2' n3 n4 hsc
              go_wp2_with fail
              have hcell := set_cell_eq m2' (.slice (some ⟨g, 0, none⟩) S.size c)
              refine bodyPost_ret (v := .tuple #[.agg #[.slice (some ⟨g, 0, none⟩) S.size c], .int .i64 (c0 : Int), .int .i64 0]) (by simp [results, Try.results45, hcell, go_sem]) rfl ?_
              refine HIF.out _ _ ⟨below_set HB8.out (by omega) _ _, g, c, by rw [HEE.out, HC0.out], ?_⟩
              rw [HEE.out]
              exact HF8.out.set m2' _
            · have hj : ¬ (j : Int) < 0 := by omega
              have HXon := Lib.hid (scan_on HS.out hX)
              rw [HL.out] at hX
              obtain ⟨gX, cX, hvX, hfX⟩ := HT6.out.rows j X hX
              have hjl := (List.getElem?_eq_some_iff.1 hX).1
              rw [HLN.out] at hjl
              obtain ⟨gl, rfl, hgl, -, hcl⟩ := own_at (by have := HT6.out.own; rw [HLN.out] at this; exact this) (by omega)
              have hce := hcl j _ hvX
              rw [add_plain] at hce
              have hce := cell_below HW.out hgl hce
              have HFX := Lib.hid (hfX.below HW.out)
              have HB8 := Lib.hid (Below.then HB6.out HB6.out.size HW.out)
              have HEX := Lib.hid (HE.out.trans n5)
              have HLT := Lib.hid n4
              have hjI : (j : Int) < (i : Int) := by omega
              have hz8 := Nat.lt_of_lt_of_le hz6 HW.out.size
              have HN3 := Lib.hid n3
              have hset := set_cell_eq q3' (.slice (some ⟨gX, 0, none⟩) X.size cX)
              have s1 : (wr.setCell ⟨bf, 0, none⟩ (.slice (some ⟨gX, 0, none⟩) X.size cX)).cell? ⟨w.heap.size + 1, 0, none⟩ = some (.slice A2 n2 c2) := mem_ne (.inl (by show w.heap.size + 1 ≠ bf; omega)) m1'
              have s2 : (wr.setCell ⟨bf, 0, none⟩ (.slice (some ⟨gX, 0, none⟩) X.size cX)).cell? ⟨w.heap.size + 1 + 1, 0, none⟩ = some (.slice none 0 0) := mem_ne (.inl (by show w.heap.size + 1 + 1 ≠ bf; omega)) m2'
              clear n3 n4 n5 hsc hX hvX hfX hcl hjl
              go_wp2_with fail
              go_roundg (sumNum (X.form 0) rows)
              case measure => have h1 := HLT.out; have h2 := HG.out; omega
              case rel => exact ⟨gX, cX, X, hset, by rw [HN3.out], rfl, HXon.out, HEX.out, HFX.out.set q3' _, below_set HB8.out (by omega) _ _, s1, s2, (frozen_set _ _ _ _).trans m3', (frozen_set _ _ _ _).trans k3', by rw [World.size_setCell]; omega⟩
  · have he : errMat rows = 190 := by unfold errMat; rw [if_neg hm]
    rw [he] at HMC
    have HIF : Hid (∀ w', Below w.heap.size w w' → RetBetter w bs rows (.returned (.tuple #[.agg #[.slice none 0 0], .int .i64 0, .int .i64 190])) w') := by
      refine Lib.hid fun w' h => ⟨h, ?_⟩
      rw [if_neg hm]
    clear hm he hn hr ht hx HFM
    go_enter Try.func45, Try.ntmps45
    go_wp2_with fail
    refine (HMC.out _ HB0.out).mono ?_
    rintro e w1 ⟨rfl, hb⟩
    have c2' := cell_below hb hz c2'
    have f2 := frozen_below hb hz f2
    have HB1 := Lib.hid (Below.then HB0.out HB0.out.size hb)
    clear hb
    go_wp2_with fail
    have hcell := set_cell_eq c2' (.slice none 0 0)
    exact bodyPost_ret (v := .tuple #[.agg #[.slice none 0 0], .int .i64 0, .int .i64 190]) (by simp [results, Try.results45, hcell, go_sem]) rfl (HIF.out _ (below_set HB1.out (by omega) _ _))
end Go.Proofs.Ytbmlkomfelkckaa

namespace Go.Proofs.Ytbmlkomfelkckaa
open Go Go.RowKit
set_option maxRecDepth 100000

set_option maxHeartbeats 4000000 in
theorem betters_walk (A : Option Addr) (n c : Nat) (A2 : Option Addr) (n2 c2 : Nat) (w : World) (A3 : World → Nat → Nat → Option Addr) (sz : Nat) (P : World → Nat → Nat → Prop) (v e : Int)
    (hP : ∀ W W' g k, P W g k → Below W.heap.size W W' → P W' g k)
    (hs : ∀ (W : World) (g1 k1 g2 k2 : Nat), P W g1 k1 → P W g2 k2 → Calls Try.prog 24 #[.agg #[.slice (A3 W g1 k1) sz k1], .agg #[.slice (A3 W g2 k2) sz k2]] W fun e w' => e = .returned (.bool true) ∧ Below W.heap.size W w')
    (hA : ∀ W W' g k, A3 W g k = A3 W' g k)
    (h1 : ∀ W, Below w.heap.size w W → Calls Try.prog 44 #[.agg #[.slice A n c], .agg #[.slice A2 n2 c2]] W fun e' w' => Below W.heap.size W w' ∧ ∃ g k, e' = .returned (.tuple #[.agg #[.slice (A3 w' g k) sz k], .int .i64 v, .int .i64 e]) ∧ P w' g k)
    (h2 : ∀ W, Below w.heap.size w W → Calls Try.prog 45 #[.agg #[.slice A n c], .agg #[.slice A2 n2 c2]] W fun e' w' => Below W.heap.size W w' ∧ ∃ g k, e' = .returned (.tuple #[.agg #[.slice (A3 w' g k) sz k], .int .i64 v, .int .i64 e]) ∧ P w' g k) :
    Calls Try.prog 14 #[.agg #[.slice A n c], .agg #[.slice A2 n2 c2]] w fun e w' => e = .returned (.bool true) ∧ Below w.heap.size w w' := by
  have b0 := below_alloc w (.cells #[.slice A n c] 26)
  have b1 := below_alloc (w.alloc (.cells #[.slice A n c] 26)) (.cells #[.slice A2 n2 c2] 36)
  have i0 := cell_below b1 (by simp) (new_cell w #[.slice A n c] 26 0)
  have i1 := new_cell (w.alloc (.cells #[.slice A n c] 26)) #[.slice A2 n2 c2] 36 0
  have hz : w.heap.size + 1 < ((w.alloc (.cells #[.slice A n c] 26)).alloc (.cells #[.slice A2 n2 c2] 36)).heap.size := by simp
  have HB0 := Lib.hid (Below.then b0 b0.size b1)
  rw [World.size_alloc] at i1
  have HA := Lib.hid (awake23 ((w.alloc (.cells #[.slice A n c] 26)).alloc (.cells #[.slice A2 n2 c2] 36)))
  have HP := Lib.hid hP
  have HS := Lib.hid hs
  have HAA := Lib.hid hA
  have H1 := Lib.hid h1
  have H2 := Lib.hid h2
  have f1 : ((v : Int) == v) = true := by simp
  have f2 : ((e : Int) == e) = true := by simp
  clear b0 b1 hP hs hA h1 h2
  go_enter Try.func14, Try.ntmps14
  go_wp2_with fail
  refine HA.out.mono ?_
  rintro _ w1 ⟨rfl, hb1⟩
  have i0 := cell_below hb1 (by omega) i0
  have i1 := cell_below hb1 (by omega) i1
  have HB1 := Lib.hid (Below.then HB0.out HB0.out.size hb1)
  have hz1 := Nat.lt_of_lt_of_le hz hb1.size
  clear hb1 hz HA
  go_wp2_with fail
  (with_reducible refine (H1.out _ HB1.out).mono ?_)
  rintro _ w2 ⟨hb2, g2, k2, rfl, hf2⟩
  generalize hv2 : A3 w2 g2 k2 = v2 at *
  have HV2 := Lib.hid hv2
  have hb3 := below_alloc w2 (.cells #[.slice v2 sz k2] 26)
  have q2 := new_cell w2 #[.slice v2 sz k2] 26 0
  have hz2 := hb2.size
  have i0 := cell_below hb3 (by omega) (cell_below hb2 (by omega) i0)
  have i1 := cell_below hb3 (by omega) (cell_below hb2 (by omega) i1)
  have HB3 := Lib.hid (Below.then (Below.then HB1.out HB1.out.size hb2) (by omega) hb3)
  have HF2 := Lib.hid (HP.out _ _ _ _ hf2 hb3)
  have hz3 : w2.heap.size < (w2.alloc (.cells #[.slice v2 sz k2] 26)).heap.size := by simp
  clear hb2 hb3 hf2 hv2
  go_wp2_with fail
  generalize w2.alloc (.cells #[.slice v2 sz k2] 26) = W3 at *
  (with_reducible refine (H2.out _ HB3.out).mono ?_)
  rintro _ w4 ⟨hb4, g4, k4, rfl, hf4⟩
  generalize hv4 : A3 w4 g4 k4 = v4 at *
  have HV4 := Lib.hid hv4
  have hb5 := below_alloc w4 (.cells #[.slice v4 sz k4] 26)
  have q4 := new_cell w4 #[.slice v4 sz k4] 26 0
  have hz4 := hb4.size
  have q2 := cell_below hb5 (by omega) (cell_below hb4 (by omega) q2)
  have HB5 := Lib.hid (Below.then (Below.then HB3.out HB3.out.size hb4) (by omega) hb5)
  have HF4 := Lib.hid (HP.out _ _ _ _ hf4 hb5)
  have HF2 := Lib.hid (HP.out _ _ _ _ (HP.out _ _ _ _ HF2.out hb4) hb5)
  have hz5 : w4.heap.size < (w4.alloc (.cells #[.slice v4 sz k4] 26)).heap.size := by simp
  clear hb4 hb5 hf4 hv4
  go_wp2_with fail
  generalize w4.alloc (.cells #[.slice v4 sz k4] 26) = W5 at *
  have HSA := HS.out _ _ _ _ _ HF2.out HF4.out
  rw [HAA.out W5 w2, HAA.out W5 w4, HV2.out, HV4.out] at HSA
  (with_reducible refine HSA.mono ?_)
  rintro _ w6 ⟨rfl, hb6⟩
  have HB6 := Lib.hid (Below.then HB5.out HB5.out.size hb6)
  clear hb6
  go_wp2_with fail
  go_ret
  exact ⟨rfl, HB6.out⟩

theorem betters_calls (A : Option Addr) (n c : Nat) (bs : List Br) (A2 : Option Addr) (n2 c2 : Nat) (rows : List (List Int)) (w : World) (hb : RdBr w A bs) (hbn : bs.length = n) (hbc : n ≤ 9223372036854775807)
    (hr : RdRows w A2 rows) (hn : rows.length = n2) (hcap : n2 ≤ 9223372036854775807) :
    Calls Try.prog 14 #[.agg #[.slice A n c], .agg #[.slice A2 n2 c2]] w fun e w' => e = .returned (.bool true) ∧ Below w.heap.size w w' := by
  have H1 : ∀ W, Below w.heap.size w W → Calls Try.prog 44 #[.agg #[.slice A n c], .agg #[.slice A2 n2 c2]] W (RetBetter W bs rows) := fun W h => better_calls A n c bs A2 n2 c2 rows W (hb.below h) hbn hbc (hr.below h) hn hcap
  have H2 : ∀ W, Below w.heap.size w W → Calls Try.prog 45 #[.agg #[.slice A n c], .agg #[.slice A2 n2 c2]] W (RetBetter W bs rows) := fun W h => rbetter_calls A n c bs A2 n2 c2 rows W (hb.below h) hbn hbc (hr.below h) hn hcap
  have hnil : ∀ (W : World) (_ _ _ _ : Nat), True → True → Calls Try.prog 24 #[.agg #[.slice none 0 0], .agg #[.slice none 0 0]] W fun e w' => e = .returned (.bool true) ∧ Below W.heap.size W w' :=
    fun W _ _ _ _ _ _ => same_calls none none 0 0 0 [] W (fun i x hi => by simp at hi) (fun i x hi => by simp at hi) rfl (by omega)
  by_cases hm : matOk rows = true
  · cases hrt : rdRoot (rows.length : Int) bs with
    | none =>
      refine betters_walk A n c A2 n2 c2 w (fun _ _ _ => none) 0 (fun _ _ k => k = 0) 0 200 (fun _ _ _ _ h _ => h) (fun W g1 k1 g2 k2 h1 h2 => by subst h1; subst h2; exact hnil W 0 0 0 0 trivial trivial) (fun _ _ _ _ => rfl) (fun W h => (H1 W h).mono fun e w' h => ?_) (fun W h => (H2 W h).mono fun e w' h => ?_)
      all_goals
        unfold RetBetter at h
        rw [if_pos hm, hrt] at h
        exact ⟨h.1, 0, 0, h.2, rfl⟩
    | some T =>
      have hon := root_on hrt (by unfold matOk at hm; simp at hm; omega) (by unfold matOk at hm; simp at hm; omega)
      have hB := (better_all (cost := fun T => sumNum (T.form 0) rows) hon (rdRoot_norm hrt)).on
      have hz := hB.size
      have hfew := hB.few
      refine betters_walk A n c A2 n2 c2 w (fun _ g _ => some ⟨g, 0, none⟩) (better (fun T => sumNum (T.form 0) rows) T).size (fun W g k => FAt W g k ((better (fun T => sumNum (T.form 0) rows) T).form 0)) (sumNum ((better (fun T => sumNum (T.form 0) rows) T).form 0) rows : Int) 0 (fun _ _ _ _ h hb => h.below hb)
        (fun W g1 k1 g2 k2 h1 h2 => same_calls (some ⟨g1, 0, none⟩) (some ⟨g2, 0, none⟩) _ k1 k2 _ W h1.rd h2.rd (NT.form_length _ 0) (by omega)) (fun _ _ _ _ => rfl) (fun W h => (H1 W h).mono fun e w' h => ?_) (fun W h => (H2 W h).mono fun e w' h => ?_)
      all_goals
        unfold RetBetter at h
        rw [if_pos hm, hrt] at h
        exact h
  · refine betters_walk A n c A2 n2 c2 w (fun _ _ _ => none) 0 (fun _ _ k => k = 0) 0 190 (fun _ _ _ _ h _ => h) (fun W g1 k1 g2 k2 h1 h2 => by subst h1; subst h2; exact hnil W 0 0 0 0 trivial trivial) (fun _ _ _ _ => rfl) (fun W h => (H1 W h).mono fun e w' h => ?_) (fun W h => (H2 W h).mono fun e w' h => ?_)
    all_goals
      unfold RetBetter at h
      rw [if_neg hm] at h
      exact ⟨h.1, 0, 0, h.2, rfl⟩
end Go.Proofs.Ytbmlkomfelkckaa

namespace Go.Proofs.Ytbmlkomfelkckaa
open Go Go.ChangeShapes Go.WideShapes Go.ChangeAt Go.RowKit
set_option maxRecDepth 100000

theorem own : ownKnob Try.prog.godebug = none := by kernel_rfl
theorem laidOut : laidOutB Try.prog = true := by kernel_rfl
theorem wf_lo {n : Int} (h : (Lit.int .i64 n).wf = true) : -9223372036854775808 ≤ n ∧ n ≤ 9223372036854775807 := by
  have e1 : IntKind.i64.min = -9223372036854775808 := rfl
  have e2 : IntKind.i64.max = 9223372036854775807 := rfl
  have h' : (decide (IntKind.i64.min ≤ n) && decide (n ≤ IntKind.i64.max)) = true := h
  rw [e1, e2, Bool.and_eq_true, decide_eq_true_eq, decide_eq_true_eq] at h'
  exact h'

theorem betters_lifted (os : Os) (started : os.Started) (H : Type) (enc : TypeId × Value → H) :
    ReturnsInHanded {} Try.checked os 14 .any (Rows.boundBettersSpec.pre6 enc Try.prog Try.f14 Rows.boundBettersRow.domain false) (Rows.boundBettersSpec.post enc Try.prog Try.f14 false true false false) := by
  refine returnsInHanded_of_change (C := Try.checked) own started (by kernel_rfl) Try.func14
    (ChangeSpec.witness6 (enc := enc) (C := Try.checked) false ⟨#[], #[.agg #[.slice none 0 0], .agg #[.slice none 0 0]], []⟩ 8 (by kernel_rfl) (by kernel_rfl) (by kernel_rfl) (by kernel_rfl)) ?_
  intro W base args ds gs before hval0 hW _ _
  have hval : ∀ (j : Nat) t v, Try.f14.params[j]? = some t → args[j]? = some v → Value.okWide Try.prog W .any base t v := hval0
  have hW' := hW
  obtain ⟨p, q, hA0, hV, rfl, hfz, hnd⟩ := hW
  have hA : DataW.TrodAll enc Try.prog W 0 (fun _ => true) true Try.f14.params.toList args.toList ds p := hA0
  rw [Try.params14] at hA hval
  obtain ⟨v0, vs0, d0, ds0, p0, q0, hargs, rfl, rfl, h0, r0⟩ := trodAll_cons hA
  obtain ⟨v1, vs1, d1, ds1, p1, q1, rfl, rfl, rfl, h1, r1⟩ := trodAll_cons r0
  obtain ⟨rfl, rfl, rfl⟩ := trodAll_nil r1
  obtain rfl : args = #[v0, v1] := by cases args; simp_all
  obtain ⟨rfl, rfl⟩ := trodVars_none hV
  obtain ⟨A0, n0, c0, bs0, rfl, hbr0, hn0, hcap0⟩ := open_tree (hval 0 26 v0 rfl rfl) h0
  have lt0 : ∀ x ∈ p0, x.block < W.heap.size := by obtain ⟨m, hm⟩ := h0; exact DataW.trod_lt m _ _ _ hm
  obtain ⟨A1, n1, c1, rows1, rfl, hbr1, hn1, hcap1⟩ := open_matrix (hval 1 36 v1 rfl rfl) h1
  have lt1 : ∀ x ∈ p1, x.block < W.heap.size := by obtain ⟨m, hm⟩ := h1; exact DataW.trod_lt m _ _ _ hm
  clear hA0 hval0
  refine (betters_calls A0 n0 c0 bs0 A1 n1 c1 rows1 W hbr0 hn0 hcap0 hbr1 hn1 hcap1).mono fun e W' ⟨he, bel⟩ => ?_
  subst he
  exact ⟨_, rfl, _, _, _, [], _, [], hW', trodAll_mk1 (shut_bool Try.underlying4 _),
    trodAll_cons_mk (Below.trod laidOut (by kernel_rfl) (of_decide_eq_true (by kernel_rfl)) h0 bel lt0) (trodAll_mk1 (Below.trod laidOut (by kernel_rfl) (of_decide_eq_true (by kernel_rfl)) h1 bel lt1)), rfl, bel.frame _, fun h => by cases h⟩

theorem betters_holds : Rows.BoundBettersSaid :=
  OpenClaim.holds_of_wide 14 Try.f14 rfl rfl rfl rfl rfl rfl rfl ⟨rfl, rfl, rfl, rfl, rfl⟩ rfl rfl rfl rfl rfl (by kernel_rfl) Try.func14 (by kernel_rfl)
    (of_decide_eq_true (by kernel_rfl)) (by unfold Func.isWrapper; first | (rw [if_pos (by decide +kernel)]; kernel_rfl) | (rw [if_neg (by decide +kernel)]; exact ⟨rfl, rfl⟩))
    (fun os started H enc _ => betters_lifted os started H enc)
#print axioms betters_holds
end Go.Proofs.Ytbmlkomfelkckaa
