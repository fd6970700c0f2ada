/- siglumref20.Clades. -/
import Derived.Test.YtbmlkomfelkckaaClade
import Derived.Test.YtbmlkomfelkckaaFormR
import Derived.BigRegion

namespace Go.Proofs.Ytbmlkomfelkckaa
open Go Go.RowKit
set_option maxRecDepth 100000

theorem leafCells_lv (T : NT) : leafCells T.leaves = intCells T.lv := by simp [leafCells, intCells, NT.lv]

theorem own_frozen {w : World} {base n c g : Nat} {e : TypeId} {size : Nat} {xs : List Value} (h : w.ownsRow base e size (.slice (some ⟨g, 0, none⟩) n c) n xs) (j : Nat) : w.frozen? ⟨g, j, none⟩ = false := by
  rcases h.2 with ⟨h2, _⟩ | ⟨g', cap, cur, h2, _, hh, _⟩
  · cases h2
  · obtain ⟨rfl, _⟩ : g = g' ∧ c = cap := by simpa using h2
    simp [World.frozen?, hh]

/-- What holds at the head of each round. -/
structure RInv (W0 W : World) (bs : List Br) (k : Nat) (v8 : Value) : Prop where
  below : Below W0.heap.size W0 W
  out : ∃ vs, W.ownsRow W0.heap.size 43 1 v8 (clUp bs k).length vs ∧ RowsAt W.heap.size W W0.heap.size vs (clUp bs k)

theorem RInv.start (W0 : World) (bs : List Br) : RInv W0 W0 bs 0 (.slice none 0 0) := by
  refine ⟨Below.refl _ _, [], ?_, ?_⟩
  · rw [clUp_zero]; exact World.ownsRow_nil _ _ _ _
  · rw [clUp_zero]; exact RowsAt.nil _ _ _

theorem RInv.beside {W0 W W' : World} {bs : List Br} {k : Nat} {v8 : Value} (h : RInv W0 W bs k v8) (hb : Below W.heap.size W W') : RInv W0 W' bs k v8 := by
  obtain ⟨vs, h1, h2⟩ := h.out
  exact ⟨Below.then h.below h.below.size hb, vs, own_below h1 hb, (h2.ki (KI.below hb (Nat.le_refl _))).mono hb.size (Nat.le_refl _)⟩

theorem RInv.leaf {W0 W : World} {bs : List Br} {k : Nat} {v8 : Value} (h : RInv W0 W bs k v8) (hk : k < bs.length) (hc : (rawAt bs k).cl = []) : RInv W0 W bs (k + 1) v8 := by
  obtain ⟨vs, h1, h2⟩ := h.out
  refine ⟨h.below, vs, ?_, ?_⟩
  · rw [clUp_succ _ _ hk, hc, List.append_nil]; exact h1
  · rw [clUp_succ _ _ hk, hc, List.append_nil]; exact h2

theorem RInv.fork {W0 W W' : World} {bs : List Br} {k : Nat} {v8 v8' x : Value} {vs : List Value} {l : List Int} (h : RInv W0 W bs k v8) (hk : k < bs.length) (hc : (rawAt bs k).cl = [l])
    (h1 : W.ownsRow W0.heap.size 43 1 v8 (clUp bs k).length vs) (h2 : RowsAt W.heap.size W W0.heap.size vs (clUp bs k)) (hx : RowAt W.heap.size W W0.heap.size x l)
    (ho : W'.ownsRow W0.heap.size 43 1 v8' ((clUp bs k).length + 1) (vs ++ [x])) (hup : Upd W W' v8 v8') : RInv W0 W' bs (k + 1) v8' := by
  have hz := h.below.size
  have hki : KI W.heap.size W W' := KI.grown hup.1 (Nat.le_refl _) (fun g e => .inr (by rw [own_elem h1 g e]; simp))
  refine ⟨h.below.trans (hup.below hz (fun g e => own_base h1 g e)), vs ++ [x], ?_, ?_⟩
  · rw [clUp_succ _ _ hk, hc]; simpa using ho
  · rw [clUp_succ _ _ hk, hc]
    exact ((h2.snoc hx).ki hki).mono hup.1.size (Nat.le_refl _)

set_option maxHeartbeats 4000000 in
theorem rclades_calls (A : Option Addr) (n c : Nat) (xs : List Br) (leaves : Int) (w : World) (hr : RdBr w A xs) (hxn : xs.length = n) (hn : n ≤ 9223372036854775807) :
    Calls Try.prog 49 #[.agg #[.slice A n c], .int .i64 leaves] w (RetClades w ((rdRoot leaves xs).map NT.clades)) := by
  have HF := Lib.hid (fun (W : World) (h : RdBr W A xs) => rform_calls A n c xs leaves W h hxn hn)
  have HR := Lib.hid hr
  cases hrd : rdRoot leaves xs with
  | none =>
    rw [hrd] at HF
    clear hr hrd
    go_enter Try.func49, Try.ntmps49
    go_wp2_with fail
    refine (HF.out _ (HR.out.below (below_alloc w _))).mono ?_
    rintro e w1 ⟨hb, rfl⟩
    have HB := Lib.hid (Below.then (below_alloc w _) (by simp) hb)
    clear hb
    go_wp2_with fail
    go_ret2
    exact ⟨HB.out.alloc HB.out.size _, rfl⟩
  | some T =>
    rw [hrd] at HF
    obtain ⟨hok, hz23, hzp, hlen⟩ := form_facts hrd
    have HOK := Lib.hid hok
    have HLN := Lib.hid hlen
    clear hr hrd hok hlen hxn
    go_enter Try.func49, Try.ntmps49
    go_wp2_with fail
    refine (HF.out _ (HR.out.below (below_alloc w _))).mono ?_
    rintro e w1 ⟨hb, A1, c1, rfl, ho⟩
    have HB := Lib.hid (Below.then (below_alloc w _) (by simp) hb)
    have HRD := Lib.hid ((own_rd ho).1.below (below_alloc w1 (.cells #[.slice A1 T.size c1] 26)))
    have HB1 := Lib.hid (HB.out.alloc HB.out.size (.cells #[.slice A1 T.size c1] 26))
    have b6 := new_cell w1 #[.slice A1 T.size c1] 26 0
    have z6 : w1.heap.size < (w1.alloc (.cells #[.slice A1 T.size c1] 26)).heap.size := by simp
    obtain ⟨n1, hn1⟩ : ∃ n1, n1 = T.size := ⟨_, rfl⟩
    rw [← hn1] at HRD HOK HLN hz23 hzp b6 z6 HB1 ⊢
    have HN1 := Lib.hid hn1
    have hnI : (n1 : Int) ≤ 23 := by omega
    clear hb ho hn1
    go_wp2_with fail
    generalize w1.alloc (.cells #[.slice A1 n1 c1] 26) = W0 at *
    go_loopg [8, 9] n1 (fun gk v8 v9 wr => ∃ (k : Nat) (A8 : Value), v9 = .int .i64 k ∧ k ≤ n1 ∧ Hid (gk + k = n1) ∧ v8 = A8 ∧ (∃ A c m, A8 = .slice A m c) ∧ Hid (RInv W0 wr (T.form 0) k A8))
    case atStart => exact ⟨0, _, rfl, Nat.zero_le _, rfl, rfl, ⟨_, _, _, rfl⟩, RInv.start W0 (T.form 0)⟩
    case round =>
      obtain ⟨k, A8, rfl, hk, HG, rfl, ⟨A8, c8, m8, rfl⟩, HI⟩ := hrel
      obtain ⟨w2, rfl⟩ : ∃ w2 : World, w2 = wr := ⟨_, rfl⟩
      obtain ⟨g1, rfl⟩ : ∃ g1 : Nat, g1 = gk := ⟨_, rfl⟩
      have b6' := cell_below HI.out.below z6 b6
      have z2 := HI.out.below.size
      by_cases hkn : k < n1
      · obtain ⟨x, hx⟩ : ∃ x, (T.form 0)[k]? = some x := ⟨_, List.getElem?_eq_getElem (by have := HLN.out; omega)⟩
        have hcase := HOK.out.at hx
        obtain ⟨ad, he, d0, d1, d2⟩ := HRD.out.below HI.out.below k x hx
        subst he
        have hadl := World.block_lt_of_cell? w2 _ d0
        have hkI : (k : Int) < (n1 : Int) := by omega
        have HX := Lib.hid hx
        have HLEAF := Lib.hid (fun W => leaf_calls x W)
        rcases hcase with ⟨h1, h2, h3, h4⟩ | ⟨h0, p0, p1, p2, p3, h4⟩
        · have HC : Hid ((rawAt (T.form 0) k).cl = [] ∧ k < (T.form 0).length) := ⟨by rw [h4]; rfl, by have := HLN.out; omega⟩
          have t1 : (x.a == 0 && x.b == 0) = true := by rw [h1, h2]; rfl
          rw [t1] at HLEAF
          clear h1 h2 h3 h4 hx t1
          go_wp2_with fail
          refine (HLEAF.out _).mono ?_
          rintro e w5 ⟨rfl, hb5⟩
          have HI5 := Lib.hid (HI.out.beside hb5)
          clear hb5
          go_wp2_with fail
          go_roundg (g1 - 1)
          case measure => have := HG.out; omega
          case rel => exact ⟨k + 1, _, by go_num, by omega, by have := HG.out; show g1 - 1 + (k + 1) = n1; omega, rfl, ⟨_, _, _, rfl⟩, HI5.out.leaf HC.out.2 HC.out.1⟩
        · have t1 : (x.a == 0 && x.b == 0) = false := by
            rw [Bool.and_eq_false_iff, beq_eq_false_iff_ne, beq_eq_false_iff_ne]
            omega
          rw [t1] at HLEAF
          have hsm := HOK.out.small (i := k) hkn
          obtain ⟨l0, hl0⟩ : ∃ l0, (rawAt (T.form 0) k).lv = l0 := ⟨_, rfl⟩
          have HC : Hid ((rawAt (T.form 0) k).cl = [sortI l0] ∧ k < (T.form 0).length) := ⟨by rw [← hl0, h4, NT.cl, lv_fork], by have := HLN.out; omega⟩
          have HBC : Hid (∀ W, RdBr W (some ad) (T.form 0) → Calls Try.prog 87 #[.agg #[.slice (some ad) n1 c1], .int .i64 (k : Int)] W (RetInts W l0.length l0)) := by
            refine Lib.hid fun W h => ?_
            refine Calls.mono (below_calls n1 c1 (T.form 0) (some ad) HOK.out k W hkn h) ?_
            rintro e w' ⟨A', c', rfl, ho', hb'⟩
            rw [leafCells_lv, hl0, ← lv_length, hl0] at ho'
            exact ⟨A', c', by rw [← lv_length, hl0], ho', hb'⟩
          have hl2 : l0.length ≤ 8388608 := by rw [← hl0, lv_length]; exact hsm.1
          clear h0 h4 hx t1 hl0 hsm
          go_wp2_with fail
          refine (HLEAF.out _).mono ?_
          rintro e w5 ⟨rfl, hb5⟩
          have HI5 := Lib.hid (HI.out.beside hb5)
          have b65 := cell_below hb5 (by omega) b6'
          have HRD5 := Lib.hid ((HRD.out.below HI.out.below).below hb5)
          have z5 := hb5.size
          clear hb5 d0 d1 d2 hadl b6' HLEAF
          go_wp2_with fail
          refine (HBC.out _ HRD5.out).mono ?_
          rintro e w6 ⟨A6, c6, rfl, ho6, hb6⟩
          have HI6 := Lib.hid (HI5.out.beside hb6)
          have b66 := cell_below hb6 (by omega) b65
          have HO6 := Lib.hid ho6
          have HB6 := Lib.hid hb6
          have z7 := hb6.size
          clear ho6 hb6 HBC
          go_wp2_with fail
          obtain ⟨m, hm⟩ : ∃ m, m = l0.length := ⟨_, rfl⟩
          have HM := Lib.hid hm
          rw [← hm] at HO6 hl2 ⊢
          have hmI : (m : Int) ≤ 8388608 := by omega
          clear hm
          go_loopg [11] m (fun gk v11 wr => ∃ (a : Nat) (l : List Int), v11 = .int .i64 a ∧ a ≤ m ∧ Hid (gk + a = m) ∧ Hid (wr.ownsRow w5.heap.size 3 1 (.slice A6 m c6) m (intCells l)) ∧ Hid (Below w5.heap.size w5 wr) ∧ Hid (l.Perm l0 ∧ Head l a))
          case atStart => exact ⟨0, l0, rfl, Nat.zero_le _, rfl, HO6.out, HB6.out, List.Perm.refl _, fun i j hi => by omega⟩
          case round =>
            obtain ⟨a, l, rfl, ha, HGA, HOL, HBL, HPL⟩ := hrel
            obtain ⟨w3, rfl⟩ : ∃ w3 : World, w3 = wr := ⟨_, rfl⟩
            obtain ⟨g2, rfl⟩ : ∃ g2 : Nat, g2 = gk := ⟨_, rfl⟩
            have b63 := cell_below HBL.out (by omega) b65
            by_cases ham : a < m
            · have haI : (a : Int) < m := by omega
              go_wp2_with fail
              go_loopg [12] (m - (a + 1)) (fun gk v12 wr => ∃ (b : Nat) (l : List Int), v12 = .int .i64 b ∧ b ≤ m ∧ a < b ∧ Hid (gk + b = m) ∧ Hid (wr.ownsRow w5.heap.size 3 1 (.slice A6 m c6) m (intCells l)) ∧ Hid (Below w5.heap.size w5 wr) ∧ Hid (l.Perm l0 ∧ Head l a ∧ Low l a b))
              case atStart => exact ⟨a + 1, l, by go_num, by omega, by omega, by show m - (a + 1) + (a + 1) = m; omega, HOL.out, HBL.out, HPL.out.1, HPL.out.2, fun j hj hjb => by omega⟩
              case round =>
                obtain ⟨b, l, rfl, hb, hab, HGB, HOL, HBL, HPL⟩ := hrel
                have b63 := cell_below HBL.out (by omega) b65
                by_cases hbm : b < m
                · have hbI : (b : Int) < m := by omega
                  have hlen : l.length = m := by have := HOL.out.1; rw [intCells_length] at this; omega
                  obtain ⟨g, he, hg, hgb, hcl⟩ := own_at HOL.out (by omega)
                  subst he
                  have ea := hcl a (.int .i64 (l.getD a 0)) (by simp [intCells, List.getD_eq_getElem?_getD, show a < l.length by omega])
                  have eb := hcl b (.int .i64 (l.getD b 0)) (by simp [intCells, List.getD_eq_getElem?_getD, show b < l.length by omega])
                  rw [add_plain] at ea eb
                  have fg : ∀ j, wr.frozen? ⟨g, j, none⟩ = false := fun j => own_frozen HOL.out j
                  obtain ⟨la, hla⟩ : ∃ la, l.getD a 0 = la := ⟨_, rfl⟩
                  obtain ⟨lb, hlb⟩ : ∃ lb, l.getD b 0 = lb := ⟨_, rfl⟩
                  have hsw : swp l a b = (l.set a lb).set b la := by rw [swp, hla, hlb]
                  have HSW := Lib.hid hsw
                  rw [hla] at ea
                  rw [hlb] at eb
                  have fa := fg a
                  have fb := fg b
                  have HLL : Hid (l.length = m) := hlen
                  by_cases hlt : lb < la
                  · have HN : Hid (Head (swp l a b) a ∧ Low (swp l a b) a (b + 1) ∧ (swp l a b).Perm l0) := ⟨HPL.out.2.1.swp hab (by omega), HPL.out.2.2.swp hab (by omega) (by rw [hla, hlb]; exact hlt), (swp_perm (by omega) (by omega)).trans HPL.out.1⟩
                    clear hla hlb hsw hcl fg hlen b63
                    go_wp2_with fail
                    go_quiet (fail)
                    go_wp2_with fail
                    go_region
                    all_goals
                      go_wp2_with fail
                      go_roundg (gk - 1)
                      case measure => have := HGB.out; omega
                      case rel =>
                        refine ⟨b + 1, swp l a b, by go_num, by omega, by omega, by have := HGB.out; show gk - 1 + (b + 1) = m; omega, ?_, ?_, Lib.hid ⟨HN.out.2.2, HN.out.1, HN.out.2.1⟩⟩
                        · rw [HSW.out]
                          have h1 := ((own_below HOL.out (below_drewN wr (nq + 1))).stored a (.int .i64 lb)).1
                          have h2 := (h1.stored b (.int .i64 la)).1
                          refine Lib.hid ?_
                          simpa [intCells, List.map_set] using h2
                        · exact below_set (below_set (HBL.out.trans ((below_drewN wr (nq + 1)).mono (by have := HBL.out.size; omega))) hgb _ _) hgb _ _
                  · have HN : Hid (Low l a (b + 1)) := HPL.out.2.2.keep (by rw [hla, hlb]; exact hlt)
                    clear hla hlb hsw hcl fg hlen b63
                    go_wp2_with fail
                    go_quiet (fail)
                    go_wp2_with fail
                    go_roundg (gk - 1)
                    case measure => have := HGB.out; omega
                    case rel =>
                      exact ⟨b + 1, l, by go_num, by omega, by omega, by have := HGB.out; show gk - 1 + (b + 1) = m; omega, own_below HOL.out (below_drewN wr _), HBL.out.trans ((below_drewN wr _).mono (by have := HBL.out.size; omega)), HPL.out.1, HPL.out.2.1, HN.out⟩
                · have HN : Hid (Head l (a + 1)) := by
                    have hlen : l.length = m := by have := HOL.out.1; rw [intCells_length] at this; omega
                    have : b = l.length := by omega
                    exact HPL.out.2.1.next (by rw [← this]; exact HPL.out.2.2)
                  clear b63
                  go_wp2_with fail
                  go_roundg (g2 - 1)
                  case measure => have := HGA.out; omega
                  case rel =>
                    exact ⟨a + 1, l, by go_num, by omega, by have := HGA.out; show g2 - 1 + (a + 1) = m; omega, HOL.out, HBL.out, HPL.out.1, HN.out⟩
            · have hlen : l.length = m := by have := HOL.out.1; rw [intCells_length] at this; omega
              have HS : Hid (l = sortI l0) := Head.done HPL.out.1 (by rw [hlen, ← show a = m by omega]; exact HPL.out.2)
              have HIL := Lib.hid (HI5.out.beside HBL.out)
              obtain ⟨vs, hov, hrv⟩ := HIL.out.out
              have HOV := Lib.hid hov
              have HRV := Lib.hid hrv
              have hle := clUp_le (T.form 0) k (by have := HLN.out; omega)
              have hx := (RowAt.new HOL.out).mono (B' := w3.heap.size) (base' := W0.heap.size) (Nat.le_refl _) (by omega)
              rw [HS.out] at hx
              have HX9 := Lib.hid hx
              have hz0 : W0.heap.size ≤ w3.heap.size := by have := HBL.out.size; omega
              clear hov hrv hx b63 hlen
              go_wp2_with (at_builtin; refine walk_append1 HOV.out hz0 (by omega) 34 Try.underlying34 info_row ⟨rfl, by decide, by decide⟩ _ (oneSl _ _ _) (by exact ⟨rfl, rfl, rfl, rfl, rfl⟩) ?_; intro v10 w10 ho10 hu10)
              obtain ⟨A10, c10, rfl, _⟩ := own_slice ho10
              go_roundg (g1 - 1)
              case measure => have := HG.out; omega
              case rel =>
                exact ⟨k + 1, _, by go_num, by omega, by have := HG.out; show g1 - 1 + (k + 1) = n1; omega, rfl, ⟨_, _, _, rfl⟩, RInv.fork HIL.out HC.out.2 HC.out.1 HOV.out HRV.out HX9.out ho10 hu10⟩
      · have HKN : Hid (k = n1) := Lib.hid (by omega)
        obtain ⟨vs, hov, hrv⟩ := HI.out.out
        have HOV := Lib.hid hov
        have HRV := Lib.hid hrv
        clear hov hrv
        go_wp2_with fail
        go_ret2
        have hcl := clUp_all T
        rw [← HN1.out, ← HKN.out] at hcl
        have ho := HOV.out
        have hr := HRV.out
        rw [hcl] at ho hr
        obtain ⟨A', c', he, _⟩ := own_slice ho
        obtain ⟨rfl, rfl, rfl⟩ : A8 = A' ∧ m8 = T.clades.length ∧ c8 = c' := by simpa using he
        have hzz : w.heap.size ≤ W0.heap.size := HB1.out.size
        exact ⟨Below.then HB1.out hzz HI.out.below, _, _, vs, rfl, own_mono ho hzz, hr.mono (Nat.le_refl _) hzz⟩
end Go.Proofs.Ytbmlkomfelkckaa
