/- Law TreeNests: clades are nested or apart. -/
import Derived.Test.YtbmlkomfelkckaaAwk20
import Derived.Test.YtbmlkomfelkckaaClade
import Derived.Test.YtbmlkomfelkckaaNestP
namespace Go.Proofs.Ytbmlkomfelkckaa
open Go Go.RowKit
set_option maxRecDepth 100000

/-- Where the rows stand and what they hold. -/
def NestAt (w : World) (g : Nat) (L : List (List Int)) : Prop :=
  ∀ (i : Nat) (l : List Int), L[i]? = some l → ∃ A c, w.cell? ⟨g, i, none⟩ = some (.slice A l.length c) ∧ RdInt w A l

theorem nestAt_of {w : World} {base B m c g : Nat} {vs : List Value} {L : List (List Int)} (ho : w.ownsRow base 43 1 (.slice (some ⟨g, 0, none⟩) m c) m vs) (hr : RowsAt B w base vs L) : NestAt w g L := by
  intro i l hl
  obtain ⟨v, hv, A, d, rfl, o1, hk⟩ := hr.2 i l hl
  obtain ⟨A', c', he, _, hc⟩ := cells_of_own ho
  obtain ⟨g', hg', hcell⟩ := hc i _ hv
  obtain ⟨h1, _⟩ : some (⟨g, 0, none⟩ : Addr) = A' ∧ c = c' := by simpa using he
  rw [hg'] at h1
  obtain rfl : g = g' := by simpa using h1
  exact ⟨A, d, hcell, (RowAt.rd (B := w.heap.size) (RowAt.new o1)).1⟩

set_option maxHeartbeats 4000000 in
theorem nests_calls (A : Option Addr) (n c : Nat) (bs : List Br) (leaves : Int) (w : World) (hb : RdBr w A bs) (hbn : bs.length = n) (hcap : n ≤ 9223372036854775807) (hl1 : -9223372036854775808 ≤ leaves) (hl2 : leaves ≤ 9223372036854775807) :
    Calls Try.prog 17 #[.agg #[.slice A n c], .int .i64 leaves] w fun e w' => e = .returned (.bool true) ∧ Below w.heap.size w w' := by
  have HA := Lib.hid (awake20 (w.alloc (.cells #[.slice A n c] 26)))
  have HCL := Lib.hid (fun (W : World) (h : Below w.heap.size w W) => clades_calls A n c bs leaves W (hb.below h) hbn hcap hl1 hl2)
  have hb0 := below_alloc w (.cells #[.slice A n c] 26)
  have c0 := new_cell w #[.slice A n c] 26 0
  have hz : w.heap.size < (w.alloc (.cells #[.slice A n c] 26)).heap.size := by simp
  have HB0 := Lib.hid hb0
  cases hrd : rdRoot leaves bs with
  | none =>
    rw [hrd] at HCL
    clear hb hbn hb0 hrd
    go_enter Try.func17, Try.ntmps17
    go_wp2_with fail
    refine HA.out.mono ?_
    rintro _ w1 ⟨rfl, hb1⟩
    have c0 := cell_below hb1 hz c0
    have HB1 := Lib.hid (Below.then HB0.out HB0.out.size hb1)
    clear hb1
    go_wp2_with fail
    refine (HCL.out _ HB1.out).mono ?_
    rintro _ w2 ⟨hb2, rfl⟩
    have HB2 := Lib.hid (Below.then HB1.out HB1.out.size hb2)
    clear hb2
    go_wp2_with fail
    go_ret
    exact ⟨rfl, HB2.out⟩
  | some T =>
    rw [hrd] at HCL
    obtain ⟨k1, k2, k3⟩ := rdRoot_leaves hrd
    obtain ⟨k4, k5, k6, k7⟩ := rdRoot_size hrd
    obtain ⟨q, rfl⟩ : ∃ q : Nat, leaves = ((q + 1 : Nat) : Int) := ⟨leaves.toNat - 1, by omega⟩
    have HN := Lib.hid (nest_of (leaves := q + 1) k1 k2 (by omega) (by omega))
    rw [Nat.add_sub_cancel] at HN
    have hq : (q : Int) ≤ 11 := by omega
    simp only [Option.map_some] at HCL
    obtain ⟨L, hL⟩ : ∃ L, T.clades = L := ⟨_, rfl⟩
    rw [hL] at HCL HN
    clear hb hbn hb0 hrd k1 k2 k3 k4 k5 k6 k7 hL hl1 hl2
    go_enter Try.func17, Try.ntmps17
    go_wp2_with fail
    refine HA.out.mono ?_
    rintro _ w1 ⟨rfl, hb1⟩
    have c0 := cell_below hb1 hz c0
    have HB1 := Lib.hid (Below.then HB0.out HB0.out.size hb1)
    clear hb1
    go_wp2_with fail
    refine (HCL.out _ HB1.out).mono ?_
    rintro _ w2 ⟨hb2, A2, c2, vs, rfl, ho, hr⟩
    have HB2 := Lib.hid (Below.then HB1.out HB1.out.size hb2)
    rw [HN.out.len] at ho ⊢
    clear hb2
    by_cases hq0 : q = 0
    · subst hq0
      clear ho hr
      go_wp2_with fail
      go_loopg [54] 0 (fun gk v54 wr => v54 = .int .i64 0 ∧ wr = w2)
      case atStart => exact ⟨rfl, rfl⟩
      case round =>
        obtain ⟨rfl, rfl⟩ := hrel
        go_wp2_with fail
        go_ret
        exact ⟨rfl, HB2.out⟩
    · obtain ⟨g, rfl, hg, -, -⟩ := own_at ho (by omega)
      have HAT := Lib.hid (nestAt_of ho hr)
      clear ho hr
      obtain ⟨l0, hl0, hlen0⟩ := HN.out.last (by omega)
      obtain ⟨A0, d0, e0, _⟩ := HAT.out _ _ hl0
      rw [hlen0] at e0
      have q1 : (1 : Int) ≤ q := by omega
      clear hl0 hlen0
      go_wp2_with fail
      go_loopg [54] q (fun gk v54 wr => ∃ i : Nat, v54 = .int .i64 i ∧ i ≤ q ∧ Hid (gk + i = q) ∧ Hid (wr = w2))
      case atStart => exact ⟨0, rfl, Nat.zero_le _, rfl, rfl⟩
      case round =>
        obtain ⟨i, rfl, hi, HG, HW⟩ := hrel
        obtain ⟨w3, rfl⟩ : ∃ w3 : World, w3 = wr := ⟨_, rfl⟩
        obtain ⟨g1, rfl⟩ : ∃ g1 : Nat, g1 = gk := ⟨_, rfl⟩
        by_cases hiq : i < q
        · obtain ⟨l, hl⟩ : ∃ l, L[i]? = some l := ⟨_, List.getElem?_eq_getElem (by have := HN.out.len; omega)⟩
          obtain ⟨Ai, di, ei, ri⟩ := HAT.out i l hl
          obtain ⟨hrg, hrise, hll⟩ := HN.out.range l (List.mem_of_getElem? hl)
          rw [← HW.out] at ei ri
          have hiI : (i : Int) < (q : Int) := by omega
          obtain ⟨m, hm⟩ : ∃ m, m = l.length := ⟨_, rfl⟩
          rw [← hm] at ei hll
          have HM := Lib.hid hm
          have HRG := Lib.hid hrg
          have HRI := Lib.hid hrise
          have HRD := Lib.hid ri
          have HL := Lib.hid hl
          have hmI : (m : Int) ≤ q + 1 := by omega
          clear hm hrg hrise ri hl e0
          go_wp2_with fail
          go_loopg [62] m (fun gk v62 wr => ∃ k : Nat, v62 = .int .i64 k ∧ k ≤ m ∧ Hid (gk + k = m) ∧ wr = w3)
          case atStart => exact ⟨0, rfl, Nat.zero_le _, rfl, rfl⟩
          case round =>
            obtain ⟨k, rfl, hk, HGK, rfl⟩ := hrel
            by_cases hkm : k < m
            · obtain ⟨x, hx⟩ : ∃ x, l[k]? = some x := ⟨_, List.getElem?_eq_getElem (by have := HM.out; omega)⟩
              obtain ⟨ad, rfl, ex⟩ := HRD.out k x hx
              obtain ⟨x0, x1⟩ := HRG.out x (List.mem_of_getElem? hx)
              have hkI : (k : Int) < (m : Int) := by omega
              by_cases hk0 : k = 0
              · have hk1 : ¬ (0 : Int) < k := by omega
                clear hx hk0
                go_wp2_with fail
                go_roundg (gk - 1)
                case measure => have := HGK.out; omega
                case rel => exact ⟨k + 1, by go_num, by omega, by have := HGK.out; show gk - 1 + (k + 1) = m; omega, rfl⟩
              · obtain ⟨y, hy⟩ : ∃ y, l[k - 1]? = some y := ⟨_, List.getElem?_eq_getElem (by have := HM.out; omega)⟩
                obtain ⟨ad', he, ey⟩ := HRD.out (k - 1) y hy
                obtain rfl : ad = ad' := by simpa using he
                have hyx : y < x := by
                  obtain ⟨h1, rfl⟩ := List.getElem?_eq_some_iff.1 hx
                  obtain ⟨h2, rfl⟩ := List.getElem?_eq_some_iff.1 hy
                  exact List.pairwise_iff_getElem.1 HRI.out (k - 1) k h2 h1 (by omega)
                have hk1 : (1 : Int) ≤ k := by omega
                clear hx hy he hk0
                go_wp2_with fail
                go_roundg (gk - 1)
                case measure => have := HGK.out; omega
                case rel => exact ⟨k + 1, by go_num, by omega, by have := HGK.out; show gk - 1 + (k + 1) = m; omega, rfl⟩
            · go_wp2_with fail
              go_loopg [10] i (fun gk v10 ww => ∃ j : Nat, v10 = .int .i64 j ∧ j ≤ i ∧ Hid (gk + j = i) ∧ ww = wr)
              case atStart => exact ⟨0, rfl, Nat.zero_le _, rfl, rfl⟩
              case round =>
                obtain ⟨j, rfl, hj, HGJ, rfl⟩ := hrel
                obtain ⟨g2, rfl⟩ : ∃ g2 : Nat, g2 = gk := ⟨_, rfl⟩
                by_cases hji : j < i
                · obtain ⟨l2, hl2⟩ : ∃ l2, L[j]? = some l2 := ⟨_, List.getElem?_eq_getElem (by have := HN.out.len; omega)⟩
                  obtain ⟨Aj, dj, ej, rj⟩ := HAT.out j l2 hl2
                  obtain ⟨-, -, hll2⟩ := HN.out.range l2 (List.mem_of_getElem? hl2)
                  rw [← HW.out] at ej rj
                  have HNS : Hid (cm l2 l l2.length = l2.length ∨ cm l2 l l2.length = 0) := by
                    refine Lib.hid (cm_all ?_)
                    have h1 := HL.out
                    obtain ⟨q1, e1⟩ := List.getElem?_eq_some_iff.1 hl2
                    obtain ⟨q2, e2⟩ := List.getElem?_eq_some_iff.1 h1
                    have := List.pairwise_iff_getElem.1 HN.out.nest j i q1 q2 hji
                    rwa [e1, e2] at this
                  obtain ⟨m2, hm2⟩ : ∃ m2, m2 = l2.length := ⟨_, rfl⟩
                  rw [← hm2] at ej hll2 HNS
                  have HM2 := Lib.hid hm2
                  have HRJ := Lib.hid rj
                  have hjI : (j : Int) < (q : Int) := by omega
                  have hjI2 : (j : Int) < (i : Int) := by omega
                  clear hl2 hm2 rj
                  go_wp2_with fail
                  go_loopg [11, 101] m2 (fun gk v11 v101 ww => ∃ (a t : Nat), v101 = .int .i64 a ∧ v11 = .int .i64 t ∧ a ≤ m2 ∧ Hid (gk + a = m2) ∧ ww = wr ∧ Hid (t = cm l2 l a))
                  case atStart => exact ⟨0, 0, rfl, rfl, Nat.zero_le _, rfl, rfl, (cm_zero _ _).symm⟩
                  case round =>
                    obtain ⟨a, t, rfl, rfl, ha, HGA, rfl, HT⟩ := hrel
                    obtain ⟨g3, rfl⟩ : ∃ g3 : Nat, g3 = gk := ⟨_, rfl⟩
                    have ht := cm_le l2 l a
                    rw [← HT.out] at ht
                    by_cases ham : a < m2
                    · obtain ⟨x, hx⟩ : ∃ x, l2[a]? = some x := ⟨_, List.getElem?_eq_getElem (by have := HM2.out; omega)⟩
                      obtain ⟨ad2, rfl, ex⟩ := HRJ.out a x hx
                      have HX := Lib.hid hx
                      have haI : (a : Int) < (m2 : Int) := by omega
                      clear hx
                      go_wp2_with fail
                      go_loopg [11, 110] m (fun gk v11 v110 ww => ∃ (b s : Nat), v110 = .int .i64 b ∧ v11 = .int .i64 s ∧ b ≤ m ∧ Hid (gk + b = m) ∧ ww = wr ∧ Hid (s = t + hit x l b))
                      case atStart => exact ⟨0, t, rfl, rfl, Nat.zero_le _, rfl, rfl, Lib.hid (by rw [hit_zero, Nat.add_zero])⟩
                      case round =>
                        obtain ⟨b, s, rfl, rfl, hb, HGB, rfl, HS⟩ := hrel
                        have hs := hit_le x l b
                        have hs2 : s ≤ 100 := by have := HS.out; omega
                        clear hs
                        by_cases hbm : b < m
                        · obtain ⟨y, hy⟩ : ∃ y, l[b]? = some y := ⟨_, List.getElem?_eq_getElem (by have := HM.out; omega)⟩
                          obtain ⟨ad3, he3, ey⟩ := HRD.out b y hy
                          have HY := Lib.hid hy
                          have hbI : (b : Int) < (m : Int) := by omega
                          subst he3
                          clear hy
                          by_cases hxy : x = y
                          · have f1 : (x == y) = true := by rw [beq_iff_eq]; exact hxy
                            have HH := Lib.hid (hit_yes HY.out hxy HRI.out)
                            clear hxy
                            go_wp2_with fail
                            go_roundg (gk - 1)
                            case measure => have := HGB.out; omega
                            case rel => exact ⟨b + 1, s + 1, by go_num, by go_num, by omega, by have := HGB.out; show gk - 1 + (b + 1) = m; omega, rfl, by have := HS.out; have := HH.out; show s + 1 = _; omega⟩
                          · have f1 : (x == y) = false := by rw [beq_eq_false_iff_ne]; exact hxy
                            have HH := Lib.hid (hit_no HY.out hxy)
                            clear hxy
                            go_wp2_with fail
                            go_roundg (gk - 1)
                            case measure => have := HGB.out; omega
                            case rel => exact ⟨b + 1, s, by go_num, rfl, by omega, by have := HGB.out; show gk - 1 + (b + 1) = m; omega, rfl, by have := HS.out; have := HH.out; show s = _; omega⟩
                        · have HC : Hid (s = cm l2 l (a + 1)) := by
                            have h1 := HS.out
                            have h2 := HT.out
                            have : b = l.length := by have := HM.out; omega
                            rw [this] at h1
                            show s = _
                            rw [cm_succ HX.out, ← h2]
                            exact h1
                          go_wp2_with fail
                          go_roundg (g3 - 1)
                          case measure => have := HGA.out; omega
                          case rel => exact ⟨a + 1, s, by go_num, rfl, by omega, by have := HGA.out; show g3 - 1 + (a + 1) = m2; omega, rfl, HC.out⟩
                    · have hfin : t = m2 ∨ t = 0 := by
                        have h1 := HT.out
                        rw [show a = m2 by omega] at h1
                        rw [h1]
                        exact HNS.out
                      by_cases ht0 : t = 0
                      · have f1 : ((t : Int) != 0) = false := by rw [bne_eq_false_iff_eq]; omega
                        clear ht0 hfin
                        go_wp2_with fail
                        go_roundg (g2 - 1)
                        case measure => have := HGJ.out; omega
                        case rel => exact ⟨j + 1, by go_num, by omega, by have := HGJ.out; show g2 - 1 + (j + 1) = i; omega, rfl⟩
                      · have f1 : ((t : Int) != 0) = true := by rw [bne_iff_ne]; omega
                        have f2 : ((t : Int) != (m2 : Int)) = false := by rw [bne_eq_false_iff_eq]; omega
                        clear ht0 hfin
                        go_wp2_with fail
                        go_roundg (g2 - 1)
                        case measure => have := HGJ.out; omega
                        case rel => exact ⟨j + 1, by go_num, by omega, by have := HGJ.out; show g2 - 1 + (j + 1) = i; omega, rfl⟩
                · go_wp2_with fail
                  go_roundg (g1 - 1)
                  case measure => have := HG.out; omega
                  case rel => exact ⟨i + 1, by go_num, by omega, by have := HG.out; show g1 - 1 + (i + 1) = q; omega, HW.out⟩
        · go_wp2_with fail
          go_ret
          exact ⟨rfl, by rw [HW.out]; exact HB2.out⟩
end Go.Proofs.Ytbmlkomfelkckaa
