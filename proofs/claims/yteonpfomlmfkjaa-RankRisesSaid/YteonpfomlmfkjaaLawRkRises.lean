/- Law RankRises: an order in which all arcs lead on, or a circle, never both. -/
import Derived.Test.YteonpfomlmfkjaaRkAwk
import Derived.BigQuiet
import Derived.Deep.QuietTactic
namespace Go.Proofs.Yteonpfomlmfkjaa
open Go Go.RowKit
set_option maxRecDepth 100000

/-- Where x stands; -1: nowhere. -/
def posIn (S : List Int) (x : Int) : Int := if x ∈ S then (S.idxOf x : Nat) else -1

theorem posIn_nil (x : Int) : posIn [] x = -1 := by simp [posIn]
theorem posIn_snoc {S : List Int} {v : Int} (hv : v ∉ S) (x : Int) : posIn (S ++ [v]) x = if x = v then (S.length : Int) else posIn S x := by
  unfold posIn
  by_cases e : x = v
  · subst e
    rw [if_pos rfl, if_pos (by simp), List.idxOf_append, if_neg hv]
    simp
  · rw [if_neg e]
    by_cases hx : x ∈ S
    · rw [if_pos (by simp [hx]), if_pos hx, List.idxOf_append, if_pos hx]
    · rw [if_neg (by simp [hx, e]), if_neg hx]

theorem idxOf_take {L : List Int} {a : Int} {i : Nat} (h : a ∈ L.take i) : L.idxOf a < i := by
  have h1 := List.idxOf_lt_length_iff.2 h
  have h2 : L.idxOf a = (L.take i).idxOf a := by
    conv => lhs; rw [← List.take_append_drop i L]
    rw [List.idxOf_append, if_pos h]
  rw [List.length_take] at h1
  omega

theorem posIn_lt {n : Nat} {arcs : List (Int × Int)} {L : List Int} (h : Order n arcs L) (hok : Ranged n arcs) {a b : Int} (ha : (a, b) ∈ arcs) : posIn L a < posIn L b := by
  obtain ⟨a0, a1, b0, b1⟩ := hok _ ha
  have hb := (h.mem b).2 ⟨b0, b1⟩
  have hm := (h.mem a).2 ⟨a0, a1⟩
  unfold posIn
  rw [if_pos hm, if_pos hb]
  have hi : L[L.idxOf b]? = some b := by
    rw [List.getElem?_eq_getElem (List.idxOf_lt_length_iff.2 hb), List.getElem_idxOf]
  have h1 : L.idxOf a < L.idxOf b := idxOf_take (h.topo _ b hi (a, b) ha rfl)
  omega

/-- Of a circle: each node leads to the next, the last one to the first; none is less. -/
theorem circ_next {arcs : List (Int × Int)} {s : Int} {P : List Int} (h : Circ arcs s P) : P[0]? = some s ∧ (∀ x ∈ P, s ≤ x) ∧ (∀ (i : Nat) x y, P[i]? = some x → P[i + 1]? = some y → (x, y) ∈ arcs) ∧ ∀ (i : Nat) x, P[i]? = some x → P.length ≤ i + 1 → (x, s) ∈ arcs := by
  refine ⟨h.1.head, h.1.ge, h.1.arcs, fun i x hx hl => ?_⟩
  have hi := (List.getElem?_eq_some_iff.1 hx).1
  have h1 := lastOf_get h.1.pos
  rw [show P.length - 1 = i by omega, hx] at h1
  rw [Option.some.inj h1]
  exact h.2

theorem arcs_take {arcs : List (Int × Int)} {k : Nat} {a b : Int} (h : arcs[k]? = some (a, b)) (p : Int × Int) : (arcs.take (k + 1)).contains p = ((arcs.take k).contains p || (a == p.1 && b == p.2)) := by
  obtain ⟨hk, he⟩ := List.getElem?_eq_some_iff.1 h
  rw [List.take_succ_eq_append_getElem hk, he, Bool.eq_iff_iff]
  simp only [List.contains_iff_mem, List.mem_append, List.mem_singleton, Bool.or_eq_true, Bool.and_eq_true, beq_iff_eq]
  refine or_congr Iff.rfl ⟨fun e => by rw [e]; exact ⟨rfl, rfl⟩, fun ⟨e1, e2⟩ => ?_⟩
  rw [e1, e2]

theorem arc_get' {w : World} {A : Option Addr} {arcs : List (Int × Int)} (h : RdArcs w A arcs) {k : Nat} (hk : k < arcs.length) : ∃ a b ad, arcs[k]? = some (a, b) ∧ A = some ad ∧ w.cell? (ad.add (k * 2)) = some (.int .i64 a) ∧ w.cell? ⟨(ad.add (k * 2)).block, (ad.add (k * 2)).off + 1, none⟩ = some (.int .i64 b) := by
  obtain ⟨ad, h1, h2, h3⟩ := h k arcs[k] (List.getElem?_eq_getElem hk)
  exact ⟨_, _, ad, List.getElem?_eq_getElem hk, h1, h2, h3⟩

theorem nodup_take' {l : List Int} (h : l.Nodup) {k : Nat} {v : Int} (hv : l[k]? = some v) : v ∉ l.take k := by
  intro hm
  obtain ⟨j, hj⟩ := List.mem_iff_getElem?.1 hm
  rw [List.getElem?_take] at hj
  split at hj
  · obtain ⟨hk1, hk2⟩ := List.getElem?_eq_some_iff.1 hv
    obtain ⟨hj1, hj2⟩ := List.getElem?_eq_some_iff.1 hj
    exact List.pairwise_iff_getElem.1 h j k hj1 hk1 (by assumption) (by rw [hj2]; exact hk2.symm)
  · cases hj

set_option maxHeartbeats 8000000 in
theorem rkrises_calls (A : Option Addr) (n c : Nat) (arcs : List (Int × Int)) (z : Int) (w : World) (hr : RdArcs w A arcs) (hn : arcs.length = n) (hcap : n ≤ 9223372036854775807) (hz1 : -9223372036854775808 ≤ z) (hz2 : z ≤ 9223372036854775807) :
    Calls Try.prog 6 #[.int .i64 z, .slice A n c] w fun e w' => e = .returned (.bool true) ∧ Below w.heap.size w w' := by
  have HA := Lib.hid (awake15 w)
  have HP := Lib.hid (fun (W : World) (h : Below w.heap.size w W) => orderf_calls A n c arcs z W (hr.below h) hn hcap hz1 hz2)
  have HQ := Lib.hid (fun (W : World) (h : Below w.heap.size w W) => ranks_calls A n c arcs z W (hr.below h) hn hcap hz1 hz2)
  have HS := Lib.hid (fun (W : World) (h : Below w.heap.size w W) => cycle_calls A n c arcs z W (hr.below h) hn hcap hz1 hz2)
  have HR := Lib.hid hr
  have HN := Lib.hid hn
  clear hr hn
  by_cases hok : arcsOk z arcs
  rotate_left
  · have hcase : orderOf z arcs = (2, []) ∧ ranksOf z arcs = (2, []) ∧ cycleOf z arcs = (2, []) := by
      refine ⟨?_, ?_, ?_⟩ <;> (first | unfold orderOf | unfold ranksOf | unfold cycleOf) <;> rw [if_neg hok]
    rw [hcase.1] at HP
    rw [hcase.2.1] at HQ
    rw [hcase.2.2] at HS
    clear hok hcase
    go_enter Try.func6, Try.ntmps6
    go_wp2_with fail
    refine HA.out.mono ?_
    rintro _ w1 ⟨rfl, hb1⟩
    have HB1 := Lib.hid hb1
    clear hb1
    go_wp2_with fail
    (with_reducible refine (HP.out _ HB1.out).mono ?_)
    rintro _ w2 ⟨hb2, A2, c2, rfl, ho2⟩
    have HB2 := Lib.hid (Below.then HB1.out HB1.out.size hb2)
    have HO2 := Lib.hid ho2
    clear hb2 ho2
    go_wp2_with fail
    (with_reducible refine (HQ.out _ HB2.out).mono ?_)
    rintro _ w3 ⟨hb3, A3, c3, rfl, ho3⟩
    have HB3 := Lib.hid (Below.then HB2.out HB2.out.size hb3)
    have HO2 := Lib.hid (own_below HO2.out hb3)
    have HO3 := Lib.hid ho3
    clear hb3 ho3
    go_wp2_with fail
    (with_reducible refine (HS.out _ HB3.out).mono ?_)
    rintro _ w4 ⟨hb4, A4, c4, rfl, ho4⟩
    have HB4 := Lib.hid (Below.then HB3.out HB3.out.size hb4)
    have HO2 := Lib.hid (own_below HO2.out hb4)
    have HO3 := Lib.hid (own_below HO3.out hb4)
    have HO4 := Lib.hid ho4
    clear hb4 ho4
    simp only [List.length_nil]
    go_wp2_with fail
    go_ret
    exact ⟨rfl, HB4.out⟩
  obtain ⟨m, rfl⟩ : ∃ m : Nat, z = (m : Int) := ⟨z.toNat, by have := hok.1; omega⟩
  have hm : m ≤ 4096 := by have := hok.2.1; omega
  have HOK : Hid (Ranged m arcs) := hok.2.2.2
  by_cases hf : (kahn m arcs m).length = m
  rotate_left
  · -- a circle
    obtain ⟨s, P, hsm, hcy, hBst, -⟩ : ∃ (s : Nat) (P : List Int), s < m ∧ cycUp m arcs m = some P ∧ Best arcs (s : Int) P ∧ True := by
      rcases cycUp_spec HOK.out m (Nat.le_refl _) with ⟨h1, _⟩ | ⟨s, P, h1, h2, h3, _⟩
      · exact absurd ((order_or_circle HOK.out).2 h1) hf
      · exact ⟨s, P, h1, h2, h3, trivial⟩
    have hcase : orderOf (m : Int) arcs = (150, []) ∧ ranksOf (m : Int) arcs = (150, []) ∧ cycleOf (m : Int) arcs = (0, P) := by
      refine ⟨?_, ?_, ?_⟩
      · unfold orderOf; rw [if_pos hok]; exact if_neg hf
      · unfold ranksOf; rw [if_pos hok]; exact if_neg hf
      · unfold cycleOf; rw [if_pos hok]; show (0, (cycUp m arcs m).getD []) = _; rw [hcy]; rfl
    rw [hcase.1] at HP
    rw [hcase.2.1] at HQ
    rw [hcase.2.2] at HS
    have hpp := hBst.circ.1.pos
    have HCN := Lib.hid (circ_next hBst.circ)
    clear hok hcase hcy hf hBst
    go_enter Try.func6, Try.ntmps6
    go_wp2_with fail
    refine HA.out.mono ?_
    rintro _ w1 ⟨rfl, hb1⟩
    have HB1 := Lib.hid hb1
    clear hb1
    go_wp2_with fail
    (with_reducible refine (HP.out _ HB1.out).mono ?_)
    rintro _ w2 ⟨hb2, A2, c2, rfl, ho2⟩
    have HB2 := Lib.hid (Below.then HB1.out HB1.out.size hb2)
    have HO2 := Lib.hid ho2
    clear hb2 ho2
    go_wp2_with fail
    (with_reducible refine (HQ.out _ HB2.out).mono ?_)
    rintro _ w3 ⟨hb3, A3, c3, rfl, ho3⟩
    have HB3 := Lib.hid (Below.then HB2.out HB2.out.size hb3)
    have HO2 := Lib.hid (own_below HO2.out hb3)
    have HO3 := Lib.hid ho3
    clear hb3 ho3
    go_wp2_with fail
    (with_reducible refine (HS.out _ HB3.out).mono ?_)
    rintro _ w4 ⟨hb4, A4, c4, rfl, ho4⟩
    have HB4 := Lib.hid (Below.then HB3.out HB3.out.size hb4)
    have HO2 := Lib.hid (own_below HO2.out hb4)
    have HO3 := Lib.hid (own_below HO3.out hb4)
    have HO4 := Lib.hid ho4
    clear hb4 ho4
    obtain ⟨pl, hpl⟩ : ∃ pl, P.length = pl := ⟨_, rfl⟩
    have HPL := Lib.hid hpl
    have ho4 := HO4.out
    simp only [hpl] at ho4 ⊢
    rw [hpl] at hpp
    obtain ⟨gP, rfl, hgP, _, hcP⟩ := own_at ho4 hpp
    have hmx := own_max ho4
    have HQC : Hid (∀ (i : Nat) x, P[i]? = some x → w4.cell? ⟨gP, i, none⟩ = some (.int .i64 x)) := fun i x hx => by
      have := hcP i (.int .i64 x) (by simp [intCells, hx])
      rwa [add_plain] at this
    have g1 : ((pl : Int) == 0) = false := by rw [beq_eq_false_iff_ne]; omega
    clear hpl ho4 hcP HO4
    try simp only [List.length_nil]
    go_wp2_with fail
    go_loopg [99] pl (fun gk v99 wr => ∃ i : Nat, v99 = .int .i64 i ∧ i ≤ pl ∧ pl - i ≤ gk ∧ Hid (Below w4.heap.size w4 wr))
    case atStart => exact ⟨0, rfl, Nat.zero_le _, by omega, Below.refl _ _⟩
    case round =>
      obtain ⟨i, rfl, hi, hg, HB⟩ := hrel
      by_cases hil : i < pl
      · have i1 : (i : Int) < (pl : Int) := by omega
        have p0 : (0 : Int) < (pl : Int) := by omega
        obtain ⟨x, hx⟩ : ∃ x, P[i]? = some x := ⟨_, List.getElem?_eq_getElem (by have := HPL.out; omega)⟩
        have hsx := HCN.out.2.1 x (List.mem_of_getElem? hx)
        have q0 := cell_below HB.out hgP (HQC.out 0 _ HCN.out.1)
        have q1 := cell_below HB.out hgP (HQC.out i x hx)
        by_cases hil2 : i + 1 < pl
        · skip
          have i2 : (i : Int) < (pl : Int) - 1 := by omega
          obtain ⟨y, hy⟩ : ∃ y, P[i + 1]? = some y := ⟨_, List.getElem?_eq_getElem (by have := HPL.out; omega)⟩
          have q2 := cell_below HB.out hgP (HQC.out (i + 1) y hy)
          have HMEM := Lib.hid (HCN.out.2.2.1 i x y hx hy)
          have i3 : (i : Int) + 1 < (pl : Int) := by omega
          have i4 : i + 1 < pl := hil2
          clear hx hy
          obtain ⟨gk1, rfl⟩ : ∃ gk1 : Nat, gk1 = gk := ⟨_, rfl⟩
          go_wp2_with fail
          go_quiet (fail)
          have hdn := below_drewN wr nq
          have HBN := Lib.hid (Below.then HB.out HB.out.size hdn)
          have HBQ := Lib.hid (Below.then HB4.out HB4.out.size (Below.then HB.out HB.out.size hdn))
          have q0 : (wr.drewN nq).cell? ⟨gP, 0, none⟩ = some (.int .i64 (s : Int)) := q0
          have q1 : (wr.drewN nq).cell? ⟨gP, i, none⟩ = some (.int .i64 x) := q1
          have q2 : (wr.drewN nq).cell? ⟨gP, i + 1, none⟩ = some (.int .i64 y) := q2
          clear hdn
          generalize wr.drewN nq = W5 at *
          have hltP : gP < W5.heap.size := Nat.lt_of_lt_of_le hgP HBN.out.size
          go_wp2_with fail
          go_loopg [14, 121] n (fun gk v14 v121 wr => ∃ k : Nat, v121 = .int .i64 k ∧ k ≤ n ∧ n - k ≤ gk ∧ v14 = .bool ((arcs.take k).contains (x, y)) ∧ Hid (Below W5.heap.size W5 wr))
          case atStart => exact ⟨0, rfl, Nat.zero_le _, by omega, rfl, Below.refl _ _⟩
          case round =>
            obtain ⟨k, rfl, hk, hgk, rfl, HBT⟩ := hrel
            obtain ⟨b, hb⟩ : ∃ b, (arcs.take k).contains (x, y) = b := ⟨_, rfl⟩
            rw [hb]
            have HBB := Lib.hid hb
            clear hb
            by_cases hkn : k < n
            · have k1 : (k : Int) < (n : Int) := by omega
              obtain ⟨a1, b1, ad, hab, rfl, e0, e1⟩ := arc_get' (HR.out.below (Below.then HBQ.out HBQ.out.size HBT.out)) (k := k) (by have := HN.out; omega)
              have hst := arcs_take hab (x, y)
              rw [HBB.out] at hst
              have HST := Lib.hid hst
              have u0 := new_cell wr #[.int .i64 a1, .int .i64 b1] 34 0
              have u1 := new_cell wr #[.int .i64 a1, .int .i64 b1] 34 1
              have HB2 := Lib.hid (Below.then HBT.out HBT.out.size (below_alloc wr (.cells #[.int .i64 a1, .int .i64 b1] 34)))
              clear hst hab
              cases b with
              | true =>
                go_wp2_with fail
                go_roundg (gk - 1)
                case measure => omega
                case rel => exact ⟨k + 1, by go_num, by omega, by omega, by rw [HST.out]; rfl, HB2.out⟩
              | false =>
                by_cases ha : a1 = x
                · by_cases hb : b1 = y
                  · have f1 : (a1 == x) = true := by simp [ha]
                    have f2 : (b1 == y) = true := by simp [hb]
                    have HS2 : Hid ((arcs.take (k + 1)).contains (x, y) = true) := by show _ = _; rw [HST.out]; simp [ha, hb]
                    clear ha hb
                    go_wp2_with fail
                    go_roundg (gk - 1)
                    case measure => omega
                    case rel => exact ⟨k + 1, by go_num, by omega, by omega, by rw [HS2.out], HB2.out⟩
                  · have f1 : (a1 == x) = true := by simp [ha]
                    have f2 : (b1 == y) = false := by rw [beq_eq_false_iff_ne]; exact hb
                    have HS2 : Hid ((arcs.take (k + 1)).contains (x, y) = false) := by show _ = _; rw [HST.out]; simp [hb]
                    clear ha hb
                    go_wp2_with fail
                    go_roundg (gk - 1)
                    case measure => omega
                    case rel => exact ⟨k + 1, by go_num, by omega, by omega, by rw [HS2.out], HB2.out⟩
                · have f1 : (a1 == x) = false := by rw [beq_eq_false_iff_ne]; exact ha
                  have HS2 : Hid ((arcs.take (k + 1)).contains (x, y) = false) := by show _ = _; rw [HST.out]; simp [ha]
                  clear ha
                  go_wp2_with fail
                  go_roundg (gk - 1)
                  case measure => omega
                  case rel => exact ⟨k + 1, by go_num, by omega, by omega, by rw [HS2.out], HB2.out⟩
            · obtain rfl : k = n := by omega
              have k1 : ¬ (k : Int) < (k : Int) := by omega
              have hbt : b = true := by
                rw [← HBB.out, List.take_of_length_le (by have := HN.out; omega)]
                simpa using HMEM.out
              subst hbt
              have q0 := cell_below HBT.out hltP q0
              have hge : ¬ x < (s : Int) := by have := hsx; omega
              have HBF := Lib.hid (Below.then HBN.out HBN.out.size HBT.out)
              clear HBT
              go_wp2_with fail
              go_roundg (gk1 - 1)
              case measure => omega
              case rel => exact ⟨i + 1, by go_num, by omega, by omega, HBF.out⟩
        · skip
          have i2 : ¬ (i : Int) < (pl : Int) - 1 := by omega
          have HMEM := Lib.hid (HCN.out.2.2.2 i x hx (by have := HPL.out; omega))
          clear hx
          obtain ⟨gk1, rfl⟩ : ∃ gk1 : Nat, gk1 = gk := ⟨_, rfl⟩
          go_wp2_with fail
          go_quiet (fail)
          have hdn := below_drewN wr nq
          have HBN := Lib.hid (Below.then HB.out HB.out.size hdn)
          have HBQ := Lib.hid (Below.then HB4.out HB4.out.size (Below.then HB.out HB.out.size hdn))
          have q0 : (wr.drewN nq).cell? ⟨gP, 0, none⟩ = some (.int .i64 (s : Int)) := q0
          have q1 : (wr.drewN nq).cell? ⟨gP, i, none⟩ = some (.int .i64 x) := q1

          clear hdn
          generalize wr.drewN nq = W5 at *
          have hltP : gP < W5.heap.size := Nat.lt_of_lt_of_le hgP HBN.out.size
          go_wp2_with fail
          go_loopg [14, 121] n (fun gk v14 v121 wr => ∃ k : Nat, v121 = .int .i64 k ∧ k ≤ n ∧ n - k ≤ gk ∧ v14 = .bool ((arcs.take k).contains (x, (s : Int))) ∧ Hid (Below W5.heap.size W5 wr))
          case atStart => exact ⟨0, rfl, Nat.zero_le _, by omega, rfl, Below.refl _ _⟩
          case round =>
            obtain ⟨k, rfl, hk, hgk, rfl, HBT⟩ := hrel
            obtain ⟨b, hb⟩ : ∃ b, (arcs.take k).contains (x, (s : Int)) = b := ⟨_, rfl⟩
            rw [hb]
            have HBB := Lib.hid hb
            clear hb
            by_cases hkn : k < n
            · have k1 : (k : Int) < (n : Int) := by omega
              obtain ⟨a1, b1, ad, hab, rfl, e0, e1⟩ := arc_get' (HR.out.below (Below.then HBQ.out HBQ.out.size HBT.out)) (k := k) (by have := HN.out; omega)
              have hst := arcs_take hab (x, (s : Int))
              rw [HBB.out] at hst
              have HST := Lib.hid hst
              have u0 := new_cell wr #[.int .i64 a1, .int .i64 b1] 34 0
              have u1 := new_cell wr #[.int .i64 a1, .int .i64 b1] 34 1
              have HB2 := Lib.hid (Below.then HBT.out HBT.out.size (below_alloc wr (.cells #[.int .i64 a1, .int .i64 b1] 34)))
              clear hst hab
              cases b with
              | true =>
                go_wp2_with fail
                go_roundg (gk - 1)
                case measure => omega
                case rel => exact ⟨k + 1, by go_num, by omega, by omega, by rw [HST.out]; rfl, HB2.out⟩
              | false =>
                by_cases ha : a1 = x
                · by_cases hb : b1 = (s : Int)
                  · have f1 : (a1 == x) = true := by simp [ha]
                    have f2 : (b1 == (s : Int)) = true := by simp [hb]
                    have HS2 : Hid ((arcs.take (k + 1)).contains (x, (s : Int)) = true) := by show _ = _; rw [HST.out]; simp [ha, hb]
                    clear ha hb
                    go_wp2_with fail
                    go_roundg (gk - 1)
                    case measure => omega
                    case rel => exact ⟨k + 1, by go_num, by omega, by omega, by rw [HS2.out], HB2.out⟩
                  · have f1 : (a1 == x) = true := by simp [ha]
                    have f2 : (b1 == (s : Int)) = false := by rw [beq_eq_false_iff_ne]; exact hb
                    have HS2 : Hid ((arcs.take (k + 1)).contains (x, (s : Int)) = false) := by show _ = _; rw [HST.out]; simp [hb]
                    clear ha hb
                    go_wp2_with fail
                    go_roundg (gk - 1)
                    case measure => omega
                    case rel => exact ⟨k + 1, by go_num, by omega, by omega, by rw [HS2.out], HB2.out⟩
                · have f1 : (a1 == x) = false := by rw [beq_eq_false_iff_ne]; exact ha
                  have HS2 : Hid ((arcs.take (k + 1)).contains (x, (s : Int)) = false) := by show _ = _; rw [HST.out]; simp [ha]
                  clear ha
                  go_wp2_with fail
                  go_roundg (gk - 1)
                  case measure => omega
                  case rel => exact ⟨k + 1, by go_num, by omega, by omega, by rw [HS2.out], HB2.out⟩
            · obtain rfl : k = n := by omega
              have k1 : ¬ (k : Int) < (k : Int) := by omega
              have hbt : b = true := by
                rw [← HBB.out, List.take_of_length_le (by have := HN.out; omega)]
                simpa using HMEM.out
              subst hbt
              have q0 := cell_below HBT.out hltP q0
              have hge : ¬ x < (s : Int) := by have := hsx; omega
              have HBF := Lib.hid (Below.then HBN.out HBN.out.size HBT.out)
              clear HBT
              go_wp2_with fail
              go_roundg (gk1 - 1)
              case measure => omega
              case rel => exact ⟨i + 1, by go_num, by omega, by omega, HBF.out⟩
      · have i1 : ¬ (i : Int) < (pl : Int) := by omega
        go_wp2_with fail
        go_ret
        exact ⟨rfl, Below.then HB4.out HB4.out.size HB.out⟩
  -- an order
  have hno : cycUp m arcs m = none := (order_or_circle HOK.out).1 hf
  have hcase : orderOf (m : Int) arcs = (0, kahn m arcs m) ∧ ranksOf (m : Int) arcs = (0, (nodes m).map (rank m arcs)) ∧ cycleOf (m : Int) arcs = (0, []) := by
    refine ⟨?_, ?_, ?_⟩
    · unfold orderOf; rw [if_pos hok]; exact if_pos hf
    · unfold ranksOf; rw [if_pos hok]; exact if_pos hf
    · unfold cycleOf; rw [if_pos hok]; show (0, (cycUp m arcs m).getD []) = _; rw [hno]; rfl
  rw [hcase.1] at HP
  rw [hcase.2.1] at HQ
  rw [hcase.2.2] at HS
  have HOR := Lib.hid (full_order hf)
  have HF := Lib.hid hf
  have hmk := run_make_row' (P := Try.prog) 25 3 (.int .i64 0) 8 Try.underlying25 info_intK rfl .i64 .i64 m (by omega) (by omega)
  have hxl : ((nodes m).map (rank m arcs)).length = m := by rw [List.length_map, nodes_length]
  have HXL := Lib.hid hxl
  generalize kahn m arcs m = L at *
  have HXG : Hid (∀ i : Nat, i < m → ((nodes m).map (rank m arcs))[i]? = some (rank m arcs (i : Int))) := fun i hi => by simp [nodes, hi]
  generalize (nodes m).map (rank m arcs) = X at *
  clear hok hcase hno hf hxl
  go_enter Try.func6, Try.ntmps6
  go_wp2_with fail
  refine HA.out.mono ?_
  rintro _ w1 ⟨rfl, hb1⟩
  have HB1 := Lib.hid hb1
  clear hb1
  go_wp2_with fail
  (with_reducible refine (HP.out _ HB1.out).mono ?_)
  rintro _ w2 ⟨hb2, A2, c2, rfl, ho2⟩
  have HB2 := Lib.hid (Below.then HB1.out HB1.out.size hb2)
  have HO2 := Lib.hid ho2
  clear hb2 ho2
  go_wp2_with fail
  (with_reducible refine (HQ.out _ HB2.out).mono ?_)
  rintro _ w3 ⟨hb3, A3, c3, rfl, ho3⟩
  have HB3 := Lib.hid (Below.then HB2.out HB2.out.size hb3)
  have HO2 := Lib.hid (own_below HO2.out hb3)
  have HO3 := Lib.hid ho3
  clear hb3 ho3
  go_wp2_with fail
  (with_reducible refine (HS.out _ HB3.out).mono ?_)
  rintro _ w4 ⟨hb4, A4, c4, rfl, ho4⟩
  have HB4 := Lib.hid (Below.then HB3.out HB3.out.size hb4)
  have HO2 := Lib.hid (own_below HO2.out hb4)
  have HO3 := Lib.hid (own_below HO3.out hb4)
  have HO4 := Lib.hid ho4
  clear hb4 ho4
  have ho2 := HO2.out
  have ho3 := HO3.out
  simp only [HF.out, HXL.out, List.length_nil] at ho2 ho3 ⊢
  have HO2 := Lib.hid ho2
  have HO3 := Lib.hid ho3
  have HR0 := Lib.hid (World.rowIs_made w4 (.int .i64 0) m 3)
  have HB5 := Lib.hid (below_alloc w4 (.cells (madeCells #[.int .i64 0] m) 3))
  have f1 : ((m : Int) != (m : Int)) = false := by simp
  clear ho2 ho3
  go_wp2_with fail
  go_loopg [163] m (fun gk v163 wr => ∃ i : Nat, v163 = .int .i64 i ∧ i ≤ m ∧ m - i ≤ gk ∧ Hid (Below w4.heap.size w4 wr) ∧ Hid (wr.rowIs w4.heap.size 3 m fun x => .int .i64 (if x < i then -1 else 0)))
  case atStart => exact ⟨0, rfl, Nat.zero_le _, by omega, HB5.out, HR0.out.congr fun x _ => by simp⟩
  case round =>
    clear HR0 HB5 hmk
    obtain ⟨i, rfl, hi, hg, HB, HRW⟩ := hrel
    by_cases him : i < m
    · have i1 : (i : Int) < (m : Int) := by omega
      have c1 := HRW.out.cell him
      have c2 := HRW.out.frozen i
      have HRW2 := Lib.hid (HRW.out.set i (.int .i64 (-1)))
      have HBS := Lib.hid (below_set HB.out (Nat.le_refl _) i (.int .i64 (-1)))
      clear HRW
      go_wp2_with fail
      go_roundg (gk - 1)
      case measure => omega
      case rel => exact ⟨i + 1, by go_num, by omega, by omega, HBS.out, HRW2.out.congr fun x _ => by
        by_cases e : x = i
        · subst e; rw [if_pos rfl, if_pos (by omega)]
        · rw [if_neg e]
          by_cases e2 : x < i
          · rw [if_pos e2, if_pos (by omega)]
          · rw [if_neg e2, if_neg (by omega)]⟩
    · obtain rfl : i = m := by omega
      have i1 : ¬ (i : Int) < (i : Int) := by omega
      have HR2 : Hid (wr.rowIs w4.heap.size 3 i fun x => .int .i64 (posIn (L.take 0) x)) := HRW.out.congr fun x hx => by rw [if_pos hx]; rfl
      clear HRW
      obtain ⟨m, rfl⟩ : ∃ m, m = i := ⟨_, rfl⟩
      go_wp2_with fail
      go_loopg [172] m (fun gk v172 wr => ∃ i : Nat, v172 = .int .i64 i ∧ i ≤ m ∧ m - i ≤ gk ∧ Hid (Below w4.heap.size w4 wr) ∧ Hid (wr.rowIs w4.heap.size 3 m fun x => .int .i64 (posIn (L.take i) x)))
      case atStart => exact ⟨0, rfl, Nat.zero_le _, by omega, HB.out, HR2.out⟩
      case round =>
        clear HB HR2
        obtain ⟨i, rfl, hi, hg, HB, HRW⟩ := hrel
        by_cases him : i < m
        · have i1 : (i : Int) < (m : Int) := by omega
          obtain ⟨v, hv⟩ : ∃ v, L[i]? = some v := ⟨_, List.getElem?_eq_getElem (by have := HF.out; omega)⟩
          have hvr := (HOR.out.mem v).1 (List.mem_of_getElem? hv)
          obtain ⟨v, rfl⟩ : ∃ a : Nat, v = (a : Int) := ⟨v.toNat, by omega⟩
          have hvm : v < m := by omega
          have v1 : (v : Int) < (m : Int) := by omega
          have hnt := nodup_take' HOR.out.nodup hv
          obtain ⟨g2, rfl, hg2, _, hc2⟩ := own_at HO2.out (by omega)
          have e2 := hc2 i (.int .i64 (v : Int)) (by simp [intCells, hv])
          rw [add_plain] at e2
          have e2 := cell_below HB.out hg2 e2
          have c1 := HRW.out.cell hvm
          have c2 := HRW.out.frozen v
          have hp1 : posIn (L.take i) (v : Int) = -1 := by unfold posIn; rw [if_neg hnt]
          simp only [hp1] at c1
          have HRW2 : Hid ((wr.setCell ⟨w4.heap.size, v, none⟩ (.int .i64 (i : Int))).rowIs w4.heap.size 3 m fun x => .int .i64 (posIn (L.take (i + 1)) x)) := (HRW.out.set v (.int .i64 (i : Int))).congr fun x _ => by
            obtain ⟨h1, h2⟩ := List.getElem?_eq_some_iff.1 hv
            rw [List.take_succ_eq_append_getElem h1, h2, posIn_snoc hnt, List.length_take]
            have hl := HF.out
            by_cases e : x = v
            · subst e; rw [if_pos rfl, if_pos rfl]; congr 1; congr 1; omega
            · rw [if_neg e, if_neg (by omega)]
          have HBS := Lib.hid (below_set HB.out (Nat.le_refl _) v (.int .i64 (i : Int)))
          clear hv hvr hnt hc2 hp1 HRW
          go_wp2_with fail
          go_roundg (gk - 1)
          case measure => omega
          case rel => exact ⟨i + 1, by go_num, by omega, by omega, HBS.out, HRW2.out⟩
        · obtain rfl : i = m := by omega
          have i1 : ¬ (i : Int) < (i : Int) := by omega
          have HR2 : Hid (wr.rowIs w4.heap.size 3 i fun x => .int .i64 (posIn L x)) := HRW.out.congr fun x hx => by rw [List.take_of_length_le (by have := HF.out; omega)]
          clear HRW
          obtain ⟨m, rfl⟩ : ∃ m, m = i := ⟨_, rfl⟩
          obtain ⟨W5, rfl⟩ : ∃ W5 : World, W5 = wr := ⟨_, rfl⟩
          go_wp2_with fail
          go_loopg [198] n (fun gk v198 wr => ∃ k : Nat, v198 = .int .i64 k ∧ k ≤ n ∧ n - k ≤ gk ∧ Hid (Below W5.heap.size W5 wr))
          case atStart => exact ⟨0, rfl, Nat.zero_le _, by omega, Below.refl _ _⟩
          case round =>
            obtain ⟨k, rfl, hk, hgk, HBT⟩ := hrel
            have HB45 := Lib.hid (Below.then HB.out HB.out.size HBT.out)
            by_cases hkn : k < n
            · have k1 : (k : Int) < (n : Int) := by omega
              obtain ⟨a1, b1, ad, hab, rfl, e0, e1⟩ := arc_get' (HR.out.below (Below.then HB4.out HB4.out.size HB45.out)) (k := k) (by have := HN.out; omega)
              have hmem := List.mem_of_getElem? hab
              obtain ⟨s0, s1, s2, s3⟩ := HOK.out _ hmem
              obtain ⟨a1, rfl⟩ : ∃ a : Nat, a1 = (a : Int) := ⟨a1.toNat, by simp only at s0; omega⟩
              obtain ⟨b1, rfl⟩ : ∃ a : Nat, b1 = (a : Int) := ⟨b1.toNat, by simp only at s2; omega⟩
              have ham : a1 < m := by simp only at s1; omega
              have hbm : b1 < m := by simp only at s3; omega
              have aI : (a1 : Int) < (m : Int) := by omega
              have bI : (b1 : Int) < (m : Int) := by omega
              have hp := posIn_lt HOR.out HOK.out hmem
              have hq := rank_lt HOR.out HOK.out hmem
              obtain ⟨g3, rfl, hg3, _, hc3⟩ := own_at HO3.out (by omega)
              have x0 := hc3 a1 (.int .i64 (rank m arcs (a1 : Int))) (by simp [intCells, HXG.out a1 ham])
              have x1 := hc3 b1 (.int .i64 (rank m arcs (b1 : Int))) (by simp [intCells, HXG.out b1 hbm])
              rw [add_plain] at x0 x1
              have hbx := below_alloc wr (.cells #[.int .i64 (a1 : Int), .int .i64 (b1 : Int)] 34)
              have HBX := Lib.hid (Below.then HBT.out HBT.out.size hbx)
              have u0 := new_cell wr #[.int .i64 (a1 : Int), .int .i64 (b1 : Int)] 34 0
              have u1 := new_cell wr #[.int .i64 (a1 : Int), .int .i64 (b1 : Int)] 34 1
              have x0 := cell_below (Below.then HB45.out HB45.out.size hbx) hg3 x0
              have x1 := cell_below (Below.then HB45.out HB45.out.size hbx) hg3 x1
              have p0 := cell_below HBX.out HR2.out.lt (HR2.out.cell ham)
              have p1 := cell_below HBX.out HR2.out.lt (HR2.out.cell hbm)
              obtain ⟨y0, hy0⟩ : ∃ y, posIn L (a1 : Int) = y := ⟨_, rfl⟩
              obtain ⟨y1, hy1⟩ : ∃ y, posIn L (b1 : Int) = y := ⟨_, rfl⟩
              obtain ⟨z0, hz0⟩ : ∃ y, rank m arcs (a1 : Int) = y := ⟨_, rfl⟩
              obtain ⟨z1, hz1⟩ : ∃ y, rank m arcs (b1 : Int) = y := ⟨_, rfl⟩
              simp only [hy0, hy1, hz0, hz1] at p0 p1 x0 x1 hp hq
              have f3 : ¬ y1 ≤ y0 := by omega
              have f4 : ¬ z1 ≤ z0 := by omega
              clear hab hmem s0 s1 s2 s3 hc3 hbx hy0 hy1 hz0 hz1
              go_wp2_with fail
              go_quiet (fail)
              go_wp2_with fail
              go_roundg (gk - 1)
              case measure => omega
              case rel => exact ⟨k + 1, by go_num, by omega, by omega, Below.then HBX.out HBX.out.size (below_drewN _ _)⟩
            · have k1 : ¬ (k : Int) < (n : Int) := by omega
              go_wp2_with fail
              go_ret
              exact ⟨rfl, Below.then HB4.out HB4.out.size HB45.out⟩
end Go.Proofs.Yteonpfomlmfkjaa

