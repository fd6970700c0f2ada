/- Law StemmaTurned: two rows change places. -/
import Derived.Test.YtbmlkomfelkckaaSwapP
import Derived.Test.YtbmlkomfelkckaaBestT
import Derived.Test.YtbmlkomfelkckaaRMat
import Derived.Test.YtbmlkomfelkckaaAppRow
import Derived.Test.YtbmlkomfelkckaaBox
import Derived.BigRegion
namespace Go.Proofs.Ytbmlkomfelkckaa
open Go Go.RowKit
set_option maxRecDepth 100000

theorem info_rowT : (Try.prog.info? 43).map (fun i => (i.zero, i.size, i.bytes)) = some (some (.slice none 0 0), 1, 24) := by kernel_rfl

theorem mem_ne' {w : World} {b j : Nat} {u v : Value} {b' j' : Nat} (hne : b' ≠ b ∨ j' ≠ j) (h : w.cell? ⟨b', j', none⟩ = some v) : (w.setCell ⟨b, j, none⟩ u).cell? ⟨b', j', none⟩ = some v := by
  exact set_cell_ne (hne.imp Ne.symm Ne.symm) h

/-- What the rows' cells hold. -/
structure Vals (w : World) (rows : List (List Int)) (vs : List Value) : Prop where
  len : vs.length = rows.length
  one : ∀ u ∈ vs, u.oneCell' = true
  row : ∀ (k : Nat) r, rows[k]? = some r → ∃ A' c', vs[k]? = some (Value.slice A' r.length c') ∧ RdInt w A' r ∧ r.length ≤ c' ∧ c' ≤ 9223372036854775807

theorem rows_vals {w : World} {A : Option Addr} {rows : List (List Int)} (hr : RdRows w A rows) (h : 0 < rows.length) : ∃ ad vs, A = some ad ∧ Vals w rows vs ∧ ∀ (k : Nat) v, vs[k]? = some v → w.cell? (ad.add k) = some v := by
  obtain ⟨ad, _, _, rfl, -⟩ := hr 0 rows[0] (by simp [h])
  have hc : ∀ (k : Nat) r, rows[k]? = some r → ∃ A' c', w.cell? (ad.add k) = some (.slice A' r.length c') ∧ RdInt w A' r ∧ r.length ≤ c' ∧ c' ≤ 9223372036854775807 := by
    intro k r hk
    obtain ⟨ad', A', c', he, h1, h2⟩ := hr k r hk
    obtain rfl : ad = ad' := by simpa using he
    exact ⟨A', c', h1, h2⟩
  have hg : ∀ (k : Nat) v, ((List.range rows.length).map fun k : Nat => (w.cell? (ad.add k)).getD undef)[k]? = some v → w.cell? (ad.add k) = some v ∧ v.oneCell' = true := by
    intro k v hv
    rw [List.getElem?_map] at hv
    obtain ⟨q, hq, rfl⟩ := Option.map_eq_some_iff.1 hv
    obtain ⟨hk, rfl⟩ := List.getElem?_eq_some_iff.1 hq
    rw [List.length_range] at hk
    rw [List.getElem_range]
    obtain ⟨A', c', h1, -⟩ := hc k rows[k] (List.getElem?_eq_getElem hk)
    rw [h1]
    exact ⟨rfl, rfl⟩
  refine ⟨ad, (List.range rows.length).map fun k : Nat => (w.cell? (ad.add k)).getD undef, rfl, ⟨by simp, fun u hu => ?_, fun k r hk => ?_⟩, fun k v hv => (hg k v hv).1⟩
  · obtain ⟨k, hk⟩ := List.mem_iff_getElem?.1 hu
    exact (hg k u hk).2
  · obtain ⟨A', c', h1, h2⟩ := hc k r hk
    refine ⟨A', c', ?_, h2⟩
    rw [List.getElem?_map, List.getElem?_range (List.getElem?_eq_some_iff.1 hk).1, Option.map_some, h1]
    rfl

theorem turned_rows {w w' : World} {rows : List (List Int)} {vs : List Value} {g i j : Nat} (hv : Vals w rows vs) (hb : Below w.heap.size w w') (hi : i < rows.length) (hj : j < rows.length) (h : ∀ k, k < rows.length → w'.cell? ⟨g, k, none⟩ = vs[sw2 i j k]?) : RdRows w' (some ⟨g, 0, none⟩) (swRows rows i j) := by
  intro k r hk
  have hkn := (List.getElem?_eq_some_iff.1 hk).1
  rw [swRows_length] at hkn
  have hg := swRows_get hi hj k
  rw [List.getD_eq_getElem?_getD, hk] at hg
  have hs := sw2_lt hi hj hkn
  have hr : rows[sw2 i j k]? = some r := by
    rw [List.getElem?_eq_getElem hs]
    rw [List.getD_eq_getElem?_getD, List.getElem?_eq_getElem hs] at hg
    simpa using hg.symm
  obtain ⟨A', c', h1, h2, h3⟩ := hv.row _ r hr
  refine ⟨⟨g, 0, none⟩, A', c', rfl, ?_, h2.below hb, h3⟩
  rw [add_plain, h k hkn, h1]

theorem walk_copyRow {P : Program} {ops : Array Oper} {rest : List Oper} {o : Oper} {a : Act} {Q : Exit → Act → World → Prop} {W : World} {base : Nat} {e : TypeId} {v : Value} {n m c2 : Nat} {ad : Addr} {xs ys : List Value}
    (HO : W.ownsRow base e 1 v n xs) (hys : ys.length = m) (hc : ∀ j u, ys[j]? = some u → W.cell? (ad.add j) = some u) (hbase : base ≤ W.heap.size) (hl : n + m ≤ 1000000000) (t : TypeId) (ht : P.underlying t = some (.slice e)) {z : Value} {bytes : Nat}
    (hinfo : (P.info? e).map (fun i => (i.zero, i.size, i.bytes)) = some (some z, 1, bytes)) (hz : z.cells.size = 1 ∧ bytes ≤ 1000) (h1 : ∀ u ∈ ys, u.oneCell' = true)
    {s x : Operand} (hop : o.guard = none ∧ o.op = .call { callee := .builtin .append, args := #[s, x], argTypes := #[t, t] } ∧ a.eval s = v ∧ a.eval x = .slice (some ad) m c2)
    (h : ∀ v1 w1, w1.ownsRow base e 1 v1 (n + m) (xs ++ ys) → Upd W w1 v v1 → wpList P ops Q rest (a.put o.dst v1) w1) :
    wpList P ops Q (o :: rest) a W := by
  obtain ⟨hgd, ho, hs, hx⟩ := hop
  obtain ⟨i0, hi, hz0, hz1, hz2⟩ := info_parts hinfo
  have hb : (n + m) * bytes ≤ 1000000000 * 1000 := Nat.mul_le_mul hl hz.2
  refine wpList_append_own_at W hgd s x t ho base e i0 z 1 bytes ht hi hz0 hz1 hz2 hz.1 (by decide) v n xs hs HO ad m c2 ys hx (by omega) hc h1 (by simp only [maxLen]; omega) (by omega) hbase ?_
  intro v1 w1 hown hg _ hat
  refine h v1 w1 hown ⟨hg, ?_⟩
  rcases hat with hat | hat
  · exact .inl hat
  · exact .inr ⟨_, hat, Nat.le_refl _⟩

theorem own_soft {w : World} {base n c g : Nat} {e : TypeId} {size : Nat} {xs : List Value} (h : w.ownsRow base e size (.slice (some ⟨g, 0, none⟩) n c) n xs) (j : Nat) : w.frozen? ⟨g, j, none⟩ = false := by
  rcases h.2 with ⟨h1, _⟩ | ⟨g', cap, cur, h1, _, hh, _⟩
  · cases h1
  · obtain ⟨rfl, _⟩ : g = g' ∧ c = cap := by simpa using h1
    simp only [World.frozen?, hh]
    simp

theorem below_drew_any {B : Nat} {w w1 : World} (h : Below B w w1) : Below B w w1.drew := h.drew

theorem sw_cells {w : World} {g i j : Nat} {vs : List Value} {vi vj : Value} (h : ∀ (k : Nat) v, vs[k]? = some v → w.cell? ((⟨g, 0, none⟩ : Addr).add k) = some v) (hi : vs[i]? = some vi) (hj : vs[j]? = some vj) (k : Nat) (hk : k < vs.length) :
    (((w.setCell ⟨g, i, none⟩ vj).setCell ⟨g, j, none⟩ vi).drew).cell? ⟨g, k, none⟩ = vs[sw2 i j k]? := by
  have hc : ∀ (k : Nat) v, vs[k]? = some v → w.cell? ⟨g, k, none⟩ = some v := fun k v hv => by have := h k v hv; rwa [add_plain] at this
  show ((w.setCell ⟨g, i, none⟩ vj).setCell ⟨g, j, none⟩ vi).cell? ⟨g, k, none⟩ = _
  by_cases hkj : k = j
  · subst hkj
    have e : vs[sw2 i k k]? = some vi := by
      unfold sw2
      by_cases hki : k = i
      · subst hki; rw [if_pos rfl]; exact hi
      · rw [if_neg hki, if_pos rfl]; exact hi
    rw [e]
    by_cases hki : k = i
    · subst hki
      exact set_cell_eq (set_cell_eq (hc _ _ hj) _) _
    · exact set_cell_eq (mem_ne' (.inr hki) (hc _ _ hj)) _
  · by_cases hki : k = i
    · subst hki
      have e : vs[sw2 k j k]? = some vj := by unfold sw2; rw [if_pos rfl]; exact hj
      rw [e]
      exact mem_ne' (.inr hkj) (set_cell_eq (hc _ _ hi) _)
    · have e : sw2 i j k = k := by unfold sw2; rw [if_neg hki, if_neg hkj]
      rw [e, List.getElem?_eq_getElem hk]
      exact mem_ne' (.inr hkj) (mem_ne' (.inr hki) (hc _ _ (List.getElem?_eq_getElem hk)))

set_option maxHeartbeats 4000000 in
theorem turned_calls (A : Option Addr) (n c : Nat) (rows : List (List Int)) (i j : Int) (w : World) (hr : RdRows w A rows) (hn : rows.length = n) (hcap : n ≤ 9223372036854775807) :
    Calls Try.prog 6 #[.agg #[.slice A n c], .int .i64 i, .int .i64 j] w fun e w' => e = .returned (.bool true) ∧ Below w.heap.size w w' := by
  have HA := Lib.hid (awake22 (w.alloc (.cells #[.slice A n c] 36)))
  have HM := Lib.hid (fun (W : World) (h : Below w.heap.size w W) => rmcheck_calls A n c rows W (hr.below h) hn hcap)
  have HF := Lib.hid (fun (W : World) (h : Below w.heap.size w W) => few_calls A n c rows W (hr.below h) hn hcap)
  have HR := Lib.hid hr
  have HN := Lib.hid hn
  have b0 := below_alloc w (.cells #[.slice A n c] 36)
  have c0 := new_cell w #[.slice A n c] 36 0
  have hz : w.heap.size < (w.alloc (.cells #[.slice A n c] 36)).heap.size := by simp
  have HB0 := Lib.hid b0
  have HMO := Lib.hid (Classical.em (matOk rows = true))
  clear b0 hr hn
  go_enter Try.func6, Try.ntmps6
  go_wp2_with fail
  refine HA.out.mono ?_
  rintro _ w1 ⟨rfl, hb1⟩
  have c0 := cell_below hb1 hz c0
  have HB1 := Lib.hid (Below.then HB0.out HB0.out.size hb1)
  have hz1 := Nat.lt_of_lt_of_le hz hb1.size
  clear hb1 HA
  go_wp2_with fail
  (with_reducible refine (HM.out _ HB1.out).mono ?_)
  rintro _ w2 ⟨rfl, hb2⟩
  have c0 := cell_below hb2 hz1 c0
  have HB2 := Lib.hid (Below.then HB1.out HB1.out.size hb2)
  have hz2 := Nat.lt_of_lt_of_le hz1 hb2.size
  clear hb2 HM
  rcases HMO.out with hm | hm
  rotate_left
  · have e1 : errMat rows = 190 := by unfold errMat; rw [if_neg hm]
    rw [e1]
    go_wp2_with fail
    go_ret
    exact ⟨rfl, HB2.out⟩
  have e1 : errMat rows = 0 := by unfold errMat; rw [if_pos hm]
  rw [e1]
  clear e1
  go_wp2_with fail
  (with_reducible refine (HF.out _ HB2.out).mono ?_)
  rintro _ w3 ⟨b, rfl, hb3⟩
  have c0 := cell_below hb3 hz2 c0
  have HB3 := Lib.hid (Below.then HB2.out HB2.out.size hb3)
  have hz3 := Nat.lt_of_lt_of_le hz2 hb3.size
  have HMM := Lib.hid hm
  have hbase3 := HB3.out.size
  clear hb3 HF hm HMO
  cases b with
  | false =>
    go_wp2_with fail
    go_ret
    exact ⟨rfl, HB3.out⟩
  | true =>
    by_cases g1 : (6 : Int) < (n : Int)
    · skip
      go_wp2_with fail
      go_ret
      exact ⟨rfl, HB3.out⟩
    by_cases g2 : i < 0
    · skip
      go_wp2_with fail
      go_ret
      exact ⟨rfl, HB3.out⟩
    by_cases g3 : j < 0
    · skip
      go_wp2_with fail
      go_ret
      exact ⟨rfl, HB3.out⟩
    obtain ⟨i, rfl⟩ : ∃ k : Nat, i = (k : Int) := ⟨i.toNat, by omega⟩
    obtain ⟨j, rfl⟩ : ∃ k : Nat, j = (k : Int) := ⟨j.toNat, by omega⟩
    by_cases g4 : ¬ i < n
    · have g5 : ¬ (i : Int) < (n : Int) := by omega
      go_wp2_with fail
      go_ret
      exact ⟨rfl, HB3.out⟩
    have g4 := Decidable.not_not.1 g4
    have g6 : (i : Int) < (n : Int) := by omega
    by_cases g5 : ¬ j < n
    · have g7 : ¬ (j : Int) < (n : Int) := by omega
      go_wp2_with fail
      go_ret
      exact ⟨rfl, HB3.out⟩
    have g5 := Decidable.not_not.1 g5
    have g7 : (j : Int) < (n : Int) := by omega
    obtain ⟨ad, vs, rfl, hvs, hcs⟩ := rows_vals (HR.out.below HB3.out) (by have := HN.out; omega)
    have hvl : vs.length = n := hvs.len.trans HN.out
    obtain ⟨Ai, ci, hvi, -⟩ := hvs.row i _ (List.getElem?_eq_getElem (by have := HN.out; omega))
    obtain ⟨Aj, cj, hvj, -⟩ := hvs.row j _ (List.getElem?_eq_getElem (by have := HN.out; omega))
    generalize (rows[i]'(by have := HN.out; omega)).length = mi at hvi
    generalize (rows[j]'(by have := HN.out; omega)).length = mj at hvj
    have HV := Lib.hid hvs
    have HL := Lib.hid (best_turned HMM.out (by have := HN.out; omega : i < rows.length) (by have := HN.out; omega : j < rows.length))
    have HC1 := Lib.hid (fun (W : World) (h : Below w.heap.size w W) => (tbest_calls (some ad) n c rows W (HR.out.below h) HN.out hcap).mono (R' := fun e w' => Below W.heap.size W w' ∧ ∃ A c, e = .returned (.tuple #[.slice A (bestAll rows).l.length c, .int .i64 (lowI (bestAll rows).low), .int .i64 0])) (fun e w' hh => by
      unfold RetBestT at hh
      rw [if_pos HMM.out, if_pos (by have := HN.out; omega)] at hh
      obtain ⟨h1, A1, k1, v1, h2, -⟩ := hh
      exact ⟨h1, A1, k1, h2⟩))
    have HC2 := Lib.hid (fun (W : World) (g k : Nat) (h : RdRows W (some ⟨g, 0, none⟩) (swRows rows i j)) => (tbest_calls (some ⟨g, 0, none⟩) n k (swRows rows i j) W h ((swRows_length rows i j).trans HN.out) hcap).mono (R' := fun e w' => Below W.heap.size W w' ∧ ∃ A c, e = .returned (.tuple #[.slice A (bestAll rows).l.length c, .int .i64 (lowI (bestAll rows).low), .int .i64 0])) (fun e w' hh => by
      unfold RetBestT at hh
      rw [if_pos (swRows_ok HMM.out (by have := HN.out; omega) (by have := HN.out; omega)).1, if_pos (by rw [swRows_length]; have := HN.out; omega), HL.out.1, HL.out.2] at hh
      obtain ⟨h1, A1, k1, v1, h2, -⟩ := hh
      exact ⟨h1, A1, k1, h2⟩))
    obtain ⟨L, hL⟩ : ∃ L, (bestAll rows).l.length = L := ⟨_, rfl⟩
    obtain ⟨M, hM⟩ : ∃ M, lowI (bestAll rows).low = M := ⟨_, rfl⟩
    rw [hL, hM] at HC1 HC2
    have f1 : ((L : Int) == (L : Int)) = true := by simp
    have f2 : (M == M) = true := by simp
    clear hL hM HL hvs
    go_wp2_with (at_builtin; refine walk_copyRow (World.ownsRow_nil w3 w3.heap.size 43 1) hvl hcs (Nat.le_refl _) (by omega) 34 Try.underlying34 info_rowT ⟨rfl, by decide⟩ HV.out.one (by exact ⟨rfl, rfl, rfl, rfl⟩) ?_; intro v1 w4 ho4 hu4)
    obtain ⟨A4, k4, rfl, -⟩ := own_slice ho4
    rw [Nat.zero_add, List.nil_append] at ho4
    obtain ⟨g, rfl, hg1, hg2, hg3⟩ := own_at ho4 (by omega)
    have hb4 := hu4.below (Nat.le_refl _) (by intro b hb; cases hb)
    have q4 := hb4.size
    have ki : w4.cell? ⟨g, i, none⟩ = some (.slice Ai mi ci) := by have := hg3 i _ hvi; rwa [add_plain] at this
    have kj : w4.cell? ⟨g, j, none⟩ = some (.slice Aj mj cj) := by have := hg3 j _ hvj; rwa [add_plain] at this
    have zi := own_soft ho4 i
    have zj := own_soft ho4 j
    have HG := Lib.hid hg3
    have c03 := Lib.hid c0
    have c0 := cell_below hb4 hz3 c0
    have HB4 := Lib.hid (Below.then HB3.out HB3.out.size hb4)
    have hz4 := Nat.lt_of_lt_of_le hz3 hb4.size
    have HVI := Lib.hid hvi
    have HVJ := Lib.hid hvj
    have HW34 := Lib.hid hb4
    have hgw : ¬ g = w.heap.size := by omega
    have hg1' : w3.heap.size ≤ g := by omega
    clear hb4 hu4 ho4 hg3 hvi hvj hcs q4
    by_cases hij : i = j
    · subst hij
      have hvv : Ai = Aj ∧ mi = mj ∧ ci = cj := by have := HVI.out; rw [HVJ.out] at this; simpa [eq_comm] using this
      obtain ⟨rfl, rfl, rfl⟩ := hvv
      clear kj zj
      go_region
      all_goals
        go_wp2_with fail
        have hb5 : Below w3.heap.size w3 (((w4.setCell ⟨g, i, none⟩ (.slice Ai mi ci)).setCell ⟨g, i, none⟩ (.slice Ai mi ci)).drew) := below_drew_any (below_set (below_set HW34.out hg1' _ _) hg1' _ _)
        have HX := Lib.hid (turned_rows (i := i) (j := i) HV.out hb5 (by have := HN.out; omega) (by have := HN.out; omega) (fun k hk => sw_cells HG.out HVI.out HVJ.out k (by have := HN.out; omega)))
        generalize ((w4.setCell ⟨g, i, none⟩ (.slice Ai mi ci)).setCell ⟨g, i, none⟩ (.slice Ai mi ci)).drew = w5 at *
        have c0 := cell_below hb5 hz3 c03.out
        have HB5 := Lib.hid (Below.then HB3.out HB3.out.size hb5)
        have hz5 := Nat.lt_of_lt_of_le hz3 hb5.size
        clear hb5
        (with_reducible refine (HC1.out _ HB5.out).mono ?_)
        rintro _ w6 ⟨hb6, A6, k6, rfl⟩
        have HB6 := Lib.hid (Below.then HB5.out HB5.out.size hb6)
        have HX := Lib.hid (HX.out.below hb6)
        clear hb6
        go_wp2_with fail
        (with_reducible refine (HC2.out _ g _ HX.out).mono ?_)
        rintro _ w7 ⟨hb7, A7, k7, rfl⟩
        have HB7 := Lib.hid (Below.then HB6.out HB6.out.size hb7)
        clear hb7
        go_wp2_with fail
        go_ret
        exact ⟨rfl, HB7.out⟩
    · go_region
      all_goals
        go_wp2_with fail
        have hb5 : Below w3.heap.size w3 (((w4.setCell ⟨g, i, none⟩ (.slice Aj mj cj)).setCell ⟨g, j, none⟩ (.slice Ai mi ci)).drew) := below_drew_any (below_set (below_set HW34.out hg1' _ _) hg1' _ _)
        have HX := Lib.hid (turned_rows (i := i) (j := j) HV.out hb5 (by have := HN.out; omega) (by have := HN.out; omega) (fun k hk => sw_cells HG.out HVI.out HVJ.out k (by have := HN.out; omega)))
        generalize ((w4.setCell ⟨g, i, none⟩ (.slice Aj mj cj)).setCell ⟨g, j, none⟩ (.slice Ai mi ci)).drew = w5 at *
        have c0 := cell_below hb5 hz3 c03.out
        have HB5 := Lib.hid (Below.then HB3.out HB3.out.size hb5)
        have hz5 := Nat.lt_of_lt_of_le hz3 hb5.size
        clear hb5
        (with_reducible refine (HC1.out _ HB5.out).mono ?_)
        rintro _ w6 ⟨hb6, A6, k6, rfl⟩
        have HB6 := Lib.hid (Below.then HB5.out HB5.out.size hb6)
        have HX := Lib.hid (HX.out.below hb6)
        clear hb6
        go_wp2_with fail
        (with_reducible refine (HC2.out _ g _ HX.out).mono ?_)
        rintro _ w7 ⟨hb7, A7, k7, rfl⟩
        have HB7 := Lib.hid (Below.then HB6.out HB6.out.size hb7)
        clear hb7
        go_wp2_with fail
        go_ret
        exact ⟨rfl, HB7.out⟩
end Go.Proofs.Ytbmlkomfelkckaa
