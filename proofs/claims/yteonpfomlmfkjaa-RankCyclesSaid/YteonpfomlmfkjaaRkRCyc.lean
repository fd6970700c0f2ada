/- siglumref15.Cycle. -/
import Derived.Test.YteonpfomlmfkjaaRkFar
import Derived.Test.YteonpfomlmfkjaaRkCyc
namespace Go.Proofs.Yteonpfomlmfkjaa
open Go Go.RowKit
set_option maxRecDepth 100000

theorem near_circ {arcs : List (Int × Int)} {s : Int} {m T : Nat} {h : Int → Int} (hok : Ranged m arcs) (hF : Far arcs s m h) (hN : Nearest arcs s h (T : Int)) : ∃ C, Circ arcs s C ∧ C.length = T + 1 := by
  rcases hN with ⟨h1, _⟩ | ⟨T', h1, ⟨b, h2, h3⟩, _⟩
  · omega
  · obtain rfl : T = T' := by omega
    obtain ⟨_, _, b0, b1⟩ := hok _ h2
    rcases hF b b0 b1 with ⟨h4, _⟩ | ⟨j, hj, h4, _⟩
    · omega
    · obtain rfl : j = T := by omega
      rcases h4.cases with ⟨rfl, rfl⟩ | ⟨hs, j', b', rfl, h6, h7⟩
      · exact ⟨[b], ⟨.start, h2⟩, rfl⟩
      · obtain ⟨C, hC, hl⟩ := to_circ j' ([s] ++ [b]) (.step .start h2 hs) (by rw [lastOf_snoc]; exact h4)
        exact ⟨C, hC, by rw [hl]; simp; omega⟩

theorem near_le {arcs : List (Int × Int)} {s : Int} {m T : Nat} {h : Int → Int} (hok : Ranged m arcs) (hs : 0 ≤ s ∧ s < (m : Int)) (hF : Far arcs s m h) (hN : Nearest arcs s h (T : Int)) : T + 1 ≤ m := by
  obtain ⟨C, hC, _⟩ := near_circ hok hF hN
  rcases roundOf_spec hok hs m with ⟨P, _, k2, k3⟩ | ⟨_, k2⟩
  · have := nearest_le hok hF hN k2.circ
    omega
  · have := (k2 C hC).2
    omega

theorem cycUp_far {n : Nat} {arcs : List (Int × Int)} (hok : Ranged n arcs) {k : Nat} (hk : k < n) {l : List Int} (hc : cycUp n arcs k = some l) (h : ∀ Q, Circ arcs (k : Int) Q → l.length ≤ Q.length) : cycUp n arcs (k + 1) = some l := by
  rw [cycUp_succ, hc]
  have hl := cycUp_pos hok (Nat.le_of_lt hk) hc
  simp only
  rcases roundOf_spec hok (s := (k : Int)) ⟨by omega, by omega⟩ (l.length - 1) with ⟨P, k1, k2, k3⟩ | ⟨k1, _⟩
  · have := h P k2.circ
    omega
  · rw [k1]; rfl

theorem Nearest.hit {arcs : List (Int × Int)} {s t b : Int} {i : Nat} {h : Int → Int} (k : Nearest (arcs.take i) s h t) (hi : arcs[i]? = some (s, b)) (h2 : 0 ≤ h b) (h3 : t < 0 ∨ h b < t) : Nearest (arcs.take (i + 1)) s h (h b) := by
  have hl := (List.getElem?_eq_some_iff.1 hi).1
  refine .inr ⟨(h b).toNat, by omega, ⟨b, ?_, by omega⟩, fun b' hb' => ?_⟩
  · obtain ⟨h1, h2⟩ := List.getElem?_eq_some_iff.1 hi
    rw [List.take_succ_eq_append_getElem h1, h2]
    simp
  · rcases mem_take_succ hi hb' with hb' | hb'
    · rcases k with ⟨_, k⟩ | ⟨T, k1, _, k2⟩
      · exact .inl (k b' hb')
      · rcases k2 b' hb' with k2 | k2
        · exact .inl k2
        · exact .inr (by omega)
    · obtain rfl := (Prod.mk.inj hb').2
      exact .inr (by omega)

theorem take_sub {arcs : List (Int × Int)} {i : Nat} {q : Int × Int} (h : q ∈ arcs.take i) : q ∈ arcs.take (i + 1) := by
  have := List.mem_of_mem_take (i := i) (l := arcs.take (i + 1)) (by rw [List.take_take, Nat.min_eq_left (Nat.le_succ i)]; exact h)
  exact this

theorem Nearest.miss {arcs : List (Int × Int)} {s t a b : Int} {i : Nat} {h : Int → Int} (k : Nearest (arcs.take i) s h t) (hi : arcs[i]? = some (a, b)) (hno : ¬ (a = s ∧ h b ≠ -1 ∧ (t < 0 ∨ h b < t))) : Nearest (arcs.take (i + 1)) s h t := by
  rcases k with ⟨k1, k⟩ | ⟨T, k1, ⟨b', k2, k3⟩, k4⟩
  · refine .inl ⟨k1, fun b' hb' => ?_⟩
    rcases mem_take_succ hi hb' with hb' | hb'
    · exact k b' hb'
    · obtain ⟨e1, e2⟩ := Prod.mk.inj hb'
      subst e1 e2
      exact Classical.byContradiction fun hne => hno ⟨rfl, hne, .inl (by omega)⟩
  · refine .inr ⟨T, k1, ⟨b', take_sub k2, k3⟩, fun b' hb' => ?_⟩
    rcases mem_take_succ hi hb' with hb' | hb'
    · exact k4 b' hb'
    · obtain ⟨e1, e2⟩ := Prod.mk.inj hb'
      subst e1 e2
      by_cases e : h b' = -1
      · exact .inl e
      · exact .inr (by
          apply Classical.byContradiction
          intro hne
          exact hno ⟨rfl, e, .inr (by omega)⟩)

/-- The next node, looked for among some. -/
def NextS (arcs : List (Int × Int)) (s : Int) (h : Int → Int) (k : Nat) (u x : Int) : Prop := (x = -1 ∧ ∀ b, (u, b) ∈ arcs → s < b → h b ≠ (k : Int)) ∨ (0 ≤ x ∧ NextIs arcs s h k u x)

theorem NextS.hit {arcs : List (Int × Int)} {s u x b : Int} {i k : Nat} {h : Int → Int} (q : NextS (arcs.take i) s h k u x) (hi : arcs[i]? = some (u, b)) (h0 : 0 ≤ b) (h1 : s < b) (h2 : h b = (k : Int)) (h3 : x < 0 ∨ b < x) : NextS (arcs.take (i + 1)) s h k u b := by
  refine .inr ⟨h0, ?_, h1, h2, fun b' hb' h4 h5 => ?_⟩
  · obtain ⟨h1, h2⟩ := List.getElem?_eq_some_iff.1 hi
    rw [List.take_succ_eq_append_getElem h1, h2]
    simp
  · rcases mem_take_succ hi hb' with hb' | hb'
    · rcases q with ⟨_, q⟩ | ⟨q0, _, _, _, q⟩
      · exact absurd h5 (q b' hb' h4)
      · have := q b' hb' h4 h5
        omega
    · obtain rfl := (Prod.mk.inj hb').2
      omega

theorem NextS.miss {arcs : List (Int × Int)} {s u x a b : Int} {i k : Nat} {h : Int → Int} (q : NextS (arcs.take i) s h k u x) (hi : arcs[i]? = some (a, b)) (hno : ¬ (a = u ∧ s < b ∧ h b = (k : Int) ∧ (x < 0 ∨ b < x))) : NextS (arcs.take (i + 1)) s h k u x := by
  rcases q with ⟨q1, q⟩ | ⟨q0, q1, q2, q3, q⟩
  · refine .inl ⟨q1, fun b' hb' h1 h2 => ?_⟩
    rcases mem_take_succ hi hb' with hb' | hb'
    · exact q b' hb' h1 h2
    · obtain ⟨e1, e2⟩ := Prod.mk.inj hb'
      subst e1 e2
      exact hno ⟨rfl, h1, h2, .inl (by omega)⟩
  · refine .inr ⟨q0, take_sub q1, q2, q3, fun b' hb' h1 h2 => ?_⟩
    rcases mem_take_succ hi hb' with hb' | hb'
    · exact q b' hb' h1 h2
    · obtain ⟨e1, e2⟩ := Prod.mk.inj hb'
      subst e1 e2
      apply Classical.byContradiction
      intro hne
      exact hno ⟨rfl, h1, h2, .inr (by omega)⟩

theorem NextS.fin {arcs : List (Int × Int)} {s x : Int} {m T i k : Nat} {h : Int → Int} {Q : List Int} (hok : Ranged m arcs) (hF : Far arcs s m h) (hG : Greedy arcs s h T (k + 1) Q) (q : NextS (arcs.take i) s h (k + 1) (lastOf Q) x) (hi : arcs.length ≤ i) : NextIs arcs s h (k + 1) (lastOf Q) x := by
  rw [List.take_of_length_le hi] at q
  rcases q with ⟨_, q⟩ | ⟨_, q⟩
  · obtain ⟨b, h1, h2, h3⟩ := hG.has hok hF
    exact absurd h3 (q b h1 h2)
  · exact q

set_option maxHeartbeats 16000000 in
theorem rcycle_calls (A : Option Addr) (n c : Nat) (arcs : List (Int × Int)) (z : Int) (w : World) (hr : RdArcs w A arcs) (hn : arcs.length = n) (hcap : n ≤ 9223372036854775807) (hz1 : -9223372036854775808 ≤ z) (hz2 : z ≤ 9223372036854775807) :
    Calls Try.prog 11 #[.int .i64 z, .slice A n c] w (RetList w (cycleOf z arcs)) := by
  have HWR := Lib.hid (wrong_calls A n c arcs z w hr hn hcap hz1 hz2)
  have HR := Lib.hid hr
  have HN := Lib.hid hn
  clear hr hn
  by_cases hok : arcsOk z arcs
  rotate_left
  · have HE : Hid (cycleOf z arcs = (2, [])) := by show _ = _; unfold cycleOf; rw [if_neg hok]
    go_enter Try.func11, Try.ntmps11
    go_wp2_with fail
    (with_reducible refine HWR.out.mono ?_)
    rintro e w1 ⟨rfl, hyes, hno⟩
    obtain rfl := hno hok
    clear hyes hno hok
    go_wp2_with fail
    go_ret2
    rw [HE.out]
    exact RetList.nil (Below.refl _ _)
  obtain ⟨m, rfl⟩ : ∃ m : Nat, z = (m : Int) := ⟨z.toNat, by have := hok.1; omega⟩
  have hm : m ≤ 4096 := by have := hok.2.1; omega
  have HOK := Lib.hid hok
  have HOR : Hid (Ranged m arcs) := hok.2.2.2
  have HE : Hid (cycleOf (m : Int) arcs = (0, (cycUp m arcs m).getD [])) := by show _ = _; unfold cycleOf; rw [if_pos hok]; rfl
  have hnq0 := fun (W : World) (k q : Nat) => run_neq_slice_nil W 25 3 none k q 0 0 Try.underlying25
  have hnq1 := fun (W : World) (a : Addr) (k q : Nat) => run_neq_slice_nil W 25 3 (some a) k q 0 0 Try.underlying25
  simp only [Option.isNone_none, Option.isNone_some, Bool.not_true, Bool.not_false] at hnq0 hnq1
  have HFA := Lib.hid (fun (W : World) (h : Below w.heap.size w W) (s : Nat) (hs : s < m) => far_calls A n c m s arcs W (HR.out.below h) HN.out hcap HOR.out hm hs)
  clear hok
  go_enter Try.func11, Try.ntmps11
  go_wp2_with fail
  (with_reducible refine HWR.out.mono ?_)
  rintro e w1 ⟨rfl, hyes, hno⟩
  obtain rfl := hyes HOK.out
  clear hyes hno HWR
  go_wp2_with fail
  go_loopg [6, 7] m (fun gk v6 v7 wr => ∃ k : Nat, v7 = .int .i64 k ∧ k ≤ m ∧ m - k ≤ gk ∧ Hid (Below w1.heap.size w1 wr) ∧ Hid (BestAt wr w1.heap.size v6 (cycUp m arcs k)))
  case atStart => exact ⟨0, rfl, Nat.zero_le _, by omega, Below.refl _ _, rfl⟩
  case round =>
    obtain ⟨k, rfl, hk, hg, HB, HBE⟩ := hrel
    by_cases hkm : k < m
    rotate_left
    · obtain rfl : k = m := by omega
      have k1 : ¬ (k : Int) < (k : Int) := by omega
      obtain ⟨r, hrr⟩ : ∃ r, cycUp k arcs k = r := ⟨_, rfl⟩
      rw [hrr] at HBE HE
      clear hrr
      cases r with
      | none =>
        obtain rfl : u6 = Value.slice none 0 0 := HBE.out
        go_wp2_with fail
        go_ret2
        rw [HE.out]
        exact RetList.nil HB.out
      | some l =>
        obtain ⟨g, c, rfl, ho⟩ := HBE.out
        have HO := Lib.hid ho
        clear ho
        go_wp2_with fail
        go_ret2
        rw [HE.out]
        exact ⟨HB.out, _, c, rfl, HO.out⟩
    have k1 : (k : Int) < (m : Int) := by omega
    have hfa := HFA.out wr HB.out k hkm
    have hszr := HB.out.size
    obtain ⟨gd, hgd⟩ : ∃ g, wr.heap.size = g := ⟨_, rfl⟩
    rw [hgd] at hfa
    have HGD : Hid (w1.heap.size ≤ gd) := by show _ ≤ _; omega
    have HFC := Lib.hid hfa
    have HGDE := Lib.hid hgd
    have HOW := Lib.hid (⟨rfl, rfl⟩ : wr = wr ∧ u6 = u6)
    obtain ⟨w0, rfl⟩ : ∃ w0, w0 = w1 := ⟨_, rfl⟩
    obtain ⟨gk0, rfl⟩ : ∃ g, g = gk := ⟨_, rfl⟩
    clear hfa hgd hszr HOW
    go_wp2_with fail
    (with_reducible refine HFC.out.mono ?_)
    rintro e w2 ⟨hb2, h, rfl, hrw, hF⟩
    have HB2 : Hid (Below w0.heap.size w0 w2) := Below.then HB.out HB.out.size (by rw [HGDE.out]; exact hb2)
    have HBE2 : Hid (BestAt w2 w0.heap.size u6 (cycUp m arcs k)) := HBE.out.below (by rw [HGDE.out]; exact hb2)
    have HRW := Lib.hid hrw
    have HFF := Lib.hid hF
    have HDL : Hid (gd < w2.heap.size) := hrw.lt
    clear hb2 hrw hF HB HBE HFC HGDE
    go_wp2_with fail
    go_loopg [9, 10] n (fun gk v9 v10 W => ∃ (i : Nat) (t : Int), v9 = .int .i64 t ∧ v10 = .int .i64 i ∧ i ≤ n ∧ n - i ≤ gk ∧ W = w2 ∧ Hid (Nearest (arcs.take i) (k : Int) h t))
    case atStart => exact ⟨0, -1, rfl, rfl, Nat.zero_le _, by omega, rfl, .inl ⟨rfl, fun b hb => (by cases hb)⟩⟩
    case round =>
      obtain ⟨i, t, rfl, rfl, hi, hgi, rfl, HNE⟩ := hrel
      by_cases hin : i < n
      · have i1 : (i : Int) < (n : Int) := by omega
        obtain ⟨a, b, ad, hab, rfl, e0, e1⟩ := arc_get (HR.out.below HB2.out) (k := i) (by have := HN.out; omega)
        obtain ⟨a0, a1, b0, b1⟩ := HOR.out _ (List.mem_of_getElem? hab)
        have HAB := Lib.hid hab
        have HFB := Lib.hid (HFF.out b b0 b1)
        obtain ⟨b, rfl⟩ : ∃ b' : Nat, b = (b' : Int) := ⟨b.toNat, by simp only at b0; omega⟩
        have hbm : b < m := by simp only at b1; omega
        have bI : (b : Int) < (m : Int) := by omega
        have c1 := HRW.out.cell hbm
        have HMS := Lib.hid (fun hno => HNE.out.miss HAB.out hno)
        have HHI := Lib.hid (fun (e : a = (k : Int)) => HNE.out.hit (b := (b : Int)) (by rw [HAB.out, e]))
        obtain ⟨hb, hhb⟩ : ∃ x, h (b : Int) = x := ⟨_, rfl⟩
        rw [hhb] at c1 HMS HHI HFB
        clear hab a0 a1 b0 b1 hhb
        by_cases t1 : a = (k : Int)
        · have f1 : (a == (k : Int)) = true := by simp [t1]
          by_cases t2 : (k : Int) ≤ (b : Int)
          · by_cases t3 : 0 ≤ hb
            · by_cases t4 : t < 0
              · have HN2 := Lib.hid (HHI.out t1 t3 (.inl t4))
                clear HMS HHI HFB t1
                go_wp2_with fail
                go_roundg (gk - 1)
                case measure => omega
                case rel => exact ⟨i + 1, hb, rfl, by go_num, by omega, by omega, rfl, HN2.out⟩
              · by_cases t5 : hb < t
                · have HN2 := Lib.hid (HHI.out t1 t3 (.inr t5))
                  clear HMS HHI HFB t1
                  go_wp2_with fail
                  go_roundg (gk - 1)
                  case measure => omega
                  case rel => exact ⟨i + 1, hb, rfl, by go_num, by omega, by omega, rfl, HN2.out⟩
                · have HN2 := Lib.hid (HMS.out (fun hh => by rcases hh.2.2 with q | q <;> omega))
                  clear HMS HHI HFB t1
                  go_wp2_with fail
                  go_roundg (gk - 1)
                  case measure => omega
                  case rel => exact ⟨i + 1, t, rfl, by go_num, by omega, by omega, rfl, HN2.out⟩
            · have HN2 := Lib.hid (HMS.out (fun hh => by rcases HFB.out with ⟨q, _⟩ | ⟨j, q, _⟩ <;> omega))
              clear HMS HHI HFB t1
              go_wp2_with fail
              go_roundg (gk - 1)
              case measure => omega
              case rel => exact ⟨i + 1, t, rfl, by go_num, by omega, by omega, rfl, HN2.out⟩
          · have HN2 := Lib.hid (HMS.out (fun hh => by
              rcases HFB.out with ⟨q, _⟩ | ⟨j, q, q2, _⟩
              · omega
              · have := q2.ge; omega))
            clear HMS HHI HFB t1
            go_wp2_with fail
            go_roundg (gk - 1)
            case measure => omega
            case rel => exact ⟨i + 1, t, rfl, by go_num, by omega, by omega, rfl, HN2.out⟩
        · have f1 : (a == (k : Int)) = false := by rw [beq_eq_false_iff_ne]; exact t1
          have HN2 := Lib.hid (HMS.out (fun hh => t1 hh.1))
          clear HMS HHI HFB t1
          go_wp2_with fail
          go_roundg (gk - 1)
          case measure => omega
          case rel => exact ⟨i + 1, t, rfl, by go_num, by omega, by omega, rfl, HN2.out⟩
      · obtain rfl : i = n := by omega
        obtain ⟨n, rfl⟩ : ∃ n', n' = i := ⟨_, rfl⟩
        have i1 : ¬ (n : Int) < (n : Int) := by omega
        have hNE := HNE.out
        rw [List.take_of_length_le (by have := HN.out; omega)] at hNE
        have hcase := hNE
        have HNR := Lib.hid hNE
        clear hNE HNE
        rcases hcase with ⟨rfl, -⟩ | ⟨T, rfl, -, -⟩
        · have HCU := Lib.hid (cycUp_skip HOR.out hkm (fun Q => nearest_none HOR.out HFF.out HNR.out Q))
          go_wp2_with fail
          go_roundg (gk0 - 1)
          case measure => omega
          case rel => exact ⟨k + 1, by go_num, by omega, by omega, HB2.out, by rw [HCU.out]; exact HBE2.out⟩
        have hT := near_le HOR.out ⟨by omega, k1⟩ HFF.out HNR.out
        have t1 : ¬ (T : Int) < 0 := by omega
        have ti : -9223372036854775808 ≤ (T : Int) + 1 ∧ (T : Int) + 1 ≤ 9223372036854775807 := by omega
        have HT := Lib.hid hT
        have HGO := Lib.hid (HBE2.out)
        cases hc : cycUp m arcs k with
        | some l0 =>
          have hb := HBE2.out
          rw [hc] at hb
          obtain ⟨g0, c0, rfl, ho0⟩ := hb
          by_cases t2 : (l0.length : Int) ≤ (T : Int) + 1
          · have HCU := Lib.hid (cycUp_far HOR.out hkm hc (fun Q hQ => by have := nearest_le HOR.out HFF.out HNR.out hQ; omega))
            have HO0 := Lib.hid ho0
            clear hc ho0 HBE2 HGO
            go_wp2_with fail
            go_roundg (gk0 - 1)
            case measure => omega
            case rel => exact ⟨k + 1, by go_num, by omega, by omega, HB2.out, by rw [HCU.out]; exact ⟨g0, c0, rfl, HO0.out⟩⟩
          have HTK : Hid (∀ Q, Best arcs (k : Int) Q → Q.length = T + 1 → cycUp m arcs (k + 1) = some Q) := fun Q hQ hl => by
            rw [cycUp_take HOR.out hkm hQ, hc]
            simp only
            rw [if_neg (by omega)]
          clear hc ho0 HBE2 HGO hT
          have HG0 := Lib.hid (Greedy.start HNR.out)
          have HO3 : Hid ((wr.alloc (.cells #[.int .i64 (k : Int)] 3)).ownsRow wr.heap.size 3 1 (.slice (some ⟨wr.heap.size, 0, none⟩) 1 1) 1 (intCells [(k : Int)])) := own_new wr #[.int .i64 (k : Int)] 3 1 1 wr.heap.size (Nat.le_refl _) rfl (by omega)
          have HBA := Lib.hid (below_alloc wr (.cells #[.int .i64 (k : Int)] 3))
          obtain ⟨wa, rfl⟩ : ∃ wa, wa = wr := ⟨_, rfl⟩
          go_wp2_with fail
          generalize wa.alloc (.cells #[.int .i64 (k : Int)] 3) = W3 at *
          go_loopg [12, 13] T (fun gk v12 v13 W => ∃ (j : Nat) (Q : List Int) (g c : Nat), v12 = .slice (some ⟨g, 0, none⟩) Q.length c ∧ v13 = .int .i64 j ∧ j ≤ gk ∧ Hid (Below wa.heap.size wa W) ∧ Hid (W.ownsRow wa.heap.size 3 1 (.slice (some ⟨g, 0, none⟩) Q.length c) Q.length (intCells Q)) ∧ Hid (Greedy arcs (k : Int) h T j Q))
          case atStart => exact ⟨T, [(k : Int)], wa.heap.size, 1, rfl, rfl, Nat.le_refl _, HBA.out, HO3.out, HG0.out⟩
          case round =>
            clear HBA HO3 HG0
            obtain ⟨j, Q, g, cq, rfl, rfl, hj, HB, HO, HG⟩ := hrel
            cases j with
            | zero =>
              have hd := HG.out.done HOR.out HFF.out HNR.out
              have HCU := Lib.hid (HTK.out Q hd.1 hd.2)
              clear hd HTK
              go_wp2_with fail
              go_roundg (gk0 - 1)
              case measure => omega
              case rel => exact ⟨k + 1, by go_num, by omega, by omega, Below.then HB2.out HB2.out.size HB.out, by rw [HCU.out]; exact ⟨g, cq, rfl, own_mono HO.out HB2.out.size⟩⟩
            | succ j =>
              have HGJ := Lib.hid HG.out
              obtain ⟨J, hJ⟩ : ∃ J : Nat, j + 1 = J := ⟨_, rfl⟩
              have hlT := HG.out.len
              rw [hJ] at HG hj hlT ⊢
              have j1 : 0 < J := by omega
              have ji : -9223372036854775808 ≤ (J : Int) - 1 ∧ (J : Int) - 1 ≤ 9223372036854775807 := by have := HT.out; omega
              have HJ := Lib.hid hJ
              clear hlT hJ
              obtain ⟨q, hq⟩ : ∃ q, Q.length = q + 1 := ⟨Q.length - 1, by have := HG.out.way.pos; omega⟩
              have hqb : q + 1 ≤ 4096 := by have := HG.out.len; have := HT.out; omega
              have hla : Q[q]? = some (lastOf Q) := by
                have := lastOf_get HG.out.way.pos
                rwa [show Q.length - 1 = q by omega] at this
              have HQ := Lib.hid hq
              simp only [hq] at HO ⊢
              obtain ⟨u, hu⟩ : ∃ u, lastOf Q = u := ⟨_, rfl⟩
              have HU := Lib.hid hu
              obtain ⟨g', he', hgl, hgb, hcc⟩ := own_at HO.out (by omega)
              obtain rfl : g = g' := by simpa using he'
              have w1c := hcc q (.int .i64 u) (by simp [intCells, hla, hu])
              rw [add_plain] at w1c
              have HWC := Lib.hid w1c
              obtain ⟨wo, rfl⟩ : ∃ wo : World, wo = wr := ⟨_, rfl⟩
              obtain ⟨gk1, rfl⟩ : ∃ gk1 : Nat, gk1 = gk := ⟨_, rfl⟩
              clear hq hla hu he' hcc hgb w1c
              go_wp2_with fail
              go_loopg [14, 15] n (fun gk v14 v15 W => ∃ (i : Nat) (x : Int), v14 = .int .i64 x ∧ v15 = .int .i64 i ∧ i ≤ n ∧ n - i ≤ gk ∧ (∃ p, W = wo.drewN p) ∧ Hid (NextS (arcs.take i) (k : Int) h J u x))
              case atStart => exact ⟨0, -1, rfl, rfl, Nat.zero_le _, by omega, ⟨0, rfl⟩, .inl ⟨rfl, fun b hb => (by cases hb)⟩⟩
              case round =>
                obtain ⟨i, x, rfl, rfl, hi, hgi, ⟨p, rfl⟩, HNS⟩ := hrel
                by_cases hin : i < n
                · have i1 : (i : Int) < (n : Int) := by omega
                  obtain ⟨a, b, ad, hab, rfl, e0, e1⟩ := arc_get (HR.out.below (Below.then HB2.out HB2.out.size HB.out)) (k := i) (by have := HN.out; omega)
                  obtain ⟨a0, a1, b0, b1⟩ := HOR.out _ (List.mem_of_getElem? hab)
                  have HAB := Lib.hid hab
                  obtain ⟨b, rfl⟩ : ∃ b' : Nat, b = (b' : Int) := ⟨b.toNat, by simp only at b0; omega⟩
                  have hbm : b < m := by simp only at b1; omega
                  have bI : (b : Int) < (m : Int) := by omega
                  have c1 := cell_below HB.out HDL.out (HRW.out.cell hbm)
                  have HMS := Lib.hid (fun hno => HNS.out.miss HAB.out hno)
                  have HHI := Lib.hid (fun (e : a = u) => HNS.out.hit (b := (b : Int)) (by rw [HAB.out, e]) (by omega))
                  obtain ⟨hb, hhb⟩ : ∃ x, h (b : Int) = x := ⟨_, rfl⟩
                  rw [hhb] at c1 HMS HHI
                  have e0 : (wo.drewN p).cell? _ = _ := e0
                  have e1 : (wo.drewN p).cell? _ = _ := e1
                  have w1c := HWC.out
                  clear hab a0 a1 b0 b1 hhb
                  by_cases t1 : a = u
                  · have f1 : (a == u) = true := by simp [t1]
                    by_cases t2 : (k : Int) < (b : Int)
                    · by_cases t3 : hb = (J : Int)
                      · have f3 : (hb == (J : Int)) = true := by simp [t3]
                        by_cases t4 : x < 0
                        · have HN2 := Lib.hid (HHI.out t1 t2 t3 (.inl t4))
                          clear HMS HHI t1 t3
                          go_wp2_with fail
                          go_quiet (fail)
                          go_wp2_with fail
                          go_roundg (gk - 1)
                          case measure => omega
                          case rel => exact ⟨i + 1, b, rfl, by go_num, by omega, by omega, ⟨_, rfl⟩, HN2.out⟩
                        · by_cases t5 : (b : Int) < x
                          · have HN2 := Lib.hid (HHI.out t1 t2 t3 (.inr t5))
                            clear HMS HHI t1 t3
                            go_wp2_with fail
                            have f4 : decide (x < 0) = false := by simp only [decide_eq_false_iff_not]; omega
                            go_quiet (fail)
                            go_wp2_with fail
                            go_roundg (gk - 1)
                            case measure => omega
                            case rel => exact ⟨i + 1, b, rfl, by go_num, by omega, by omega, ⟨_, rfl⟩, HN2.out⟩
                          · have HN2 := Lib.hid (HMS.out (fun hh => by rcases hh.2.2.2 with q | q <;> omega))
                            clear HMS HHI t1 t3
                            go_wp2_with fail
                            have f4 : decide (x < 0) = false := by simp only [decide_eq_false_iff_not]; omega
                            have f5 : decide ((b : Int) < x) = false := by simp only [decide_eq_false_iff_not]; omega
                            go_quiet (fail)
                            go_wp2_with fail
                            go_roundg (gk - 1)
                            case measure => omega
                            case rel => exact ⟨i + 1, x, rfl, by go_num, by omega, by omega, ⟨_, rfl⟩, HN2.out⟩
                      · have f3 : (hb == (J : Int)) = false := by rw [beq_eq_false_iff_ne]; exact t3
                        have HN2 := Lib.hid (HMS.out (fun hh => t3 hh.2.2.1))
                        clear HMS HHI t1 t3
                        go_wp2_with fail
                        go_quiet (fail)
                        go_wp2_with fail
                        go_roundg (gk - 1)
                        case measure => omega
                        case rel => exact ⟨i + 1, x, rfl, by go_num, by omega, by omega, ⟨_, rfl⟩, HN2.out⟩
                    · have HN2 := Lib.hid (HMS.out (fun hh => t2 hh.2.1))
                      clear HMS HHI t1
                      go_wp2_with fail
                      have f2 : decide (k < b) = false := by simp only [decide_eq_false_iff_not]; omega
                      go_quiet (fail)
                      go_wp2_with fail
                      go_roundg (gk - 1)
                      case measure => omega
                      case rel => exact ⟨i + 1, x, rfl, by go_num, by omega, by omega, ⟨_, rfl⟩, HN2.out⟩
                  · have f1 : (a == u) = false := by rw [beq_eq_false_iff_ne]; exact t1
                    have HN2 := Lib.hid (HMS.out (fun hh => t1 hh.1))
                    clear HMS HHI t1
                    go_wp2_with fail
                    go_quiet (fail)
                    go_wp2_with fail
                    go_roundg (gk - 1)
                    case measure => omega
                    case rel => exact ⟨i + 1, x, rfl, by go_num, by omega, by omega, ⟨_, rfl⟩, HN2.out⟩
                · obtain rfl : i = n := by omega
                  have i1 : ¬ (i : Int) < (i : Int) := by omega
                  have hx : NextIs arcs (k : Int) h (j + 1) (lastOf Q) x := by
                    have hns := HNS.out
                    rw [← HU.out, ← HJ.out] at hns
                    exact hns.fin HOR.out HFF.out HGJ.out (by have := HN.out; omega)
                  have HG2 := Lib.hid (HGJ.out.next HOR.out HFF.out HNR.out hx)
                  have HO2 : Hid ((wo.drewN p).ownsRow wa.heap.size 3 1 (.slice (some ⟨g, 0, none⟩) (q + 1) cq) (q + 1) (intCells Q)) := own_below HO.out (below_drewN wo p)
                  have HB3 : Hid (Below wa.heap.size wa (wo.drewN p)) := Below.then HB.out HB.out.size (below_drewN wo p)
                  have hsz := HB3.out.size
                  clear hx HNS HNR HTK
                  generalize wo.drewN p = wd at *
                  go_wp2_with (at_builtin; refine walk_append1 HO2.out hsz (by omega) 25 Try.underlying25 info_intB ⟨rfl, by decide, by decide⟩ _ (oneI _) (by refine ⟨rfl, rfl, rfl, rfl, ?_⟩; simp) ?_; intro v10 w10 ho10 hu10)
                  have hco : intCells Q ++ (#[Value.int .i64 x] : Array Value).toList = intCells (Q ++ [x]) := by rw [intCells_append]; rfl
                  rw [hco] at ho10
                  obtain ⟨A10, c10, rfl, -⟩ := own_slice ho10
                  obtain ⟨g10, rfl, -⟩ := own_at ho10 (by omega)
                  have hlx : q + 1 + 1 = (Q ++ [x]).length := by rw [List.length_append, List.length_singleton, HQ.out]
                  have HB4 := Lib.hid (HB3.out.trans (hu10.below hsz (own_base HO2.out)))
                  rw [hlx] at ho10 ⊢
                  have HO4 := Lib.hid ho10
                  clear ho10 hu10 hco
                  go_roundg (gk1 - 1)
                  case measure => have := HJ.out; omega
                  case rel => exact ⟨j, Q ++ [x], g10, c10, rfl, by have := HJ.out; first | go_num | (congr 1; omega), by have := HJ.out; omega, HB4.out, HO4.out, HG2.out⟩
        | none =>
          have hb := HBE2.out
          rw [hc] at hb
          obtain rfl : u6 = Value.slice none 0 0 := hb
          have HTK : Hid (∀ Q, Best arcs (k : Int) Q → Q.length = T + 1 → cycUp m arcs (k + 1) = some Q) := fun Q hQ hl => by
            rw [cycUp_take HOR.out hkm hQ, hc]
          clear hc HBE2 HGO hT
          have HG0 := Lib.hid (Greedy.start HNR.out)
          have HO3 : Hid ((wr.alloc (.cells #[.int .i64 (k : Int)] 3)).ownsRow wr.heap.size 3 1 (.slice (some ⟨wr.heap.size, 0, none⟩) 1 1) 1 (intCells [(k : Int)])) := own_new wr #[.int .i64 (k : Int)] 3 1 1 wr.heap.size (Nat.le_refl _) rfl (by omega)
          have HBA := Lib.hid (below_alloc wr (.cells #[.int .i64 (k : Int)] 3))
          obtain ⟨wa, rfl⟩ : ∃ wa, wa = wr := ⟨_, rfl⟩
          go_wp2_with fail
          generalize wa.alloc (.cells #[.int .i64 (k : Int)] 3) = W3 at *
          go_loopg [12, 13] T (fun gk v12 v13 W => ∃ (j : Nat) (Q : List Int) (g c : Nat), v12 = .slice (some ⟨g, 0, none⟩) Q.length c ∧ v13 = .int .i64 j ∧ j ≤ gk ∧ Hid (Below wa.heap.size wa W) ∧ Hid (W.ownsRow wa.heap.size 3 1 (.slice (some ⟨g, 0, none⟩) Q.length c) Q.length (intCells Q)) ∧ Hid (Greedy arcs (k : Int) h T j Q))
          case atStart => exact ⟨T, [(k : Int)], wa.heap.size, 1, rfl, rfl, Nat.le_refl _, HBA.out, HO3.out, HG0.out⟩
          case round =>
            clear HBA HO3 HG0
            obtain ⟨j, Q, g, cq, rfl, rfl, hj, HB, HO, HG⟩ := hrel
            cases j with
            | zero =>
              have hd := HG.out.done HOR.out HFF.out HNR.out
              have HCU := Lib.hid (HTK.out Q hd.1 hd.2)
              clear hd HTK
              go_wp2_with fail
              go_roundg (gk0 - 1)
              case measure => omega
              case rel => exact ⟨k + 1, by go_num, by omega, by omega, Below.then HB2.out HB2.out.size HB.out, by rw [HCU.out]; exact ⟨g, cq, rfl, own_mono HO.out HB2.out.size⟩⟩
            | succ j =>
              have HGJ := Lib.hid HG.out
              obtain ⟨J, hJ⟩ : ∃ J : Nat, j + 1 = J := ⟨_, rfl⟩
              have hlT := HG.out.len
              rw [hJ] at HG hj hlT ⊢
              have j1 : 0 < J := by omega
              have ji : -9223372036854775808 ≤ (J : Int) - 1 ∧ (J : Int) - 1 ≤ 9223372036854775807 := by have := HT.out; omega
              have HJ := Lib.hid hJ
              clear hlT hJ
              obtain ⟨q, hq⟩ : ∃ q, Q.length = q + 1 := ⟨Q.length - 1, by have := HG.out.way.pos; omega⟩
              have hqb : q + 1 ≤ 4096 := by have := HG.out.len; have := HT.out; omega
              have hla : Q[q]? = some (lastOf Q) := by
                have := lastOf_get HG.out.way.pos
                rwa [show Q.length - 1 = q by omega] at this
              have HQ := Lib.hid hq
              simp only [hq] at HO ⊢
              obtain ⟨u, hu⟩ : ∃ u, lastOf Q = u := ⟨_, rfl⟩
              have HU := Lib.hid hu
              obtain ⟨g', he', hgl, hgb, hcc⟩ := own_at HO.out (by omega)
              obtain rfl : g = g' := by simpa using he'
              have w1c := hcc q (.int .i64 u) (by simp [intCells, hla, hu])
              rw [add_plain] at w1c
              have HWC := Lib.hid w1c
              obtain ⟨wo, rfl⟩ : ∃ wo : World, wo = wr := ⟨_, rfl⟩
              obtain ⟨gk1, rfl⟩ : ∃ gk1 : Nat, gk1 = gk := ⟨_, rfl⟩
              clear hq hla hu he' hcc hgb w1c
              go_wp2_with fail
              go_loopg [14, 15] n (fun gk v14 v15 W => ∃ (i : Nat) (x : Int), v14 = .int .i64 x ∧ v15 = .int .i64 i ∧ i ≤ n ∧ n - i ≤ gk ∧ (∃ p, W = wo.drewN p) ∧ Hid (NextS (arcs.take i) (k : Int) h J u x))
              case atStart => exact ⟨0, -1, rfl, rfl, Nat.zero_le _, by omega, ⟨0, rfl⟩, .inl ⟨rfl, fun b hb => (by cases hb)⟩⟩
              case round =>
                obtain ⟨i, x, rfl, rfl, hi, hgi, ⟨p, rfl⟩, HNS⟩ := hrel
                by_cases hin : i < n
                · have i1 : (i : Int) < (n : Int) := by omega
                  obtain ⟨a, b, ad, hab, rfl, e0, e1⟩ := arc_get (HR.out.below (Below.then HB2.out HB2.out.size HB.out)) (k := i) (by have := HN.out; omega)
                  obtain ⟨a0, a1, b0, b1⟩ := HOR.out _ (List.mem_of_getElem? hab)
                  have HAB := Lib.hid hab
                  obtain ⟨b, rfl⟩ : ∃ b' : Nat, b = (b' : Int) := ⟨b.toNat, by simp only at b0; omega⟩
                  have hbm : b < m := by simp only at b1; omega
                  have bI : (b : Int) < (m : Int) := by omega
                  have c1 := cell_below HB.out HDL.out (HRW.out.cell hbm)
                  have HMS := Lib.hid (fun hno => HNS.out.miss HAB.out hno)
                  have HHI := Lib.hid (fun (e : a = u) => HNS.out.hit (b := (b : Int)) (by rw [HAB.out, e]) (by omega))
                  obtain ⟨hb, hhb⟩ : ∃ x, h (b : Int) = x := ⟨_, rfl⟩
                  rw [hhb] at c1 HMS HHI
                  have e0 : (wo.drewN p).cell? _ = _ := e0
                  have e1 : (wo.drewN p).cell? _ = _ := e1
                  have w1c := HWC.out
                  clear hab a0 a1 b0 b1 hhb
                  by_cases t1 : a = u
                  · have f1 : (a == u) = true := by simp [t1]
                    by_cases t2 : (k : Int) < (b : Int)
                    · by_cases t3 : hb = (J : Int)
                      · have f3 : (hb == (J : Int)) = true := by simp [t3]
                        by_cases t4 : x < 0
                        · have HN2 := Lib.hid (HHI.out t1 t2 t3 (.inl t4))
                          clear HMS HHI t1 t3
                          go_wp2_with fail
                          go_quiet (fail)
                          go_wp2_with fail
                          go_roundg (gk - 1)
                          case measure => omega
                          case rel => exact ⟨i + 1, b, rfl, by go_num, by omega, by omega, ⟨_, rfl⟩, HN2.out⟩
                        · by_cases t5 : (b : Int) < x
                          · have HN2 := Lib.hid (HHI.out t1 t2 t3 (.inr t5))
                            clear HMS HHI t1 t3
                            go_wp2_with fail
                            have f4 : decide (x < 0) = false := by simp only [decide_eq_false_iff_not]; omega
                            go_quiet (fail)
                            go_wp2_with fail
                            go_roundg (gk - 1)
                            case measure => omega
                            case rel => exact ⟨i + 1, b, rfl, by go_num, by omega, by omega, ⟨_, rfl⟩, HN2.out⟩
                          · have HN2 := Lib.hid (HMS.out (fun hh => by rcases hh.2.2.2 with q | q <;> omega))
                            clear HMS HHI t1 t3
                            go_wp2_with fail
                            have f4 : decide (x < 0) = false := by simp only [decide_eq_false_iff_not]; omega
                            have f5 : decide ((b : Int) < x) = false := by simp only [decide_eq_false_iff_not]; omega
                            go_quiet (fail)
                            go_wp2_with fail
                            go_roundg (gk - 1)
                            case measure => omega
                            case rel => exact ⟨i + 1, x, rfl, by go_num, by omega, by omega, ⟨_, rfl⟩, HN2.out⟩
                      · have f3 : (hb == (J : Int)) = false := by rw [beq_eq_false_iff_ne]; exact t3
                        have HN2 := Lib.hid (HMS.out (fun hh => t3 hh.2.2.1))
                        clear HMS HHI t1 t3
                        go_wp2_with fail
                        go_quiet (fail)
                        go_wp2_with fail
                        go_roundg (gk - 1)
                        case measure => omega
                        case rel => exact ⟨i + 1, x, rfl, by go_num, by omega, by omega, ⟨_, rfl⟩, HN2.out⟩
                    · have HN2 := Lib.hid (HMS.out (fun hh => t2 hh.2.1))
                      clear HMS HHI t1
                      go_wp2_with fail
                      have f2 : decide (k < b) = false := by simp only [decide_eq_false_iff_not]; omega
                      go_quiet (fail)
                      go_wp2_with fail
                      go_roundg (gk - 1)
                      case measure => omega
                      case rel => exact ⟨i + 1, x, rfl, by go_num, by omega, by omega, ⟨_, rfl⟩, HN2.out⟩
                  · have f1 : (a == u) = false := by rw [beq_eq_false_iff_ne]; exact t1
                    have HN2 := Lib.hid (HMS.out (fun hh => t1 hh.1))
                    clear HMS HHI t1
                    go_wp2_with fail
                    go_quiet (fail)
                    go_wp2_with fail
                    go_roundg (gk - 1)
                    case measure => omega
                    case rel => exact ⟨i + 1, x, rfl, by go_num, by omega, by omega, ⟨_, rfl⟩, HN2.out⟩
                · obtain rfl : i = n := by omega
                  have i1 : ¬ (i : Int) < (i : Int) := by omega
                  have hx : NextIs arcs (k : Int) h (j + 1) (lastOf Q) x := by
                    have hns := HNS.out
                    rw [← HU.out, ← HJ.out] at hns
                    exact hns.fin HOR.out HFF.out HGJ.out (by have := HN.out; omega)
                  have HG2 := Lib.hid (HGJ.out.next HOR.out HFF.out HNR.out hx)
                  have HO2 : Hid ((wo.drewN p).ownsRow wa.heap.size 3 1 (.slice (some ⟨g, 0, none⟩) (q + 1) cq) (q + 1) (intCells Q)) := own_below HO.out (below_drewN wo p)
                  have HB3 : Hid (Below wa.heap.size wa (wo.drewN p)) := Below.then HB.out HB.out.size (below_drewN wo p)
                  have hsz := HB3.out.size
                  clear hx HNS HNR HTK
                  generalize wo.drewN p = wd at *
                  go_wp2_with (at_builtin; refine walk_append1 HO2.out hsz (by omega) 25 Try.underlying25 info_intB ⟨rfl, by decide, by decide⟩ _ (oneI _) (by refine ⟨rfl, rfl, rfl, rfl, ?_⟩; simp) ?_; intro v10 w10 ho10 hu10)
                  have hco : intCells Q ++ (#[Value.int .i64 x] : Array Value).toList = intCells (Q ++ [x]) := by rw [intCells_append]; rfl
                  rw [hco] at ho10
                  obtain ⟨A10, c10, rfl, -⟩ := own_slice ho10
                  obtain ⟨g10, rfl, -⟩ := own_at ho10 (by omega)
                  have hlx : q + 1 + 1 = (Q ++ [x]).length := by rw [List.length_append, List.length_singleton, HQ.out]
                  have HB4 := Lib.hid (HB3.out.trans (hu10.below hsz (own_base HO2.out)))
                  rw [hlx] at ho10 ⊢
                  have HO4 := Lib.hid ho10
                  clear ho10 hu10 hco
                  go_roundg (gk1 - 1)
                  case measure => have := HJ.out; omega
                  case rel => exact ⟨j, Q ++ [x], g10, c10, rfl, by have := HJ.out; first | go_num | (congr 1; omega), by have := HJ.out; omega, HB4.out, HO4.out, HG2.out⟩
end Go.Proofs.Yteonpfomlmfkjaa
