/- siglumref20.Parse: the same is told of each text. -/
import Derived.Test.YtbmlkomfelkckaaRdWalk
import Derived.Test.YtbmlkomfelkckaaFormR
import Derived.Test.YtbmlkomfelkckaaParse
namespace Go.Proofs.Ytbmlkomfelkckaa
open Go Go.RowKit
set_option maxRecDepth 100000

theorem names_uniq {ns : List ByteArray} (h : namesOk ns = true) (j k : Nat) (x y : ByteArray) (hjk : j < k) (hx : ns[j]? = some x) (hy : ns[k]? = some y) : x.toList ≠ y.toList := by
  intro he
  have hk := (List.getElem?_eq_some_iff.1 hy).1
  have h1 := (namesOk_true h).2.2 k hk
  have e : nameAt ns k = y := by unfold nameAt; rw [List.getD_eq_getElem?_getD, hy]; rfl
  unfold nameGood at h1
  rw [e, idx_take_some hjk hx (by rw [beq_iff_eq]; exact he.symm)] at h1
  simp at h1

theorem rinv_start {W : World} {m : Nat} (hz : W.heap.size = m) (s : ByteArray) (n : Nat) :
    RInv W (m + 1) m (m + 2) s n ((W.alloc (.cells (madeCells #[.bool false] n) 4)).alloc (.cells #[.string s, .int .i64 0, .slice none 0 0, .slice (some ⟨m, 0, none⟩) n n] 104)) 0 [] [] (.slice none 0 0) := by
  have h1 := below_alloc W (.cells (madeCells #[.bool false] n) 4)
  have h2 := below_alloc (W.alloc (.cells (madeCells #[.bool false] n) 4)) (.cells #[.string s, .int .i64 0, .slice none 0 0, .slice (some ⟨m, 0, none⟩) n n] 104)
  have r1 := (World.rowIs_made W (.bool false) n 4).alloc (.cells #[.string s, .int .i64 0, .slice none 0 0, .slice (some ⟨m, 0, none⟩) n n] 104)
  have r2 := World.rowIs_alloc (W.alloc (.cells (madeCells #[.bool false] n) 4)) #[.string s, .int .i64 0, .slice none 0 0, .slice (some ⟨m, 0, none⟩) n n] 104 (rcell s 0 (.slice none 0 0) m n) (by
    intro i hi
    have : i = 0 ∨ i = 1 ∨ i = 2 ∨ i = 3 := by simp at hi; omega
    rcases this with rfl | rfl | rfl | rfl <;> rfl)
  rw [World.size_alloc, hz] at r2
  rw [hz] at r1
  exact ⟨Below.then h1 (by simp) h2, ⟨by omega, by omega, by omega, by omega, by omega, by simp; omega⟩, r2, r1.congr fun i _ => by simp, World.ownsRow_nil _ _ _ _⟩

theorem below_drew_set {w w3 : World} {v : Value} (h : Below w.heap.size w w3) : Below w.heap.size w ((w3.setCell ⟨w.heap.size, 0, none⟩ v).drew) :=
  (below_set h (Nat.le_refl _) 0 v).trans ((below_drewN (w3.setCell ⟨w.heap.size, 0, none⟩ v) 1).mono (below_set h (Nat.le_refl _) 0 v).size)

theorem names_world {w w' : World} {q : Nat} (h : w' = (w.alloc (.cells #[.slice none 0 0] 26)).drewN q) :
    w'.cell? ⟨w.heap.size, 0, none⟩ = some (.slice none 0 0) ∧ w'.frozen? ⟨w.heap.size, 0, none⟩ = false ∧ w'.heap.size = w.heap.size + 1 ∧ Below w.heap.size w w' := by
  subst h
  have hb := below_drewN (w.alloc (.cells #[.slice none 0 0] 26)) q
  exact ⟨cell_below hb (by simp) (new_cell w _ _ 0), frozen_below hb (by simp) (new_frozen w _ _ 0), by show (w.alloc _).heap.size = _; simp, Below.then (below_alloc w _) (by simp) hb⟩

set_option maxHeartbeats 4000000 in
theorem rparse_calls (s : ByteArray) (A : Option Addr) (n c : Nat) (ns : List ByteArray) (w : World) (hss : s.size ≤ 9223372036854775807) (hr : RdStr w A ns) (hs : ∀ s ∈ ns, s.size ≤ 9223372036854775807) (hn : ns.length = n) (hcap : n ≤ 9223372036854775807) :
    Calls Try.prog 23 #[.string s, .slice A n c] w (RetParse w (parseOut s ns)) := by
  have HN := Lib.hid hn
  have HR := Lib.hid hr
  have HNM := Lib.hid (fun (W : World) (hb : Below w.heap.size w W) => names_calls A n c ns W (hr.below hb) hs hn hcap)
  have c0 := new_cell w #[.slice none 0 0] 26 0
  have f0 := new_frozen w #[.slice none 0 0] 26 0
  cases hok : namesOk ns with
  | false =>
    have hpo : parseOut s ns = ⟨120, 0, none⟩ := by unfold parseOut; rw [if_pos hok]
    rw [hok] at HNM
    rw [hpo]
    clear hok hr hs hn hpo
    go_enter Try.func23, Try.ntmps23
    go_wp2_with fail
    refine (HNM.out _ (below_alloc _ _)).mono ?_
    rintro e w' ⟨rfl, q, hq⟩
    obtain ⟨c1, f1, hz1, hb1⟩ := names_world hq
    clear hq c0 f0
    go_wp2_with fail
    have hcell := set_cell_eq c1 (.slice none 0 0)
    exact bodyPost_ret (v := .tuple #[.agg #[.slice none 0 0], .int .i64 0, .int .i64 120]) (by simp [results, Try.results23, hcell, go_sem]) rfl ⟨below_set hb1 (Nat.le_refl _) _ _, rfl⟩
  | true =>
    by_cases hbig : 65536 < s.size
    · have hpo : parseOut s ns = ⟨1, 0, none⟩ := by unfold parseOut; rw [if_neg (by rw [hok]; decide), if_pos hbig]
      rw [hok] at HNM
      rw [hpo]
      clear hok hr hs hn hpo
      go_enter Try.func23, Try.ntmps23
      go_wp2_with fail
      refine (HNM.out _ (below_alloc _ _)).mono ?_
      rintro e w' ⟨rfl, q, hq⟩
      obtain ⟨c1, f1, hz1, hb1⟩ := names_world hq
      clear hq c0 f0
      go_wp2_with fail
      have hcell := set_cell_eq c1 (.slice none 0 0)
      exact bodyPost_ret (v := .tuple #[.agg #[.slice none 0 0], .int .i64 0, .int .i64 1]) (by simp [results, Try.results23, hcell, go_sem]) rfl ⟨below_set hb1 (Nat.le_refl _) _ _, rfl⟩
    · have HOK := Lib.hid hok
      have hn12 : n ≤ 12 := by have := (namesOk_true hok).2.1; omega
      have HC := Lib.hid (fun (W : World) (hb : Below w.heap.size w W) (m : Nat) (hz : W.heap.size = m) => rdr_calls W (m + 1) m (m + 2) n c s ns A (by omega) (hr.below hb) hn hn12 (names_uniq hok) (s.size + 1) 0 [] [] _ _ (by omega) (by omega) (Nat.zero_le _) (rinv_start hz s n))
      have HPO : Hid (parseOut s ns = match whole s ns with
          | .err e => ⟨200, e, none⟩
          | .ok a T h => if a < s.size then ⟨200, a, none⟩ else if h.length < ns.length then ⟨200, s.size, none⟩ else ⟨0, 0, some T.norm⟩) := by
        show parseOut s ns = _
        unfold parseOut
        rw [if_neg (by rw [hok]; decide), if_neg hbig]
        rfl
      rw [hok] at HNM
      have hW : rdP s ns (s.size + 1) 0 [] = whole s ns := rfl
      rw [hW] at HC
      clear hok hr hs hn hW
      have hmk := run_make_row' (P := Try.prog) 102 4 (.bool false) 1 Try.underlying102 info_boolean rfl .i64 .i64 n (by omega) (by omega)
      cases hw : whole s ns with
      | err a =>
        rw [hw] at HPO HC
        simp only at HPO
        clear hw
        go_enter Try.func23, Try.ntmps23
        go_wp2_with fail
        refine (HNM.out _ (below_alloc _ _)).mono ?_
        rintro e w' ⟨rfl, q, hq⟩
        obtain ⟨c1, f1, hz1, hb1⟩ := names_world hq
        clear hq c0 f0
        have HC1 := Lib.hid (HC.out w' hb1 _ hz1)
        go_wp2_with fail
        refine HC1.out.mono ?_
        rintro _ w3 ⟨rfl, hb3, hz3, hc3⟩
        have d1 := cell_below hb3 (by omega) c1
        have e1 := frozen_below hb3 (by omega) f1
        go_wp2_with fail
        go_region
        go_wp2_with fail
        have hcell : ((w3.setCell ⟨w.heap.size, 0, none⟩ (.slice none 0 0)).drew).cell? ⟨w.heap.size, 0, none⟩ = some (.slice none 0 0) := set_cell_eq d1 _
        exact bodyPost_ret (v := .tuple #[.agg #[.slice none 0 0], .int .i64 (a : Int), .int .i64 200]) (by simp [results, Try.results23, hcell, go_sem]) rfl (by rw [HPO.out]; exact ⟨below_drew_set (Below.then hb1 (by omega) hb3), rfl⟩)
      | ok a T h =>
        rw [hw] at HPO HC
        simp only at HPO
        obtain ⟨k1, k2, k3, k4, k5, k6⟩ := whole_ok hw
        obtain ⟨_, _, _, _, k7, _⟩ := whole_res (s := s) (ns := ns) (i := a) (T := T.norm) (h := h) (by rw [hw]; rfl)
        have hnn := HN.out
        rw [hnn] at k7
        rw [hnn] at HPO
        clear hw
        by_cases has : a < s.size
        · rw [if_pos has] at HPO
          clear k1 k2 k3 k4 k5 k6 k7 hnn
          go_enter Try.func23, Try.ntmps23
          go_wp2_with fail
          refine (HNM.out _ (below_alloc _ _)).mono ?_
          rintro e w' ⟨rfl, q, hq⟩
          obtain ⟨c1, f1, hz1, hb1⟩ := names_world hq
          clear hq c0 f0
          have HC1 := Lib.hid (HC.out w' hb1 _ hz1)
          go_wp2_with fail
          refine HC1.out.mono ?_
          rintro _ w3 ⟨v3, rfl, hI⟩
          have hb3 := hI.low
          have hc3 := hI.cells.2.1
          have d1 := cell_below hb3 (by omega) c1
          have e1 := frozen_below hb3 (by omega) f1
          clear hI
          go_wp2_with fail
          go_region
          go_wp2_with fail
          have hcell : ((w3.setCell ⟨w.heap.size, 0, none⟩ (.slice none 0 0)).drew).cell? ⟨w.heap.size, 0, none⟩ = some (.slice none 0 0) := set_cell_eq d1 _
          exact bodyPost_ret (v := .tuple #[.agg #[.slice none 0 0], .int .i64 (a : Int), .int .i64 200]) (by simp [results, Try.results23, hcell, go_sem]) rfl (by rw [HPO.out]; exact ⟨below_drew_set (Below.then hb1 (by omega) hb3), rfl⟩)
        · rw [if_neg has] at HPO
          by_cases hlt : h.length < n
          · rw [if_pos hlt] at HPO
            have hne : ((T.size : Int) != 2 * (n : Int) - 1) = true := by rw [bne_iff_ne]; omega
            clear k1 k2 k3 k4 k5 k6 k7 hnn hlt
            go_enter Try.func23, Try.ntmps23
            go_wp2_with fail
            refine (HNM.out _ (below_alloc _ _)).mono ?_
            rintro e w' ⟨rfl, q, hq⟩
            obtain ⟨c1, f1, hz1, hb1⟩ := names_world hq
            clear hq c0 f0
            have HC1 := Lib.hid (HC.out w' hb1 _ hz1)
            go_wp2_with fail
            refine HC1.out.mono ?_
            rintro _ w3 ⟨v3, rfl, hI⟩
            have hb3 := hI.low
            obtain ⟨_, hc3, hc4, _⟩ := hI.cells
            have ht := hI.tree
            rw [List.nil_append, List.length_nil, NT.form_length] at ht
            obtain ⟨A9, c9, rfl, _⟩ := own_slice ht
            have d1 := cell_below hb3 (by omega) c1
            have e1 := frozen_below hb3 (by omega) f1
            clear hI ht
            go_wp2_with fail
            have hcell := set_cell_eq d1 (.slice none 0 0)
            exact bodyPost_ret (v := .tuple #[.agg #[.slice none 0 0], .int .i64 (s.size : Int), .int .i64 200]) (by simp [results, Try.results23, hcell, go_sem]) rfl (by rw [HPO.out]; exact ⟨below_set (Below.then hb1 (by omega) hb3) (Nat.le_refl _) _ _, rfl⟩)
          · rw [if_neg hlt] at HPO
            have hne : ((T.size : Int) != 2 * (n : Int) - 1) = false := by rw [bne_eq_false_iff_eq]; omega
            have HF := Lib.hid (fun (A9 : Option Addr) (c9 : Nat) (W : World) (hr : RdBr W A9 (T.form 0)) => rform_calls A9 T.size c9 (T.form 0) (n : Int) W hr (NT.form_length T 0) (by omega))
            rw [rdRoot_form k1 (fun k hk => by have := k2 k hk; omega) (by omega) (by omega) (by omega)] at HF
            have hsz : (T.size : Int) ≤ 100 := by omega
            clear k1 k2 k3 k4 k5 k6 k7 hnn hlt
            go_enter Try.func23, Try.ntmps23
            go_wp2_with fail
            refine (HNM.out _ (below_alloc _ _)).mono ?_
            rintro e w' ⟨rfl, q, hq⟩
            obtain ⟨c1, f1, hz1, hb1⟩ := names_world hq
            clear hq c0 f0
            have HC1 := Lib.hid (HC.out w' hb1 _ hz1)
            go_wp2_with fail
            refine HC1.out.mono ?_
            rintro _ w3 ⟨v3, rfl, hI⟩
            have hb3 := hI.low
            obtain ⟨_, hc3, hc4, _⟩ := hI.cells
            have ht := hI.tree
            rw [List.nil_append, List.length_nil, NT.form_length] at ht
            obtain ⟨A9, c9, rfl, _⟩ := own_slice ht
            have d1 := cell_below hb3 (by omega) c1
            have e1 := frozen_below hb3 (by omega) f1
            have HF1 := Lib.hid (HF.out A9 c9 w3 (own_rd ht).1)
            have HB3 := Lib.hid (Below.then hb1 (by omega) hb3)
            have hz3 := hb3.size
            clear hI ht hb3
            go_wp2_with fail
            refine HF1.out.mono ?_
            rintro _ w4 ⟨hb4, A5, c5, rfl, ho5⟩
            have d2 := cell_below hb4 (by omega) d1
            have e2 := frozen_below hb4 (by omega) e1
            have HB4 := Lib.hid (Below.then HB3.out HB3.out.size hb4)
            have hz4 := hb4.size
            have HO5 := Lib.hid (own_alloc ho5 (.cells #[.slice A5 T.norm.size c5] 26))
            have d3 := cell_below (below_alloc w4 (.cells #[.slice A5 T.norm.size c5] 26)) (by omega) d2
            have e3 := frozen_below (below_alloc w4 (.cells #[.slice A5 T.norm.size c5] 26)) (by omega) e2
            have d4 := new_cell w4 #[.slice A5 T.norm.size c5] 26 0
            have HB5 := Lib.hid (Below.then HB4.out HB4.out.size (below_alloc w4 (.cells #[.slice A5 T.norm.size c5] 26)))
            clear hb4 ho5
            go_wp2_with fail
            have hcell := set_cell_eq d3 (.slice A5 T.norm.size c5)
            exact bodyPost_ret (v := .tuple #[.agg #[.slice A5 T.norm.size c5], .int .i64 0, .int .i64 0]) (by simp [results, Try.results23, hcell, go_sem]) rfl (by
              rw [HPO.out]
              exact ⟨below_set HB5.out (Nat.le_refl _) _ _, A5, c5, rfl, own_mono (ownsRow_setCell_below HO5.out (by show w.heap.size < w3.heap.size; omega) _) (by omega)⟩)
end Go.Proofs.Ytbmlkomfelkckaa
