/- Law StemmaBest: all best trees. -/
import Derived.Test.YtbmlkomfelkckaaBestT
import Derived.Test.YtbmlkomfelkckaaRBestT
import Derived.Test.YtbmlkomfelkckaaBox
import Derived.Test.YtbmlkomfelkckaaLeaf
import Derived.BigQuiet
namespace Go.Proofs.Ytbmlkomfelkckaa
open Go Go.RowKit
set_option maxRecDepth 100000

/-- What both answer: the same trees, the same number, the same error. -/
theorem best_one (rows : List (List Int)) : ∃ (L : List NT) (k e : Int), (∀ T ∈ L, T.size ≤ 100) ∧ L.length ≤ 10395 ∧
    (∀ (A2 : Option Addr) (n2 c2 : Nat) (W : World), RdRows W A2 rows → rows.length = n2 → n2 ≤ 9223372036854775807 → Calls Try.prog 27 #[.agg #[.slice A2 n2 c2]] W fun er w' => Below W.heap.size W w' ∧ ∃ A c vs, er = .returned (.tuple #[.slice A L.length c, .int .i64 k, .int .i64 e]) ∧ TreesAt w' W.heap.size (.slice A L.length c) L vs) ∧
    (∀ (A2 : Option Addr) (n2 c2 : Nat) (W : World), RdRows W A2 rows → rows.length = n2 → n2 ≤ 9223372036854775807 → Calls Try.prog 28 #[.agg #[.slice A2 n2 c2]] W fun er w' => Below W.heap.size W w' ∧ ∃ A c vs, er = .returned (.tuple #[.slice A L.length c, .int .i64 k, .int .i64 e]) ∧ TreesF w' W.heap.size (.slice A L.length c) L vs) := by
  by_cases hm : matOk rows = true
  · by_cases h7 : rows.length ≤ 7
    · refine ⟨(bestAll rows).l, lowI (bestAll rows).low, 0, fun T hT => ?_, ?_, fun A2 n2 c2 W hr hn hcap => ?_, fun A2 n2 c2 W hr hn hcap => ?_⟩
      · have hsub : ∀ (us : List NT) (s : LS), (∀ T ∈ s.l, T ∈ treesOf (rows.length : Int)) → (∀ T ∈ us, T ∈ treesOf (rows.length : Int)) → ∀ T ∈ (us.foldl (lstep (fun T => sumNum (T.form 0) rows)) s).l, T ∈ treesOf (rows.length : Int) := by
          intro us
          induction us with
          | nil => intro s h _; exact h
          | cons S us ih =>
            intro s h hu
            rw [List.foldl_cons]
            refine ih _ ?_ (fun T hT => hu T (List.mem_cons_of_mem _ hT))
            have hS := hu S List.mem_cons_self
            unfold lstep
            cases s.low with
            | none => intro T hT; obtain rfl : T = S := by simpa using hT
                      exact hS
            | some m =>
              dsimp only
              split
              · intro T hT; obtain rfl : T = S := by simpa using hT
                exact hS
              · split
                · intro T hT
                  rcases List.mem_append.1 hT with hT | hT
                  · exact h T hT
                  · obtain rfl : T = S := by simpa using hT
                    exact hS
                · exact h
        have h1 := hsub (treesOf (rows.length : Int)) ⟨[], none⟩ (by simp) (fun T h => h) T hT
        have h2 := (treesOf_on h1).1.size
        omega
      · exact Nat.le_trans (lfold_len _ _) (trees_few (by omega))
      · refine (tbest_calls A2 n2 c2 rows W hr hn hcap).mono fun e w' h => ?_
        unfold RetBestT at h
        rw [if_pos hm, if_pos h7] at h
        exact h
      · refine (rbest_calls A2 n2 c2 rows W hr hn hcap).mono fun e w' h => ?_
        unfold RetBestR at h
        rw [if_pos hm, if_pos h7] at h
        exact h
    · refine ⟨[], 0, 220, by simp, by simp, fun A2 n2 c2 W hr hn hcap => ?_, fun A2 n2 c2 W hr hn hcap => ?_⟩
      · refine (tbest_calls A2 n2 c2 rows W hr hn hcap).mono fun e w' h => ?_
        unfold RetBestT at h
        rw [if_pos hm, if_neg h7] at h
        exact ⟨h.1, none, 0, [], h.2, TreesAt.nil _ _⟩
      · refine (rbest_calls A2 n2 c2 rows W hr hn hcap).mono fun e w' h => ?_
        unfold RetBestR at h
        rw [if_pos hm, if_neg h7] at h
        exact ⟨h.1, none, 0, [], h.2, TreesF.nil _ _⟩
  · refine ⟨[], 0, 190, by simp, by simp, fun A2 n2 c2 W hr hn hcap => ?_, fun A2 n2 c2 W hr hn hcap => ?_⟩
    · refine (tbest_calls A2 n2 c2 rows W hr hn hcap).mono fun e w' h => ?_
      unfold RetBestT at h
      rw [if_neg hm] at h
      exact ⟨h.1, none, 0, [], h.2, TreesAt.nil _ _⟩
    · refine (rbest_calls A2 n2 c2 rows W hr hn hcap).mono fun e w' h => ?_
      unfold RetBestR at h
      rw [if_neg hm] at h
      exact ⟨h.1, none, 0, [], h.2, TreesF.nil _ _⟩

/-- A tree of a list, read. -/
theorem TreesAt.get {W : World} {base n c i : Nat} {A : Option Addr} {L : List NT} {vs : List Value} {T : NT} (h : TreesAt W base (.slice A n c) L vs) (hn : L.length = n) (hi : L[i]? = some T) :
    ∃ g A' c', A = some ⟨g, 0, none⟩ ∧ W.cell? ⟨g, i, none⟩ = some (.slice A' T.size c') ∧ RdBr W A' (T.form 0) := by
  obtain ⟨u, h1, A', c', rfl, ho⟩ := h.rows i T hi
  have hown := h.own
  rw [hn] at hown
  obtain ⟨g, hg, -, -, h2⟩ := own_at hown (by have := (List.getElem?_eq_some_iff.1 hi).1; omega)
  have h3 := h2 i _ h1
  rw [add_plain] at h3
  exact ⟨g, A', c', hg, h3, (own_rd ho).1⟩

theorem TreesF.get {W : World} {base n c i : Nat} {A : Option Addr} {L : List NT} {vs : List Value} {T : NT} (h : TreesF W base (.slice A n c) L vs) (hn : L.length = n) (hi : L[i]? = some T) :
    ∃ g A' c', A = some ⟨g, 0, none⟩ ∧ W.cell? ⟨g, i, none⟩ = some (.slice A' T.size c') ∧ RdBr W A' (T.form 0) := by
  obtain ⟨g', c', h1, hf⟩ := h.rows i T hi
  have hown := h.own
  rw [hn] at hown
  obtain ⟨g, hg, -, -, h2⟩ := own_at hown (by have := (List.getElem?_eq_some_iff.1 hi).1; omega)
  have h3 := h2 i _ h1
  rw [add_plain] at h3
  exact ⟨g, _, c', hg, h3, hf.rd⟩

set_option maxHeartbeats 4000000 in
theorem tbests_calls (A : Option Addr) (n c : Nat) (rows : List (List Int)) (w : World) (hr : RdRows w A rows) (hn : rows.length = n) (hcap : n ≤ 9223372036854775807) :
    Calls Try.prog 4 #[.agg #[.slice A n c]] w fun e w' => e = .returned (.bool true) ∧ Below w.heap.size w w' := by
  obtain ⟨L, k, er, hsz, hfew, hb1, hb2⟩ := best_one rows
  have HA := Lib.hid (awake22 (w.alloc (.cells #[.slice A n c] 36)))
  have HF := Lib.hid (fun (W : World) (h : Below w.heap.size w W) => few_calls A n c rows W (hr.below h) hn hcap)
  obtain ⟨m, hm⟩ : ∃ m, L.length = m := ⟨_, rfl⟩
  have HL1 := Lib.hid (fun (W : World) (h : Below w.heap.size w W) => hb1 A n c W (hr.below h) hn hcap)
  have HL2 := Lib.hid (fun (W : World) (h : Below w.heap.size w W) => hb2 A n c W (hr.below h) hn hcap)
  rw [hm] at HL1 HL2 hfew
  have HM := Lib.hid hm
  have HSZ := Lib.hid hsz
  have b0 := below_alloc w (.cells #[.slice A n c] 36)
  have c0 := new_cell w #[.slice A n c] 36 0
  have hz : w.heap.size < (w.alloc (.cells #[.slice A n c] 36)).heap.size := by simp
  have HB0 := Lib.hid b0
  have f1 : (k == k) = true := by simp
  have f2 : (er == er) = true := by simp
  have f3 : (k != k) = false := by simp
  have f4 : (er != er) = false := by simp
  have f5 : ((m : Int) != (m : Int)) = false := by simp
  clear hb1 hb2 hm hsz b0 hr hn
  go_enter Try.func4, Try.ntmps4
  go_wp2_with fail
  refine HA.out.mono ?_
  rintro _ w1 ⟨rfl, hb1⟩
  have c0 := cell_below hb1 hz c0
  have HB1 := Lib.hid (Below.then HB0.out HB0.out.size hb1)
  have hz1 := Nat.lt_of_lt_of_le hz hb1.size
  clear hb1 HA
  go_wp2_with fail
  (with_reducible refine (HF.out _ HB1.out).mono ?_)
  rintro _ w2 ⟨b, rfl, hb2⟩
  have c0 := cell_below hb2 hz1 c0
  have HB2 := Lib.hid (Below.then HB1.out HB1.out.size hb2)
  have hz2 := Nat.lt_of_lt_of_le hz1 hb2.size
  clear hb2 HF
  cases b with
  | false =>
    go_wp2_with fail
    go_ret
    exact ⟨rfl, HB2.out⟩
  | true =>
    go_wp2_with fail
    (with_reducible refine (HL1.out _ HB2.out).mono ?_)
    rintro _ w3 ⟨hb3, A3, c3, vs3, rfl, ht3⟩
    have c0 := cell_below hb3 hz2 c0
    have HB3 := Lib.hid (Below.then HB2.out HB2.out.size hb3)
    have hz3 := Nat.lt_of_lt_of_le hz2 hb3.size
    have HT3 := Lib.hid ht3
    clear hb3 ht3 HL1
    go_wp2_with fail
    (with_reducible refine (HL2.out _ HB3.out).mono ?_)
    rintro _ w4 ⟨hb4, A4, c4, vs4, rfl, ht4⟩
    have HB4 := Lib.hid (Below.then HB3.out HB3.out.size hb4)
    have HT3 := Lib.hid (HT3.out.below hb4)
    have HT4 := Lib.hid ht4
    clear hb4 ht4 HL2
    go_wp2_with fail
    go_loopg [44] m (fun gk v44 wr => ∃ i : Nat, v44 = .int .i64 (i : Int) ∧ i ≤ m ∧ Hid (gk + i = m) ∧ Hid (Below w4.heap.size w4 wr))
    case atStart => exact ⟨0, rfl, Nat.zero_le _, rfl, Below.refl _ _⟩
    case round =>
      obtain ⟨i, rfl, him, HG, HBR⟩ := hrel
      by_cases hin : i < m
      · have hiI : (i : Int) < m := by omega
        obtain ⟨T, hT⟩ : ∃ T, L[i]? = some T := ⟨_, List.getElem?_eq_getElem (by have := HM.out; omega)⟩
        have hTs := HSZ.out T (List.mem_of_getElem? hT)
        obtain ⟨g3, A5, c5, rfl, q5, r5⟩ := (HT3.out.below HBR.out).get HM.out hT
        obtain ⟨g4, A6, c6, rfl, q6, r6⟩ := (HT4.out.below HBR.out).get HM.out hT
        have k5 : ∀ s : Later wr, s.W.cell? ⟨g3, i, none⟩ = some (.slice A5 T.size c5) := fun s => cell_below s.below (cell_lt q5) q5
        have k6 : ∀ s : Later wr, s.W.cell? ⟨g4, i, none⟩ = some (.slice A6 T.size c6) := fun s => cell_below s.below (cell_lt q6) q6
        have HS1 := Lib.hid (fun s : Later wr => (same_calls A5 A6 T.size c5 c6 (T.form 0) s.W (r5.below s.below) (r6.below s.below) (NT.form_length T 0) (by omega)).mono (R' := fun e w' => e = .returned (.bool true) ∧ ∃ s : Later wr, w' = s.W) (fun e w' ⟨he, hb⟩ => ⟨he, ⟨w', Below.then s.below s.below.size hb⟩, rfl⟩))
        clear hT r5 r6 hin
        go_wp2_with fail
        refine wp_quiet_below (w := wr) (by kernel_rfl) (by kernel_rfl) ?_
        repeat (go_big_quiet_step (exact HS1.out _))
        refine wpQuiet_nil ?_
        rintro w11 ⟨⟨_, hb11⟩, rfl⟩
        have HB11 := Lib.hid (HBR.out.trans (hb11.mono HBR.out.size))
        clear hb11 k5 k6 HS1 q5 q6
        go_wp2_with fail
        go_roundg (gk - 1)
        case measure => have := HG.out; omega
        case rel => exact ⟨i + 1, by go_num, by omega, by have := HG.out; show gk - 1 + (i + 1) = m; omega, HB11.out⟩
      · obtain rfl : i = m := by omega
        have hiI : ¬ (i : Int) < i := by omega
        clear hin him
        go_wp2_with fail
        go_ret
        exact ⟨rfl, HB4.out.trans (HBR.out.mono HB4.out.size)⟩
end Go.Proofs.Ytbmlkomfelkckaa
