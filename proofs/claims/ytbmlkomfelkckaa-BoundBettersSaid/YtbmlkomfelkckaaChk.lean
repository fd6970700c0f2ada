/- siglumref20.Check: its verdict is the reading's. -/
import Derived.Test.YtbmlkomfelkckaaChkP
import Derived.Test.YtbmlkomfelkckaaTree
import Derived.Deep.OwnRows
import Derived.StillTailTactics
import Derived.Deep.QuietTactic
import Derived.BigQuiet
import Derived.BigRegion
import Derived.Deep.DeepMust
namespace Go.Proofs.Ytbmlkomfelkckaa
open Go Go.RowKit
set_option maxRecDepth 100000

theorem info_boolean : (Try.prog.info? 4).map (fun i => (i.zero, i.size, i.bytes)) = some (some (.bool false), 1, 1) := by kernel_rfl

/-- What holds at the head of each round: the marks lie in two rows. -/
structure KInv (w wr : World) (g L n : Nat) (s : KS) : Prop where
  below : Below w.heap.size w wr
  low : w.heap.size + 1 ≤ g
  srow : wr.rowIs g 4 L (fun q => .bool (s.seen.getD q false))
  krow : wr.rowIs (g + 1) 4 n (fun q => .bool (s.kid.getD q false))

theorem KInv.next {w wr W : World} {g L n : Nat} {s : KS} (h : KInv w wr g L n s) (hW : Below wr.heap.size wr W) : KInv w W g L n s := by
  have h1 := h.srow.lt
  have h2 := h.krow.lt
  have := h.low
  exact ⟨Below.then h.below (by omega) hW, h.low, h.srow.of_block (hW.block _ h1), h.krow.of_block (hW.block _ h2)⟩

theorem KInv.see {w wr : World} {g L n : Nat} {s : KS} (h : KInv w wr g L n s) {x : Nat} (hx : x < s.seen.length) : KInv w (wr.setCell ⟨g, x, none⟩ (.bool true)) g L n ⟨s.seen.set x true, s.kid⟩ := by
  have hlow := h.low
  refine ⟨below_set h.below (by omega) _ _, hlow, (h.srow.set x _).congr (fun q _ => ?_), h.krow.of_block (Below.heap_setCell _ _ _ _ (by show g + 1 ≠ g; omega))⟩
  rw [getD_set_bool _ _ _ _ hx]
  split <;> rfl

theorem KInv.hang {w wr : World} {g L n : Nat} {s : KS} (h : KInv w wr g L n s) {x : Nat} (hx : x < s.kid.length) : KInv w (wr.setCell ⟨g + 1, x, none⟩ (.bool true)) g L n ⟨s.seen, s.kid.set x true⟩ := by
  have hlow := h.low
  refine ⟨below_set h.below (by omega) _ _, hlow, h.srow.of_block (Below.heap_setCell _ _ _ _ (by show g ≠ g + 1; omega)), (h.krow.set x _).congr (fun q _ => ?_)⟩
  rw [getD_set_bool _ _ _ _ hx]
  split <;> rfl

theorem set_ne {w : World} {b j b' j' : Nat} {v u : Value} (h : b ≠ b' ∨ j ≠ j') (hc : w.cell? ⟨b', j', none⟩ = some v) : (w.setCell ⟨b, j, none⟩ u).cell? ⟨b', j', none⟩ = some v := by
  by_cases hb : b = b'
  · subst hb
    have hj : j ≠ j' := by rcases h with h | h; exact absurd rfl h; exact h
    simp only [World.cell?, World.setCell, Array.getElem?_modify] at *
    cases hh : w.heap[b]? with
    | none => simp [hh] at hc
    | some o =>
      rw [hh] at hc
      cases o <;> simp at hc ⊢
      rw [Array.getElem?_setIfInBounds_ne hj]
      exact hc
  · exact (World.cell?_of_block (a := ⟨b', j', none⟩) (Below.heap_setCell _ _ _ _ (by show b' ≠ b; exact fun q => hb q.symm))).trans hc

theorem bad1_cases {leaf L : Int} {k : Bool} (h : leaf < 0 ∨ L ≤ leaf ∨ k = true) : leaf < 0 ∨ (0 ≤ leaf ∧ L ≤ leaf) ∨ (0 ≤ leaf ∧ leaf < L ∧ k = true) := by
  rcases h with h | h | h
  · exact .inl h
  · by_cases h0 : leaf < 0
    · exact .inl h0
    · exact .inr (.inl ⟨by omega, h⟩)
  · by_cases h0 : leaf < 0
    · exact .inl h0
    · by_cases h1 : L ≤ leaf
      · exact .inr (.inl ⟨by omega, h1⟩)
      · exact .inr (.inr ⟨by omega, by omega, h⟩)

theorem bad2_cases {leaf a b i : Int} {ka kb : Bool} (h : leaf ≠ 0 ∨ a < 0 ∨ b < 0 ∨ i ≤ a ∨ i ≤ b ∨ a = b ∨ ka = true ∨ kb = true) :
    (leaf != 0) = true ∨ ((leaf != 0) = false ∧ a < 0) ∨ ((leaf != 0) = false ∧ 0 ≤ a ∧ b < 0) ∨ ((leaf != 0) = false ∧ 0 ≤ a ∧ 0 ≤ b ∧ i ≤ a) ∨ ((leaf != 0) = false ∧ 0 ≤ a ∧ 0 ≤ b ∧ a < i ∧ i ≤ b) ∨
      ((leaf != 0) = false ∧ 0 ≤ a ∧ 0 ≤ b ∧ a < i ∧ b < i ∧ (a == b) = true) ∨ ((leaf != 0) = false ∧ 0 ≤ a ∧ 0 ≤ b ∧ a < i ∧ b < i ∧ (a == b) = false ∧ ka = true) ∨
      ((leaf != 0) = false ∧ 0 ≤ a ∧ 0 ≤ b ∧ a < i ∧ b < i ∧ (a == b) = false ∧ ka = false ∧ kb = true) := by
  by_cases h1 : leaf = 0
  · have e1 : (leaf != 0) = false := by rw [bne_eq_false_iff_eq]; exact h1
    by_cases h2 : a < 0
    · exact .inr (.inl ⟨e1, h2⟩)
    have e2 : 0 ≤ a := by omega
    by_cases h3 : b < 0
    · exact .inr (.inr (.inl ⟨e1, e2, h3⟩))
    have e3 : 0 ≤ b := by omega
    by_cases h4 : i ≤ a
    · exact .inr (.inr (.inr (.inl ⟨e1, e2, e3, h4⟩)))
    have e4 : a < i := by omega
    by_cases h5 : i ≤ b
    · exact .inr (.inr (.inr (.inr (.inl ⟨e1, e2, e3, e4, h5⟩))))
    have e5 : b < i := by omega
    by_cases h6 : a = b
    · exact .inr (.inr (.inr (.inr (.inr (.inl ⟨e1, e2, e3, e4, e5, by rw [beq_iff_eq]; exact h6⟩)))))
    have e6 : (a == b) = false := by rw [beq_eq_false_iff_ne]; exact h6
    cases ka with
    | true => exact .inr (.inr (.inr (.inr (.inr (.inr (.inl ⟨e1, e2, e3, e4, e5, e6, rfl⟩))))))
    | false =>
      cases kb with
      | true => exact .inr (.inr (.inr (.inr (.inr (.inr (.inr ⟨e1, e2, e3, e4, e5, e6, rfl, rfl⟩))))))
      | false => simp [h1, h2, h3, h4, h5, h6] at h
  · exact .inl (by rw [bne_iff_ne]; exact h1)

theorem okTree_fails {leaves : Int} {bs : List Br} (h : rdAll leaves ⟨[], [], []⟩ bs = none) : okTree leaves bs = 200 := by
  unfold okTree rdTree
  rw [h]
  split <;> rfl

theorem okTree_not {leaves : Int} {bs : List Br} (h : ¬ (rdTree leaves bs).isSome = true) : okTree leaves bs = 200 := by
  unfold okTree
  rw [if_neg h]

set_option maxHeartbeats 4000000 in
theorem rcheck_calls (A : Option Addr) (n c : Nat) (bs : List Br) (leaves : Int) (w : World) (hb : RdBr w A bs) (hn : bs.length = n) (_hcap : n ≤ 9223372036854775807) :
    Calls Try.prog 48 #[.agg #[.slice A n c], .int .i64 leaves] w fun e w' => e = .returned (.int .i64 (okTree leaves bs)) ∧ Below w.heap.size w w' := by
  by_cases h0 : leaves < 1 ∨ 12 < leaves ∨ (bs.length : Int) ≠ 2 * leaves - 1
  · have e0 : okTree leaves bs = 200 := by
      unfold okTree rdTree
      rw [if_pos h0]
      rfl
    rw [e0, ]
    rw [hn] at h0
    clear hb e0 hn
    have b0 := below_alloc w (.cells #[.slice A n c] 26)
    by_cases h1 : leaves < 1
    · go_enter Try.func48, Try.ntmps48
      go_wp2_with fail
      go_ret
      exact ⟨rfl, b0⟩
    · by_cases h2 : 12 < leaves
      · go_enter Try.func48, Try.ntmps48
        go_wp2_with fail
        go_ret
        exact ⟨rfl, b0⟩
      · have h3 : ((n : Int) != 2 * leaves - 1) = true := by rw [bne_iff_ne]; omega
        go_enter Try.func48, Try.ntmps48
        go_wp2_with fail
        go_ret
        exact ⟨rfl, b0⟩
  · obtain ⟨L, rfl⟩ : ∃ L : Nat, leaves = (L : Int) := ⟨leaves.toNat, by omega⟩
    rw [hn] at h0
    have hL0 : 1 ≤ L := by omega
    have hL1 : L ≤ 12 := by omega
    have HL2 : Hid ((n : Int) = 2 * (L : Int) - 1) := by show (n : Int) = 2 * (L : Int) - 1; omega
    have hL3 : ((n : Int) != 2 * (L : Int) - 1) = false := by rw [bne_eq_false_iff_eq]; omega
    have hLn : n ≤ 23 := by omega
    have HN := Lib.hid hn
    have HR := Lib.hid (fun (W : World) (h : Below w.heap.size w W) => hb.below h)
    clear h0 hb hn _hcap
    have hmk := run_make_row' (P := Try.prog) 102 4 (.bool false) 1 Try.underlying102 info_boolean rfl .i64 .i64 L (by omega) (by omega)
    have hmk2 := run_make_row' (P := Try.prog) 102 4 (.bool false) 1 Try.underlying102 info_boolean rfl .i64 .i64 n (by omega) (by omega)
    go_enter Try.func48, Try.ntmps48
    go_wp2_with fail
    have HI0 : Hid (KInv w (((w.alloc (.cells #[.slice A n c] 26)).alloc (.cells (madeCells #[.bool false] L) 4)).alloc (.cells (madeCells #[.bool false] n) 4)) (w.heap.size + 1) L n (kstart L n)) := by
      have b1 := below_alloc w (.cells #[.slice A n c] 26)
      have b2 := Below.trans b1 ((below_alloc _ (.cells (madeCells #[.bool false] L) 4)).mono (by simp))
      have b3 := Below.trans b2 ((below_alloc _ (.cells (madeCells #[.bool false] n) 4)).mono (by simp; omega))
      have r1 := (World.rowIs_made (w.alloc (.cells #[.slice A n c] 26)) (.bool false) L 4).alloc (.cells (madeCells #[.bool false] n) 4)
      have r2 := World.rowIs_made ((w.alloc (.cells #[.slice A n c] 26)).alloc (.cells (madeCells #[.bool false] L) 4)) (.bool false) n 4
      simp only [World.size_alloc] at r1 r2
      refine ⟨b3, Nat.le_refl _, r1.congr (fun q _ => ?_), r2.congr (fun q _ => ?_)⟩ <;> unfold kstart <;> rw [getD_replicate_false]
    generalize ((w.alloc (.cells #[.slice A n c] 26)).alloc (.cells (madeCells #[.bool false] L) 4)).alloc (.cells (madeCells #[.bool false] n) 4) = w0 at *
    clear hmk hmk2 hL3
    go_loopg [8] n (fun gk v8 wr => ∃ (k : Nat) (r : RS) (s : KS), v8 = .int .i64 k ∧ k ≤ n ∧ Hid (gk + k = n) ∧ Hid (rdAll L ⟨[], [], []⟩ (bs.take k) = some r) ∧ Hid (KRel L n r s) ∧ Hid (r.l.length = k ∧ r.Ok L) ∧ KInv w wr (w.heap.size + 1) L n s)
    case atStart => exact ⟨0, ⟨[], [], []⟩, kstart L n, rfl, Nat.zero_le _, rfl, rfl, KRel.start L n, ⟨rfl, RS.Ok.start L⟩, HI0.out⟩
    case round =>
      clear HI0
      obtain ⟨k, r, s, rfl, hk, HG, HRD, HK, HRL, HI⟩ := hrel
      have hlow := HI.low
      have hs1 := HI.srow.lt
      have hs2 := HI.krow.lt
      by_cases hkn : k < n
      · have hkx : k < bs.length := by have := HN.out; omega
        obtain ⟨ad, rfl, d0, d1, d2⟩ := HR.out _ HI.below k bs[k] (by simp [hkx])
        generalize hx : bs[k] = x at *
        have HXK : Hid (bs[k]? = some x) := by show bs[k]? = some x; rw [List.getElem?_eq_getElem hkx, hx]
        clear hx
        have hst := KRel.step (b := x) HRL.out.2 HK.out (by rw [HRL.out.1]; exact hkn)
        rw [HRL.out.1] at hst
        have q0 := new_cell wr #[.int .i64 x.leaf, .int .i64 x.a, .int .i64 x.b] 64 0
        have q1 := new_cell wr #[.int .i64 x.leaf, .int .i64 x.a, .int .i64 x.b] 64 1
        have q2 := new_cell wr #[.int .i64 x.leaf, .int .i64 x.a, .int .i64 x.b] 64 2
        have HB1 := Lib.hid (HI.next (below_alloc wr (.cells #[.int .i64 x.leaf, .int .i64 x.a, .int .i64 x.b] 64)))
        by_cases hab : x.a = 0 ∧ x.b = 0
        · have f1 : (x.a == 0) = true := by rw [beq_iff_eq]; exact hab.1
          have f2 : (x.b == 0) = true := by rw [beq_iff_eq]; exact hab.2
          unfold kstep at hst
          rw [if_pos hab] at hst
          have r0 : 0 ≤ x.leaf → x.leaf < L → wr.cell? ⟨w.heap.size + 1, x.leaf.toNat, none⟩ = _ := fun h0 h1 => HI.srow.cell (i := x.leaf.toNat) (by omega)
          have r1 := HI.srow.frozen x.leaf.toNat
          have hab' := below_alloc wr (.cells #[.int .i64 x.leaf, .int .i64 x.a, .int .i64 x.b] 64)
          replace r1 := frozen_below hab' hs1 r1
          replace r0 := fun h0 h1 => cell_below hab' hs1 (r0 h0 h1)
          clear hab hab'
          by_cases hbad : kbad1 L s x
          · rw [if_pos hbad] at hst
            have HF : Hid (okTree L bs = 200) := by
              rcases hst with ⟨h, _⟩ | ⟨_, _, _, h, _⟩
              · exact okTree_fails (rdAll_fails HXK.out HRD.out h)
              · cases h
            unfold kbad1 at hbad
            clear hst
            obtain ⟨sk, hsk⟩ : ∃ sk, s.seen.getD x.leaf.toNat false = sk := ⟨_, rfl⟩
            rw [hsk] at hbad r0
            clear hsk
            rcases bad1_cases hbad with h | ⟨h, h'⟩ | ⟨h, h', rfl⟩
            · clear r0 hbad
              go_wp2_with fail
              go_ret
              exact ⟨by rw [HF.out]; rfl, HB1.out.below⟩
            · clear r0 hbad
              go_wp2_with fail
              go_ret
              exact ⟨by rw [HF.out]; rfl, HB1.out.below⟩
            · replace r0 := r0 h h'
              clear hbad
              go_wp2_with fail
              go_ret
              exact ⟨by rw [HF.out]; rfl, HB1.out.below⟩
          · rw [if_neg hbad] at hst
            have HF : Hid (∃ r', rdStep L r x = some r' ∧ KRel L n r' ⟨s.seen.set x.leaf.toNat true, s.kid⟩) := by
              rcases hst with ⟨_, h⟩ | ⟨r', s', h1, h2, h3⟩
              · cases h
              · cases h2
                exact ⟨r', h1, h3⟩
            unfold kbad1 at hbad
            have h0 : 0 ≤ x.leaf := by omega
            have h1 : x.leaf < L := by omega
            replace r0 := r0 h0 h1
            have hsk : s.seen.getD x.leaf.toNat false = false := by
              cases hh : s.seen.getD x.leaf.toNat false
              · rfl
              · exact absurd (.inr (.inr hh)) hbad
            rw [hsk] at r0
            clear hst hbad hsk
            go_wp2_with fail
            go_roundg (gk - 1)
            case measure => have := HG.out; omega
            case rel =>
              obtain ⟨r', g1, g2⟩ := HF.out
              have hok := HRL.out.2.step g1
              exact ⟨k + 1, r', ⟨s.seen.set x.leaf.toNat true, s.kid⟩, by go_num, by omega, by have := HG.out; show gk - 1 + (k + 1) = n; omega, rdAll_more HXK.out HRD.out g1, g2, ⟨by rw [hok.2, HRL.out.1], hok.1⟩, (HI.see (by rw [HK.out.slen]; omega)).next (below_alloc _ _)⟩
        · have f12 : ((x.a == 0) = true ∧ (x.b == 0) = false) ∨ ((x.a == 0) = false) := by
            rw [beq_iff_eq, beq_eq_false_iff_ne, beq_eq_false_iff_ne]
            omega
          unfold kstep at hst
          rw [if_neg hab] at hst
          have ra : 0 ≤ x.a → x.a < k → wr.cell? ⟨w.heap.size + 1 + 1, x.a.toNat, none⟩ = _ := fun h0 h1 => HI.krow.cell (i := x.a.toNat) (by omega)
          have rb : 0 ≤ x.b → x.b < k → wr.cell? ⟨w.heap.size + 1 + 1, x.b.toNat, none⟩ = _ := fun h0 h1 => HI.krow.cell (i := x.b.toNat) (by omega)
          have r1 := HI.krow.frozen x.a.toNat
          have r2 := HI.krow.frozen x.b.toNat
          have hab' := below_alloc wr (.cells #[.int .i64 x.leaf, .int .i64 x.a, .int .i64 x.b] 64)
          have r3 := frozen_below hab' hs2 r1
          have r4 := frozen_below hab' hs2 r2
          replace ra := fun h0 h1 => cell_below hab' hs2 (ra h0 h1)
          have HRB := Lib.hid rb
          replace rb := fun h0 h1 => cell_below hab' hs2 (rb h0 h1)
          clear hab hab'
          by_cases hbad : kbad2 k s x
          · rw [if_pos hbad] at hst
            have HF : Hid (okTree L bs = 200) := by
              rcases hst with ⟨h, _⟩ | ⟨_, _, _, h, _⟩
              · exact okTree_fails (rdAll_fails HXK.out HRD.out h)
              · cases h
            unfold kbad2 at hbad
            clear hst
            obtain ⟨ka, hka⟩ : ∃ ka, s.kid.getD x.a.toNat false = ka := ⟨_, rfl⟩
            obtain ⟨kb, hkb⟩ : ∃ kb, s.kid.getD x.b.toNat false = kb := ⟨_, rfl⟩
            rw [hka, hkb] at hbad
            rw [hka] at ra
            rw [hkb] at rb
            clear hka hkb
            rcases f12 with ⟨f1, f2⟩ | f1
            all_goals
              rcases bad2_cases hbad with h1 | ⟨h1, h2⟩ | ⟨h1, h2, h3⟩ | ⟨h1, h2, h3, h4⟩ | ⟨h1, h2, h3, h4, h5⟩ | ⟨h1, h2, h3, h4, h5, h6⟩ | ⟨h1, h2, h3, h4, h5, h6, rfl⟩ | ⟨h1, h2, h3, h4, h5, h6, rfl, rfl⟩
            all_goals
              first
                | (replace ra := ra h2 h4; replace rb := rb h3 h5)
                | clear ra rb
              clear hbad
              go_wp2_with fail
              go_ret
              exact ⟨by rw [HF.out]; rfl, HB1.out.below⟩
          · rw [if_neg hbad] at hst
            have HF : Hid (∃ r', rdStep L r x = some r' ∧ KRel L n r' ⟨s.seen, (s.kid.set x.a.toNat true).set x.b.toNat true⟩) := by
              rcases hst with ⟨_, h⟩ | ⟨r', s', h1, h2, h3⟩
              · cases h
              · cases h2
                exact ⟨r', h1, h3⟩
            unfold kbad2 at hbad
            have g0 : 0 ≤ x.a := by omega
            have g1 : x.a < k := by omega
            have g2 : 0 ≤ x.b := by omega
            have g3 : x.b < k := by omega
            have h1 : (x.leaf != 0) = false := by rw [bne_eq_false_iff_eq]; omega
            have h6 : (x.a == x.b) = false := by rw [beq_eq_false_iff_ne]; omega
            have HNE : Hid (x.a.toNat ≠ x.b.toNat) := by show x.a.toNat ≠ x.b.toNat; omega
            replace ra := ra g0 g1
            replace rb := rb g2 g3
            have hka : s.kid.getD x.a.toNat false = false := by
              cases hh : s.kid.getD x.a.toNat false
              · rfl
              · exact absurd (.inr (.inr (.inr (.inr (.inr (.inr (.inl hh))))))) hbad
            have hkb : s.kid.getD x.b.toNat false = false := by
              cases hh : s.kid.getD x.b.toNat false
              · rfl
              · exact absurd (.inr (.inr (.inr (.inr (.inr (.inr (.inr hh))))))) hbad
            have rb0 := HRB.out g2 g3
            rw [hka] at ra
            rw [hkb] at rb rb0
            have zb : ((wr.setCell ⟨w.heap.size + 1 + 1, x.a.toNat, none⟩ (.bool true)).alloc (.cells #[.int .i64 x.leaf, .int .i64 x.a, .int .i64 x.b] 64)).cell? ⟨w.heap.size + 1 + 1, x.b.toNat, none⟩ = _ :=
              cell_below (below_alloc _ _) (by simp; exact hs2) (set_ne (.inr (by have := HNE.out; omega)) rb0)
            clear hst hbad hka hkb rb0
            rcases f12 with ⟨f1, f2⟩ | f1
            all_goals
              go_wp2_with fail
              go_roundg (gk - 1)
              case measure => have := HG.out; omega
              case rel =>
                obtain ⟨r', e1, e2⟩ := HF.out
                have hok := HRL.out.2.step e1
                exact ⟨k + 1, r', ⟨s.seen, (s.kid.set x.a.toNat true).set x.b.toNat true⟩, by go_num, by omega, by have := HG.out; show gk - 1 + (k + 1) = n; omega, rdAll_more HXK.out HRD.out e1, e2, ⟨by rw [hok.2, HRL.out.1], hok.1⟩, ((HI.hang (by rw [HK.out.klen]; omega)).hang (by simp only [List.length_set]; rw [HK.out.klen]; omega)).next (below_alloc _ _)⟩
      · obtain rfl : k = n := by omega
        have HRD2 : Hid (rdAll L ⟨[], [], []⟩ bs = some r) := by
          have h := HRD.out
          rw [List.take_of_length_le (by have := HN.out; omega)] at h
          exact h
        have HV := Lib.hid (KRel.last HN.out HL2.out hL0 hL1 HRD2.out HK.out)
        obtain ⟨wo, rfl⟩ : ∃ wo : World, wo = wr := ⟨_, rfl⟩
        have HI1 := Lib.hid HI
        obtain ⟨g0, rfl⟩ : ∃ g0 : Nat, g0 = gk := ⟨_, rfl⟩
        clear HI hs1 hs2 HG HRD
        go_wp2_with fail
        go_loopg [10] L (fun gk v10 wr => ∃ (j : Nat), v10 = .int .i64 j ∧ j ≤ L ∧ Hid (gk + j = L) ∧ Hid (∀ q, q < j → s.seen.getD q false = true) ∧ KInv w wr (w.heap.size + 1) L k s)
        case atStart => exact ⟨0, rfl, Nat.zero_le _, rfl, fun q hq => by omega, HI1.out⟩
        case round =>
          obtain ⟨j, rfl, hj, HG, HAL, HI⟩ := hrel
          by_cases hjl : j < L
          · have r0 := HI.srow.cell (i := j) hjl
            cases hs : s.seen.getD j false with
            | false =>
              rw [hs] at r0
              have HF : Hid (okTree L bs = 200) := okTree_not (fun h => by
                have := (HV.out.1 h).1 j hjl
                rw [hs] at this
                cases this)
              clear hs
              go_wp2_with fail
              go_ret
              exact ⟨by rw [HF.out]; rfl, HI.below⟩
            | true =>
              rw [hs] at r0
              have HS := Lib.hid hs
              clear hs
              go_wp2_with fail
              go_roundg (gk - 1)
              case measure => have := HG.out; omega
              case rel =>
                refine ⟨j + 1, by go_num, by omega, by have := HG.out; show gk - 1 + (j + 1) = L; omega, fun q hq => ?_, HI⟩
                by_cases hqj : q = j
                · rw [hqj]; exact HS.out
                · exact HAL.out q (by omega)
          · obtain rfl : j = L := by omega
            have HI2 := Lib.hid HI
            obtain ⟨wp, rfl⟩ : ∃ wp : World, wp = wr := ⟨_, rfl⟩
            obtain ⟨g1, rfl⟩ : ∃ g1 : Nat, g1 = gk := ⟨_, rfl⟩
            clear HI HG
            go_wp2_with fail
            have hk1 : 0 < k := by have := HL2.out; omega
            go_loopg [11] (k - 1) (fun gk v11 wr => ∃ (i : Nat), v11 = .int .i64 i ∧ i ≤ k - 1 ∧ Hid (gk + i = k - 1) ∧ Hid (∀ q, q < i → s.kid.getD q false = true) ∧ KInv w wr (w.heap.size + 1) j k s)
            case atStart => exact ⟨0, rfl, Nat.zero_le _, rfl, fun q hq => by omega, HI2.out⟩
            case round =>
              obtain ⟨i, rfl, hi, HG, HBL, HI⟩ := hrel
              by_cases hil : i < k - 1
              · have r0 := HI.krow.cell (i := i) (by omega)
                cases hs : s.kid.getD i false with
                | false =>
                  rw [hs] at r0
                  have HF : Hid (okTree j bs = 200) := okTree_not (fun h => by
                    have := (HV.out.1 h).2 i hil
                    rw [hs] at this
                    cases this)
                  clear hs
                  go_wp2_with fail
                  go_ret
                  exact ⟨by rw [HF.out]; rfl, HI.below⟩
                | true =>
                  rw [hs] at r0
                  have HS := Lib.hid hs
                  clear hs
                  go_wp2_with fail
                  go_roundg (gk - 1)
                  case measure => have := HG.out; omega
                  case rel =>
                    refine ⟨i + 1, by go_num, by omega, by have := HG.out; show gk - 1 + (i + 1) = k - 1; omega, fun q hq => ?_, HI⟩
                    by_cases hqj : q = i
                    · rw [hqj]; exact HS.out
                    · exact HBL.out q (by omega)
              · have hik : i = k - 1 := by omega
                have HF : Hid (okTree j bs = 0) := by
                  show okTree j bs = 0
                  unfold okTree
                  rw [if_pos (HV.out.2 ⟨HAL.out, fun q hq => HBL.out q (by omega)⟩)]
                have hbl := HI.below
                clear HI
                go_wp2_with fail
                go_ret
                exact ⟨by rw [HF.out]; rfl, hbl⟩
end Go.Proofs.Ytbmlkomfelkckaa
