/- stemma.least over all trees, stemma.Best, and what law 22 asks ahead. -/
import Derived.Test.YtbmlkomfelkckaaLeastT
import Derived.Test.YtbmlkomfelkckaaMat
import Derived.Outline
namespace Go.Proofs.Ytbmlkomfelkckaa
open Go Go.RowKit
set_option maxRecDepth 100000
attribute [local go_sem] Oper.semAt_some

/-- What least's own boxes hold, between two rounds. -/
structure LInv (w : World) (base bM : Nat) (s : LS) (W : World) : Prop where
  below : Below w.heap.size w W
  mbox : W.cell? ⟨w.heap.size, 0, none⟩ = some (.func (.func 63) #[] #[.pointer (some ⟨bM, 0, none⟩)])
  row : ∃ v vs, W.heap[w.heap.size + 1]? = some (.cells #[v] 38 (0, 0)) ∧ TreesAt W base v s.l vs ∧ (s.low = none → v = .slice none 0 0)
  low : W.heap[w.heap.size + 1 + 1]? = some (.cells #[.int .i64 (lowI s.low)] 3 (0, 0))

theorem LInv.keep {w : World} {base bM B : Nat} {s : LS} {W W' : World} (h : LInv w base bM s W) (k : Keep B W W') (hB : w.heap.size ≤ B) : LInv w base bM s W' := by
  obtain ⟨v, vs, h1, h2, h3⟩ := h.row
  exact ⟨k.below h.below hB h.below.size, k.cell h.mbox, ⟨v, vs, k.cells _ _ h1 rfl, h2.keep k, h3⟩, k.cells _ _ h.low rfl⟩

/-- What least leaves. -/
def RetLeastT (w : World) (base : Nat) (s : LS) (e : Ending) (w' : World) : Prop :=
  Below w.heap.size w w' ∧ ∃ A c vs, e = .returned (.tuple #[.slice A s.l.length c, .int .i64 (lowI s.low)]) ∧ TreesAt w' base (.slice A s.l.length c) s.l vs

/-- What a round's body is told. -/
def LRd (w : World) (bl bM base B0 : Nat) (cost : NT → Nat) (pre : List NT) (T : NT) (W1 : World) (a : Act) (W : World) : Prop :=
  LInv w base bM (lfold cost pre) W ∧ base ≤ W.heap.size ∧ ItKeep B0 base W1 W ∧ ∃ u bx, TreeRow W base T u ∧ w.heap.size + 1 + 1 < bx ∧ W.cell? ⟨bx, 0, none⟩ = some u ∧
    a = { tmps := #[.func (.func 65) #[] #[.pointer (some ⟨bl, 0, none⟩)], .func (.func 63) #[] #[.pointer (some ⟨bM, 0, none⟩)], undef, .pointer (some ⟨w.heap.size, 0, none⟩), .slice none 0 0, .int .i64 0,
      .pointer (some ⟨w.heap.size + 1, 0, none⟩), .pointer (some ⟨w.heap.size + 1 + 1, 0, none⟩), .pointer (some ⟨bx, 0, none⟩), undef, .func (.func 65) #[] #[.pointer (some ⟨bl, 0, none⟩)], .agg #[u], undef, undef, undef, undef, undef, undef, undef, undef, undef, undef, undef, undef, undef, undef, undef, undef, undef, undef, undef, undef, undef, undef], defers := [] }

set_option maxHeartbeats 4000000 in
theorem least_in (m bl bM n2 c2 : Nat) (z : Int) (A2 : Option Addr) (rows : List (List Int)) (w : World) (hz : 0 ≤ z ∧ z ≤ 7) (hbl : w.cell? ⟨bl, 0, none⟩ = some (.int .i64 z)) (hM : w.cell? ⟨bM, 0, none⟩ = some (.slice A2 n2 c2)) (hr : RdRows w A2 rows) (hn : rows.length = n2) (hcap : n2 ≤ 9223372036854775807) :
    CallsIn Fence.wide m Try.prog 62 #[.func (.func 65) #[] #[.pointer (some ⟨bl, 0, none⟩)], .func (.func 63) #[] #[.pointer (some ⟨bM, 0, none⟩)]] w
      (RetLeastT w (w.heap.size + 3 + 2 + 1 + 2 * z.toNat) (lfold (fun T => sumNum (T.form 0) rows) (treesOf z))) := by
  have b0 := below_alloc w (.cells #[.func (.func 63) #[] #[.pointer (some ⟨bM, 0, none⟩)]] 110)
  have b1 := below_alloc (w.alloc (.cells #[.func (.func 63) #[] #[.pointer (some ⟨bM, 0, none⟩)]] 110)) (.cells #[.slice none 0 0] 38)
  have b2 := below_alloc ((w.alloc (.cells #[.func (.func 63) #[] #[.pointer (some ⟨bM, 0, none⟩)]] 110)).alloc (.cells #[.slice none 0 0] 38)) (.cells #[.int .i64 (-1)] 3)
  have HB0 := Lib.hid (Below.then (Below.then b0 b0.size b1) (by simp; omega) b2)
  have e0 := cell_below b2 (by simp; omega) (cell_below b1 (by simp) (new_cell w #[.func (.func 63) #[] #[.pointer (some ⟨bM, 0, none⟩)]] 110 0))
  have e1 := heap_alloc_new (w.alloc (.cells #[.func (.func 63) #[] #[.pointer (some ⟨bM, 0, none⟩)]] 110)) (.cells #[.slice none 0 0] 38)
  rw [World.size_alloc] at e1
  have e1 := (b2.block (w.heap.size + 1) (by simp)).trans e1
  have e2 := heap_alloc_new ((w.alloc (.cells #[.func (.func 63) #[] #[.pointer (some ⟨bM, 0, none⟩)]] 110)).alloc (.cells #[.slice none 0 0] 38)) (.cells #[.int .i64 (-1)] 3)
  have hsz : (((w.alloc (.cells #[.func (.func 63) #[] #[.pointer (some ⟨bM, 0, none⟩)]] 110)).alloc (.cells #[.slice none 0 0] 38)).alloc (.cells #[.int .i64 (-1)] 3)).heap.size = w.heap.size + 3 := by simp
  simp only [World.size_alloc] at e2
  have hbl' := cell_below HB0.out (cell_lt hbl) hbl
  have HI0 : Hid (LInv w (w.heap.size + 3 + 2 + 1 + 2 * z.toNat) bM (lfold (fun T => sumNum (T.form 0) rows) []) (((w.alloc (.cells #[.func (.func 63) #[] #[.pointer (some ⟨bM, 0, none⟩)]] 110)).alloc (.cells #[.slice none 0 0] 38)).alloc (.cells #[.int .i64 (-1)] 3))) :=
    ⟨HB0.out, e0, ⟨_, [], e1, TreesAt.nil _ _, fun _ => rfl⟩, e2⟩
  have HM := Lib.hid (fun (W : World) (T : NT) (v : Value) (hW : Below w.heap.size w W) (hv : TreeRow W (w.heap.size + 3 + 2 + 1 + 2 * z.toNat) T v) (hs : T.size ≤ 1000) => measure_calls bM c2 n2 _ A2 rows T v W hv hs (cell_below hW (cell_lt hM) hM) (hr.below hW) hn hcap)
  clear b0 b1 b2 e0 e1 e2 hbl hr hn
  refine callsIn_of_wp_marks Try.func62 rfl trivial ?_ rfl
  simp only [Try.ntmps62, List.size_toArray, List.length_cons, List.length_nil, Nat.reduceAdd, Nat.reduceSub, Array.replicate_succ, Array.replicate_zero, List.push_toArray, List.append_toArray, List.nil_append, List.cons_append]
  gi_wp2_with fail
  generalize ((w.alloc (.cells #[.func (.func 63) #[] #[.pointer (some ⟨bM, 0, none⟩)]] 110)).alloc (.cells #[.slice none 0 0] 38)).alloc (.cells #[.int .i64 (-1)] 3) = W0 at *
  refine wpIn_rangeTrees (bl := bl) (z := z) rfl rfl (by omega) hbl' (fun pre W => LInv w (w.heap.size + 3 + 2 + 1 + 2 * z.toNat) bM (lfold (fun T => sumNum (T.form 0) rows) pre) W) (fun _ _ _ => False)
    (LRd w bl bM (w.heap.size + 3 + 2 + 1 + 2 * z.toNat) (w.heap.size + 3 + 2) (fun T => sumNum (T.form 0) rows)) (fun pre W W' h k => h.keep k (by omega)) (fun _ _ _ _ h _ => h.elim) ?hRd HI0.out ?assign ?body ?done ?stop
  case hRd =>
    rw [hsz]
    rintro pre T W1 a W W' ⟨hi, hb, hk, u, bx, h1, h2, h3, rfl⟩ k
    exact ⟨hi.keep k (by omega), Nat.le_trans hb k.size, hk.keep k (by omega), u, bx, h1.keep k, h2, k.cell h3, rfl⟩
  case assign =>
    rw [hsz]
    intro l k T A c pre W0' W1 hi hB hb ho hpre
    have hi1 := hi.keep (Keep.of (w.heap.size + 3) hb) (by omega)
    have hb1 := below_alloc W1 (.cells #[.slice A T.size c] 26)
    have hR : KeepsFrom (w.heap.size + 3) W1 (W1.alloc (.cells #[.slice A T.size c] 26)) ∧ ∀ a, a = _ → LRd w bl bM (w.heap.size + 3 + 2 + 1 + 2 * z.toNat) (w.heap.size + 3 + 2) (fun T => sumNum (T.form 0) rows) pre T W1 a (W1.alloc (.cells #[.slice A T.size c] 26)) :=
      ⟨(KeepsOthers.alloc _ _).from _, fun a ha => ⟨hi1.keep (Keep.of (w.heap.size + 3) hb1) (by omega), by have := hb.size; simp; omega, ItKeep.of _ _ hb1, _, W1.heap.size, TreeRow.below (W := W1) ⟨A, c, rfl, own_mono ho hB⟩ hb1, by have := hb.size; omega, new_cell W1 _ _ 0, ha⟩⟩
    have HR := Lib.hid hR
    clear hR hi hi1 hb hb1 ho hpre
    gi_wp2
    exact ⟨HR.out.1, HR.out.2 _ rfl⟩
  case body =>
    rw [hsz]
    rintro l k T pre a W1 W ⟨hi, hb, hk, u, bx, h1, h2, h3, rfl⟩ hl hpre
    have hT := (treesOf_on (n := z.toNat) (T := T) (by rw [show ((z.toNat : Nat) : Int) = z by omega]; exact prefix_mem hpre)).1
    have hTs := hT.size
    have hTf := hT.few
    obtain ⟨v, vs, hv, ht, hvn⟩ := hi.row
    obtain ⟨-, hm1, -, hl1⟩ := id hi
    have HMM := Lib.hid (CallsIn.inRound l (callsIn_wide (n := k - 1).2 (HM.out W T u hi.below h1 (by omega))))
    obtain ⟨s, hs⟩ : ∃ s, lfold (fun T => sumNum (T.form 0) rows) pre = s := ⟨_, rfl⟩
    have HSN : Hid (lfold (fun T => sumNum (T.form 0) rows) (pre ++ [T]) = lstep (fun T => sumNum (T.form 0) rows) s T) := by
      show _ = _
      rw [lfold_snoc, hs]
    have HZ : Hid (s.l.length ≤ 10395 ∧ (s.low = none → s.l = []) ∧ ∀ m, s.low = some m → 0 < s.l.length) := by
      rw [← hs]
      exact ⟨lfold_few _ hpre hz.2, lfold_none _ _, fun m => lfold_some _ _⟩
    rw [hs] at hi ht hl1 hvn
    have HVN := Lib.hid hvn
    have hlt1 := cell_lt h3
    have hB0 : w.heap.size + 3 + 2 + 1 + 2 * z.toNat ≤ W.heap.size := hb
    have HIT := Lib.hid hk
    have HLB := Lib.hid hi.below
    clear hs hpre hT hTs hTf hi hk hvn
    gi_wp2_with fail
    refine ⟨trivial, fun h => (by cases h), ?_⟩
    (with_reducible refine CallsIn.mono HMM.out ?_)
    rintro e w5 ⟨rfl, hb5⟩
    have hm1 := cell_below hb5 (cell_lt hm1) hm1
    have hv5 := (hb5.block _ (Array.getElem?_eq_some_iff.1 hv).1).trans hv
    have hl5 := (hb5.block _ (Array.getElem?_eq_some_iff.1 hl1).1).trans hl1
    have h3 := cell_below hb5 hlt1 h3
    have HT5 := Lib.hid (ht.below hb5)
    have HU5 := Lib.hid (h1.below hb5)
    have HB5 := Lib.hid (Below.then HLB.out HLB.out.size hb5)
    have HIT5 := Lib.hid (HIT.out.trans (ItKeep.of (w.heap.size + 3 + 2) (w.heap.size + 3 + 2 + 1 + 2 * z.toNat) hb5))
    have HKF := Lib.hid ((keepsOthers_below hb5).from (w.heap.size + 3))
    have hz5 : w.heap.size + 3 + 2 + 1 + 2 * z.toNat ≤ w5.heap.size := Nat.le_trans hB0 hb5.size
    have hbx : bx < w5.heap.size := Nat.lt_of_lt_of_le hlt1 hb5.size
    clear ht h1 hb5 HMM HIT HLB hb hB0 hv hl1
    obtain ⟨q, hq⟩ : ∃ q, sumNum (T.form 0) rows = q := ⟨_, rfl⟩
    have HQ := Lib.hid hq
    rw [hq]
    clear hq
    obtain ⟨sl, slow⟩ := s
    dsimp only at hv5 hl5 HT5 HZ HVN
    obtain ⟨Au, cu, rfl, hou⟩ := HU5.out
    clear hou
    cases slow with
    | none =>
      obtain rfl := HVN.out rfl
      have HS1 : Hid (lfold (fun T => sumNum (T.form 0) rows) (pre ++ [T]) = ⟨[T], some q⟩) := by
        show _ = _
        rw [HSN.out, lstep, HQ.out]
      have HN' : True := trivial
      obtain rfl := HZ.out.2.1 rfl
      have HT7 : Hid ((((w5.setCell ⟨w.heap.size + 1, 0, none⟩ (.slice none 0 0)).setCell ⟨w.heap.size + 1 + 1, 0, none⟩ (.int .i64 (q : Int))) : World).ownsRow (w.heap.size + 3 + 2 + 1 + 2 * z.toNat) 26 1 (.slice none 0 0) 0 []) := ownsRow_setCell_below (ownsRow_setCell_below (own_cut HT5.out.own) (a := ⟨w.heap.size + 1, 0, none⟩) (show w.heap.size + 1 < _ by omega) (.slice none 0 0)) (a := ⟨w.heap.size + 1 + 1, 0, none⟩) (show w.heap.size + 1 + 1 < _ by omega) (.int .i64 (q : Int))
      have HU7 : Hid (TreeRow ((w5.setCell ⟨w.heap.size + 1, 0, none⟩ (.slice none 0 0)).setCell ⟨w.heap.size + 1 + 1, 0, none⟩ (.int .i64 (q : Int))) (w.heap.size + 3 + 2 + 1 + 2 * z.toNat) T (.slice Au T.size cu)) := (HU5.out.set (b := w.heap.size + 1) (j := 0) (by omega) (.slice none 0 0)).set (b := w.heap.size + 1 + 1) (j := 0) (by omega) (.int .i64 (q : Int))
      have hm5 := box_cell hl5
      have hv6 := one_setCell (u := (.slice none 0 0)) hv5
      have hl6 : (w5.setCell ⟨w.heap.size + 1, 0, none⟩ (.slice none 0 0)).heap[w.heap.size + 1 + 1]? = _ := (Below.heap_setCell _ _ _ _ (by show w.heap.size + 1 + 1 ≠ w.heap.size + 1; omega)).trans hl5
      have p1 := box_cell hl6
      have p2 := box_frozen hl6
      have hl7 := one_setCell (u := .int .i64 (q : Int)) hl6
      have hv7 : ((w5.setCell ⟨w.heap.size + 1, 0, none⟩ (.slice none 0 0)).setCell ⟨w.heap.size + 1 + 1, 0, none⟩ (.int .i64 (q : Int))).heap[w.heap.size + 1]? = _ := (Below.heap_setCell _ _ _ _ (by show w.heap.size + 1 ≠ w.heap.size + 1 + 1; omega)).trans hv6
      have r1 := box_cell hv7
      have r2 := box_frozen hv7
      have r3 := box_cell hl7
      have r4 : ((w5.setCell ⟨w.heap.size + 1, 0, none⟩ (.slice none 0 0)).setCell ⟨w.heap.size + 1 + 1, 0, none⟩ (.int .i64 (q : Int))).cell? ⟨bx, 0, none⟩ = some (.slice Au T.size cu) := mem_ne (.inl (by show bx ≠ w.heap.size + 1 + 1; omega)) (mem_ne (.inl (by show bx ≠ w.heap.size + 1; omega)) h3)
      have r5 : ((w5.setCell ⟨w.heap.size + 1, 0, none⟩ (.slice none 0 0)).setCell ⟨w.heap.size + 1 + 1, 0, none⟩ (.int .i64 (q : Int))).cell? ⟨w.heap.size, 0, none⟩ = _ := mem_ne (.inl (by show w.heap.size ≠ w.heap.size + 1 + 1; omega)) (mem_ne (.inl (by show w.heap.size ≠ w.heap.size + 1; omega)) hm1)
      have hz7 : w.heap.size + 3 + 2 + 1 + 2 * z.toNat ≤ ((w5.setCell ⟨w.heap.size + 1, 0, none⟩ (.slice none 0 0)).setCell ⟨w.heap.size + 1 + 1, 0, none⟩ (.int .i64 (q : Int))).heap.size := by simpa using hz5
      have HB7 := Lib.hid (below_set (below_set HB5.out (show w.heap.size ≤ w.heap.size + 1 by omega) 0 (.slice none 0 0)) (show w.heap.size ≤ w.heap.size + 1 + 1 by omega) 0 (.int .i64 (q : Int)))
      have HI7 := Lib.hid ((HIT5.out.trans (ItKeep.set hv5 (by decide) (by omega) (.slice none 0 0))).trans (ItKeep.set hl6 (by decide) (by omega) (.int .i64 (q : Int))))
      have HK7 : Hid (KeepsFrom (w.heap.size + 3) W ((w5.setCell ⟨w.heap.size + 1, 0, none⟩ (.slice none 0 0)).setCell ⟨w.heap.size + 1 + 1, 0, none⟩ (.int .i64 (q : Int)))) := (HKF.out.trans ((KeepsOthers.setCell _ _ _).from _)).trans ((KeepsOthers.setCell _ _ _).from _)
      have HN7 : Hid (TreesAt ((w5.setCell ⟨w.heap.size + 1, 0, none⟩ (.slice none 0 0)).setCell ⟨w.heap.size + 1 + 1, 0, none⟩ (.int .i64 (q : Int))) (w.heap.size + 3 + 2 + 1 + 2 * z.toNat) (.slice none 0 0) [] []) := ⟨HT7.out, fun i T h => by simp at h⟩
      have c6 := box_cell hv5
      have c7 := box_frozen hv5
      have hlt7 := cell_lt r1
      have hlt8 := cell_lt r3
      clear hv5 hl5 HIT5 HKF HT5 HU5 HB5 hv6 hl6 HSN HQ HZ HN' HVN
      simp only [lowI] at hm5 p1
      have HR5 := Lib.hid r5
      have HL7 := Lib.hid hl7
      have HV7 := Lib.hid hv7
      clear r5 hl7 hv7
      gi_wp2_with (gi_at_builtin; refine gwalk_append1 HT7.out hz7 (by omega) 38 Try.underlying38 info_treeT ⟨rfl, by decide, by decide⟩ #[.slice Au T.size cu] ⟨rfl, by simp [Value.oneCell']⟩ (by exact ⟨rfl, rfl, rfl, rfl, by simp⟩) ?_; intro v1 w9 ho9 hu9; obtain ⟨A9, c9, rfl, -⟩ := own_slice ho9; have hb79 := hu9.below hz7 (own_base HT7.out); have q1 := cell_below hb79 (by omega) r1; have q2 := frozen_below hb79 (by omega) r2)
      have hv9 := (hb79.block _ (by omega)).trans HV7.out
      have hl9 := (hb79.block _ (by omega)).trans HL7.out
      have hT9 := HN7.out.snoc ho9 hu9 (HU7.out.upd hu9 HT7.out)
      have hv10 := one_setCell (u := .slice A9 1 c9) hv9
      have hl10 : (w9.setCell ⟨w.heap.size + 1, 0, none⟩ (.slice A9 1 c9)).heap[w.heap.size + 1 + 1]? = _ := (Below.heap_setCell _ _ _ _ (by show w.heap.size + 1 + 1 ≠ w.heap.size + 1; omega)).trans hl9
      refine ⟨(HK7.out.trans ((keepsOthers_upd hu9 HT7.out).from _)).trans ((KeepsOthers.setCell _ _ _).from _), (HI7.out.trans (ItKeep.upd hu9 HT7.out (by decide) (Nat.le_refl _))).trans (ItKeep.set hv9 (by decide) (by omega) _), ?_⟩
      show LInv w _ bM (lfold _ (pre ++ [T])) _
      rw [HS1.out]
      exact ⟨below_set (HB7.out.trans (hb79.mono (by omega))) (by omega) _ _, mem_ne (.inl (by show w.heap.size ≠ w.heap.size + 1; omega)) (cell_below hb79 (by omega) HR5.out), ⟨_, _, hv10, hT9.set (by omega) _, fun h => by cases h⟩, hl10⟩
    | some mm =>
      have hpos := HZ.out.2.2 mm rfl
      obtain ⟨A', c', rfl, hcap'⟩ := own_slice HT5.out.own
      obtain ⟨g', hg', -⟩ := own_at HT5.out.own hpos
      subst hg'
      have HN' := Lib.hid HZ.out.1
      obtain ⟨n', hn'⟩ : ∃ n', sl.length = n' := ⟨_, rfl⟩
      have HNL := Lib.hid hn'
      have HT5 := HT5
      rw [hn'] at hv5 hcap' hpos
      have hc1 : (1 : Int) ≤ c' := by omega
      have hc2 : 1 ≤ c' := by omega
      clear hn'
      by_cases hlt : q < mm
      · have HS1 : Hid (lfold (fun T => sumNum (T.form 0) rows) (pre ++ [T]) = ⟨[T], some q⟩) := by
          show _ = _
          rw [HSN.out, lstep, HQ.out]
          exact if_pos hlt
        have hltI : (q : Int) < (mm : Int) := by omega
        have hmI : ¬ (mm : Int) < 0 := by omega
        clear hlt hpos
        have HT7 : Hid ((((w5.setCell ⟨w.heap.size + 1, 0, none⟩ (.slice (some ⟨g', 0, none⟩) 0 c')).setCell ⟨w.heap.size + 1 + 1, 0, none⟩ (.int .i64 (q : Int))) : World).ownsRow (w.heap.size + 3 + 2 + 1 + 2 * z.toNat) 26 1 (.slice (some ⟨g', 0, none⟩) 0 c') 0 []) := ownsRow_setCell_below (ownsRow_setCell_below (own_cut HT5.out.own) (a := ⟨w.heap.size + 1, 0, none⟩) (show w.heap.size + 1 < _ by omega) (.slice (some ⟨g', 0, none⟩) 0 c')) (a := ⟨w.heap.size + 1 + 1, 0, none⟩) (show w.heap.size + 1 + 1 < _ by omega) (.int .i64 (q : Int))
        have HU7 : Hid (TreeRow ((w5.setCell ⟨w.heap.size + 1, 0, none⟩ (.slice (some ⟨g', 0, none⟩) 0 c')).setCell ⟨w.heap.size + 1 + 1, 0, none⟩ (.int .i64 (q : Int))) (w.heap.size + 3 + 2 + 1 + 2 * z.toNat) T (.slice Au T.size cu)) := (HU5.out.set (b := w.heap.size + 1) (j := 0) (by omega) (.slice (some ⟨g', 0, none⟩) 0 c')).set (b := w.heap.size + 1 + 1) (j := 0) (by omega) (.int .i64 (q : Int))
        have hm5 := box_cell hl5
        have hv6 := one_setCell (u := (.slice (some ⟨g', 0, none⟩) 0 c')) hv5
        have hl6 : (w5.setCell ⟨w.heap.size + 1, 0, none⟩ (.slice (some ⟨g', 0, none⟩) 0 c')).heap[w.heap.size + 1 + 1]? = _ := (Below.heap_setCell _ _ _ _ (by show w.heap.size + 1 + 1 ≠ w.heap.size + 1; omega)).trans hl5
        have p1 := box_cell hl6
        have p2 := box_frozen hl6
        have hl7 := one_setCell (u := .int .i64 (q : Int)) hl6
        have hv7 : ((w5.setCell ⟨w.heap.size + 1, 0, none⟩ (.slice (some ⟨g', 0, none⟩) 0 c')).setCell ⟨w.heap.size + 1 + 1, 0, none⟩ (.int .i64 (q : Int))).heap[w.heap.size + 1]? = _ := (Below.heap_setCell _ _ _ _ (by show w.heap.size + 1 ≠ w.heap.size + 1 + 1; omega)).trans hv6
        have r1 := box_cell hv7
        have r2 := box_frozen hv7
        have r3 := box_cell hl7
        have r4 : ((w5.setCell ⟨w.heap.size + 1, 0, none⟩ (.slice (some ⟨g', 0, none⟩) 0 c')).setCell ⟨w.heap.size + 1 + 1, 0, none⟩ (.int .i64 (q : Int))).cell? ⟨bx, 0, none⟩ = some (.slice Au T.size cu) := mem_ne (.inl (by show bx ≠ w.heap.size + 1 + 1; omega)) (mem_ne (.inl (by show bx ≠ w.heap.size + 1; omega)) h3)
        have r5 : ((w5.setCell ⟨w.heap.size + 1, 0, none⟩ (.slice (some ⟨g', 0, none⟩) 0 c')).setCell ⟨w.heap.size + 1 + 1, 0, none⟩ (.int .i64 (q : Int))).cell? ⟨w.heap.size, 0, none⟩ = _ := mem_ne (.inl (by show w.heap.size ≠ w.heap.size + 1 + 1; omega)) (mem_ne (.inl (by show w.heap.size ≠ w.heap.size + 1; omega)) hm1)
        have hz7 : w.heap.size + 3 + 2 + 1 + 2 * z.toNat ≤ ((w5.setCell ⟨w.heap.size + 1, 0, none⟩ (.slice (some ⟨g', 0, none⟩) 0 c')).setCell ⟨w.heap.size + 1 + 1, 0, none⟩ (.int .i64 (q : Int))).heap.size := by simpa using hz5
        have HB7 := Lib.hid (below_set (below_set HB5.out (show w.heap.size ≤ w.heap.size + 1 by omega) 0 (.slice (some ⟨g', 0, none⟩) 0 c')) (show w.heap.size ≤ w.heap.size + 1 + 1 by omega) 0 (.int .i64 (q : Int)))
        have HI7 := Lib.hid ((HIT5.out.trans (ItKeep.set hv5 (by decide) (by omega) (.slice (some ⟨g', 0, none⟩) 0 c'))).trans (ItKeep.set hl6 (by decide) (by omega) (.int .i64 (q : Int))))
        have HK7 : Hid (KeepsFrom (w.heap.size + 3) W ((w5.setCell ⟨w.heap.size + 1, 0, none⟩ (.slice (some ⟨g', 0, none⟩) 0 c')).setCell ⟨w.heap.size + 1 + 1, 0, none⟩ (.int .i64 (q : Int)))) := (HKF.out.trans ((KeepsOthers.setCell _ _ _).from _)).trans ((KeepsOthers.setCell _ _ _).from _)
        have HN7 : Hid (TreesAt ((w5.setCell ⟨w.heap.size + 1, 0, none⟩ (.slice (some ⟨g', 0, none⟩) 0 c')).setCell ⟨w.heap.size + 1 + 1, 0, none⟩ (.int .i64 (q : Int))) (w.heap.size + 3 + 2 + 1 + 2 * z.toNat) (.slice (some ⟨g', 0, none⟩) 0 c') [] []) := ⟨HT7.out, fun i T h => by simp at h⟩
        have c6 := box_cell hv5
        have c7 := box_frozen hv5
        have hlt7 := cell_lt r1
        have hlt8 := cell_lt r3
        clear hv5 hl5 HIT5 HKF HT5 HU5 HB5 hv6 hl6 HSN HQ HZ HN' HVN
        simp only [lowI] at hm5 p1
        have HR5 := Lib.hid r5
        have HL7 := Lib.hid hl7
        have HV7 := Lib.hid hv7
        clear r5 hl7 hv7
        gi_wp2_with (gi_at_builtin; refine gwalk_append1 HT7.out hz7 (by omega) 38 Try.underlying38 info_treeT ⟨rfl, by decide, by decide⟩ #[.slice Au T.size cu] ⟨rfl, by simp [Value.oneCell']⟩ (by exact ⟨rfl, rfl, rfl, rfl, by simp⟩) ?_; intro v1 w9 ho9 hu9; obtain ⟨A9, c9, rfl, -⟩ := own_slice ho9; have hb79 := hu9.below hz7 (own_base HT7.out); have q1 := cell_below hb79 (by omega) r1; have q2 := frozen_below hb79 (by omega) r2)
        have hv9 := (hb79.block _ (by omega)).trans HV7.out
        have hl9 := (hb79.block _ (by omega)).trans HL7.out
        have hT9 := HN7.out.snoc ho9 hu9 (HU7.out.upd hu9 HT7.out)
        have hv10 := one_setCell (u := .slice A9 1 c9) hv9
        have hl10 : (w9.setCell ⟨w.heap.size + 1, 0, none⟩ (.slice A9 1 c9)).heap[w.heap.size + 1 + 1]? = _ := (Below.heap_setCell _ _ _ _ (by show w.heap.size + 1 + 1 ≠ w.heap.size + 1; omega)).trans hl9
        refine ⟨(HK7.out.trans ((keepsOthers_upd hu9 HT7.out).from _)).trans ((KeepsOthers.setCell _ _ _).from _), (HI7.out.trans (ItKeep.upd hu9 HT7.out (by decide) (Nat.le_refl _))).trans (ItKeep.set hv9 (by decide) (by omega) _), ?_⟩
        show LInv w _ bM (lfold _ (pre ++ [T])) _
        rw [HS1.out]
        exact ⟨below_set (HB7.out.trans (hb79.mono (by omega))) (by omega) _ _, mem_ne (.inl (by show w.heap.size ≠ w.heap.size + 1; omega)) (cell_below hb79 (by omega) HR5.out), ⟨_, _, hv10, hT9.set (by omega) _, fun h => by cases h⟩, hl10⟩
      · have hltI : ¬ (q : Int) < (mm : Int) := by omega
        have hmI : ¬ (mm : Int) < 0 := by omega
        have hv5c := box_cell hv5
        have hv5f := box_frozen hv5
        have hl5c := box_cell hl5
        simp only [lowI] at hl5c
        have HV5 := Lib.hid hv5
        have HL5 := Lib.hid hl5
        have HM5 := Lib.hid hm1
        by_cases heq : q = mm
        · subst heq
          have f1 : ((q : Int) == (q : Int)) = true := by simp
          have HS1 : Hid (lfold (fun T => sumNum (T.form 0) rows) (pre ++ [T]) = ⟨sl ++ [T], some q⟩) := by
            show _ = _
            rw [HSN.out, lstep, HQ.out]
            simp
          have HO5 : Hid (w5.ownsRow (w.heap.size + 3 + 2 + 1 + 2 * z.toNat) 26 1 (.slice (some ⟨g', 0, none⟩) n' c') n' vs) := by
            have := HT5.out.own
            rw [HNL.out] at this
            exact this
          have hn1 : n' ≤ 10395 := by have := HN'.out; have := HNL.out; omega
          clear hv5 hl5 hm1 HSN HQ HZ hlt hpos HVN
          gi_wp2_with (gi_at_builtin; refine gwalk_append1 HO5.out hz5 (by omega) 38 Try.underlying38 info_treeT ⟨rfl, by decide, by decide⟩ #[.slice Au T.size cu] ⟨rfl, by simp [Value.oneCell']⟩ (by exact ⟨rfl, rfl, rfl, rfl, rfl⟩) ?_; intro v1 w9 ho9 hu9; obtain ⟨A9, c9, rfl, -⟩ := own_slice ho9; have hb79 := hu9.below hz5 (own_base HO5.out); have q1 := cell_below hb79 (by omega) hv5c; have q2 := frozen_below hb79 (by omega) hv5f)
          have hv9 := (hb79.block _ (by omega)).trans HV5.out
          have hl9 := (hb79.block _ (by omega)).trans HL5.out
          have hu9' : Upd w5 w9 (.slice (some ⟨g', 0, none⟩) sl.length c') (.slice A9 (n' + 1) c9) := by rw [HNL.out]; exact hu9
          have hT9 := HT5.out.snoc (by rw [HNL.out]; exact ho9) hu9' (HU5.out.upd hu9 HO5.out)
          have hv10 := one_setCell (u := .slice A9 (n' + 1) c9) hv9
          have hl10 : (w9.setCell ⟨w.heap.size + 1, 0, none⟩ (.slice A9 (n' + 1) c9)).heap[w.heap.size + 1 + 1]? = _ := (Below.heap_setCell _ _ _ _ (by show w.heap.size + 1 + 1 ≠ w.heap.size + 1; omega)).trans hl9
          refine ⟨(HKF.out.trans ((keepsOthers_upd hu9 HO5.out).from _)).trans ((KeepsOthers.setCell _ _ _).from _), (HIT5.out.trans (ItKeep.upd hu9 HO5.out (by decide) (Nat.le_refl _))).trans (ItKeep.set hv9 (by decide) (by omega) _), ?_⟩
          show LInv w _ bM (lfold _ (pre ++ [T])) _
          rw [HS1.out]
          exact ⟨below_set (HB5.out.trans (hb79.mono (by omega))) (by omega) _ _, mem_ne (.inl (by show w.heap.size ≠ w.heap.size + 1; omega)) (cell_below hb79 (by omega) HM5.out), ⟨_, _, hv10, hT9.set (by omega) _, fun h => by cases h⟩, hl10⟩
        · have f1 : ((q : Int) == (mm : Int)) = false := by rw [beq_eq_false_iff_ne]; omega
          have HS1 : Hid (lfold (fun T => sumNum (T.form 0) rows) (pre ++ [T]) = ⟨sl, some mm⟩) := by
            show _ = _
            rw [HSN.out, lstep, HQ.out]
            show (if q < mm then _ else if q = mm then _ else _) = _
            rw [if_neg hlt, if_neg heq]
          have HT6 : Hid (TreesAt w5 (w.heap.size + 3 + 2 + 1 + 2 * z.toNat) (.slice (some ⟨g', 0, none⟩) n' c') sl vs) := by
            have := HT5.out
            rw [HNL.out] at this
            exact this
          clear hv5 hl5 hm1 HSN HQ HZ hlt hpos HVN heq HT5 HU5
          gi_wp2_with fail
          refine ⟨HKF.out, HIT5.out, ?_⟩
          show LInv w _ bM (lfold _ (pre ++ [T])) _
          rw [HS1.out]
          exact ⟨HB5.out, HM5.out, ⟨_, _, HV5.out, HT6.out, fun h => by cases h⟩, HL5.out⟩
  case done =>
    rw [hsz]
    intro D W hD hi hK
    obtain ⟨hb, -, ⟨v, vs, hv, ht, -⟩, hl⟩ := hi
    obtain ⟨s, hs⟩ : ∃ s, lfold (fun T => sumNum (T.form 0) rows) (treesOf z) = s := ⟨_, rfl⟩
    rw [hs] at ht hl
    have HS := Lib.hid hs
    obtain ⟨A, c, rfl, -⟩ := own_slice ht.own
    have hvc := box_cell hv
    have hlc := box_cell hl
    obtain ⟨lo, hlo⟩ : ∃ lo, lowI s.low = lo := ⟨_, rfl⟩
    have HLO := Lib.hid hlo
    rw [hlo] at hlc
    have HT := Lib.hid ht
    have HB := Lib.hid hb
    have HD := Lib.hid hK
    clear hv hl hlo ht hb hs hK
    gi_wp2_with fail
    gi_region
    have hK : W.drew.heap[D]? = some (.deferred (some [])) := HD.out
    have hkp := Keep.trans (Keep.of D (below_drewN W 1)) (Keep.put (.inl rfl) hK rfl (.deferred none))
    gi_wp2_with fail
    refine ⟨by simp, .inl ⟨_, _, rfl, run_takeDeferred hK, ?_⟩⟩
    refine ⟨.tuple #[.slice A s.l.length c, .int .i64 lo], by simp [results, Try.results62], ?_⟩
    refine ⟨hkp.below HB.out (by omega) HB.out.size, ?_⟩
    rw [HS.out]
    exact ⟨A, c, vs, by rw [HLO.out], HT.out.keep hkp⟩
  case stop =>
    intro D c pre W _ _ h
    exact h.elim
end Go.Proofs.Ytbmlkomfelkckaa

namespace Go.Proofs.Ytbmlkomfelkckaa
open Go Go.RowKit
set_option maxRecDepth 100000

/-- Some truth value. -/
def RetSome (w : World) (e : Ending) (w' : World) : Prop := ∃ b, e = .returned (.bool b) ∧ Below w.heap.size w w'

set_option maxHeartbeats 2000000 in
theorem few_calls (A : Option Addr) (n c : Nat) (rows : List (List Int)) (w : World) (hr : RdRows w A rows) (hn : rows.length = n) (hcap : n ≤ 9223372036854775807) :
    Calls Try.prog 26 #[.agg #[.slice A n c]] w (RetSome w) := by
  have HB0 := Lib.hid (below_alloc w (.cells #[.slice A n c] 36))
  have c0 := new_cell w #[.slice A n c] 36 0
  have HR := Lib.hid (hr.below HB0.out)
  have HN := Lib.hid hn
  clear hr hn
  go_enter Try.func26, Try.ntmps26
  go_wp2_with fail
  generalize w.alloc (.cells #[.slice A n c] 36) = W0 at *
  go_loopg [4, 13] n (fun gk v4 v13 wr => ∃ (k m : Nat), v4 = .int .i64 (m : Int) ∧ v13 = .int .i64 k ∧ k ≤ n ∧ m ≤ 9223372036854775807 ∧ Hid (gk + k = n) ∧ wr = W0)
  case atStart => exact ⟨0, 0, rfl, rfl, Nat.zero_le _, by omega, rfl, rfl⟩
  case round =>
    obtain ⟨k, m, rfl, rfl, hk, hm, HG, rfl⟩ := hrel
    by_cases hkn : k < n
    · obtain ⟨r, hrk⟩ : ∃ r, rows[k]? = some r := ⟨_, List.getElem?_eq_getElem (by have := HN.out; omega)⟩
      obtain ⟨ad, A1, k1, rfl, d1, hri, hc1, hc2⟩ := HR.out k r hrk
      have hkI : (k : Int) < n := by omega
      obtain ⟨q, hq⟩ : ∃ q, r.length = q := ⟨_, rfl⟩
      rw [hq] at d1 hc1
      clear hrk hri hq
      go_wp2_with fail
      all_goals
        go_roundg (gk - 1)
        case measure => have := HG.out; omega
        case rel => exact ⟨k + 1, max m q, by go_num, by go_num, by omega, by omega, by have := HG.out; show gk - 1 + (k + 1) = n; omega, rfl⟩
    · obtain rfl : k = n := by omega
      have hkI : ¬ (k : Int) < k := by omega
      clear hkn hk HR HN
      go_wp2_with fail
      all_goals
        go_ret
        exact ⟨_, rfl, HB0.out⟩
end Go.Proofs.Ytbmlkomfelkckaa

namespace Go.Proofs.Ytbmlkomfelkckaa
open Go Go.RowKit
set_option maxRecDepth 100000

/-- The trees with the least changes, and how many. -/
def bestAll (rows : List (List Int)) : LS := lfold (fun T => sumNum (T.form 0) rows) (treesOf (rows.length : Int))

/-- What Best leaves. -/
def RetBestT (w : World) (rows : List (List Int)) (e : Ending) (w' : World) : Prop :=
  Below w.heap.size w w' ∧ if matOk rows = true then
      if rows.length ≤ 7 then ∃ A c vs, e = .returned (.tuple #[.slice A (bestAll rows).l.length c, .int .i64 (lowI (bestAll rows).low), .int .i64 0]) ∧ TreesAt w' w.heap.size (.slice A (bestAll rows).l.length c) (bestAll rows).l vs
      else e = .returned (.tuple #[.slice none 0 0, .int .i64 0, .int .i64 220])
    else e = .returned (.tuple #[.slice none 0 0, .int .i64 0, .int .i64 190])

theorem TreesAt.mono {W : World} {base base' : Nat} {v : Value} {L : List NT} {vs : List Value} (h : TreesAt W base v L vs) (hb : base' ≤ base) : TreesAt W base' v L vs :=
  ⟨own_mono h.own hb, fun i T hi => by obtain ⟨u, h1, A, c, h2, h3⟩ := h.rows i T hi; exact ⟨u, h1, A, c, h2, own_mono h3 hb⟩⟩

set_option maxHeartbeats 2000000 in
theorem tbest_calls (A2 : Option Addr) (n2 c2 : Nat) (rows : List (List Int)) (w : World) (hr : RdRows w A2 rows) (hn : rows.length = n2) (hcap : n2 ≤ 9223372036854775807) :
    Calls Try.prog 27 #[.agg #[.slice A2 n2 c2]] w (RetBestT w rows) := by
  have HMC := Lib.hid (fun (W : World) (h : Below w.heap.size w W) => mcheck_calls A2 n2 c2 rows W (hr.below h) hn hcap)
  have hb0 := below_alloc w (.cells #[.slice A2 n2 c2] 36)
  have c0 := new_cell w #[.slice A2 n2 c2] 36 0
  have hz : w.heap.size < (w.alloc (.cells #[.slice A2 n2 c2] 36)).heap.size := by simp
  have HB0 := Lib.hid hb0
  clear hb0
  by_cases hm : matOk rows = true
  · have he : errMat rows = 0 := by unfold errMat; rw [if_pos hm]
    rw [he] at HMC
    by_cases h7 : n2 ≤ 7
    · have HIF : Hid (∀ e w', (Below w.heap.size w w' ∧ ∃ A c vs, e = .returned (.tuple #[.slice A (bestAll rows).l.length c, .int .i64 (lowI (bestAll rows).low), .int .i64 0]) ∧ TreesAt w' w.heap.size (.slice A (bestAll rows).l.length c) (bestAll rows).l vs) → RetBestT w rows e w') := by
        refine Lib.hid fun e w' h => ⟨h.1, ?_⟩
        rw [if_pos hm, if_pos (by omega)]
        exact h.2
      have h7I : ¬ (n2 : Int) > 7 := by omega
      have HL : Hid (∀ (W : World) (bl : Nat), Below w.heap.size w W → W.cell? ⟨bl, 0, none⟩ = some (.int .i64 (n2 : Int)) → W.cell? ⟨w.heap.size, 0, none⟩ = some (.slice A2 n2 c2) →
          Calls Try.prog 62 #[.func (.func 65) #[] #[.pointer (some ⟨bl, 0, none⟩)], .func (.func 63) #[] #[.pointer (some ⟨w.heap.size, 0, none⟩)]] W
            fun e w' => Below W.heap.size W w' ∧ ∃ A c vs, e = .returned (.tuple #[.slice A (bestAll rows).l.length c, .int .i64 (lowI (bestAll rows).low)]) ∧ TreesAt w' W.heap.size (.slice A (bestAll rows).l.length c) (bestAll rows).l vs) := by
        refine Lib.hid fun W bl hW hbl hM => ?_
        have := callsIn_wide.1 (least_in 0 bl w.heap.size n2 c2 (n2 : Int) A2 rows W (by omega) hbl hM (hr.below hW) hn hcap)
        refine this.mono fun e w' h => ⟨h.1, ?_⟩
        obtain ⟨A, c, vs, h1, h2⟩ := h.2
        rw [← hn] at h1 h2
        exact ⟨A, c, vs, h1, h2.mono (by omega)⟩
      have HAL := Lib.hid (fun (W : World) => allval_calls (n2 : Int) W)
      clear hm he hn hr h7
      go_enter Try.func27, Try.ntmps27
      go_wp2_with fail
      refine (HMC.out _ HB0.out).mono ?_
      rintro e w1 ⟨rfl, hb⟩
      have c0 := cell_below hb hz c0
      have HB1 := Lib.hid (Below.then HB0.out HB0.out.size hb)
      have hz1 := Nat.lt_of_lt_of_le hz hb.size
      clear hb hz
      go_wp2_with fail
      (with_reducible refine (HAL.out _).mono ?_)
      rintro e w2 ⟨rfl, rfl⟩
      have hb2 := below_alloc w1 (.cells #[.int .i64 (n2 : Int)] 3)
      have HC := Lib.hid (HL.out _ w1.heap.size (Below.then HB1.out HB1.out.size hb2) (new_cell w1 _ _ 0) (cell_below hb2 hz1 c0))
      have HB2 := Lib.hid (Below.then HB1.out HB1.out.size hb2)
      clear hb2 HL HAL
      go_wp2_with fail
      (with_reducible refine HC.out.mono ?_)
      rintro e w3 ⟨hb3, A, c, vs, rfl, ht⟩
      have HB3 := Lib.hid (Below.then HB2.out HB2.out.size hb3)
      have HT := Lib.hid (ht.mono HB2.out.size)
      clear hb3 ht HC
      go_wp2_with fail
      go_ret3
      exact HIF.out _ _ ⟨HB3.out, A, c, vs, rfl, HT.out⟩
    · have HIF : Hid (∀ w', Below w.heap.size w w' → RetBestT w rows (.returned (.tuple #[.slice none 0 0, .int .i64 0, .int .i64 220])) w') := by
        refine Lib.hid fun w' h => ⟨h, ?_⟩
        rw [if_pos hm, if_neg (by omega)]
      have h7I : (n2 : Int) > 7 := by omega
      clear hm he hn hr h7
      go_enter Try.func27, Try.ntmps27
      go_wp2_with fail
      refine (HMC.out _ HB0.out).mono ?_
      rintro e w1 ⟨rfl, hb⟩
      have c0 := cell_below hb hz c0
      have HB1 := Lib.hid (Below.then HB0.out HB0.out.size hb)
      clear hb hz
      go_wp2_with fail
      go_ret3
      exact HIF.out _ HB1.out
  · have he : errMat rows = 190 := by unfold errMat; rw [if_neg hm]
    rw [he] at HMC
    have HIF : Hid (∀ w', Below w.heap.size w w' → RetBestT w rows (.returned (.tuple #[.slice none 0 0, .int .i64 0, .int .i64 190])) w') := by
      refine Lib.hid fun w' h => ⟨h, ?_⟩
      rw [if_neg hm]
    clear hm he hn hr
    go_enter Try.func27, Try.ntmps27
    go_wp2_with fail
    refine (HMC.out _ HB0.out).mono ?_
    rintro e w1 ⟨rfl, hb⟩
    have HB1 := Lib.hid (Below.then HB0.out HB0.out.size hb)
    clear hb hz
    go_wp2_with fail
    go_ret3
    exact HIF.out _ HB1.out
end Go.Proofs.Ytbmlkomfelkckaa

namespace Go.Proofs.Ytbmlkomfelkckaa
open Go Go.RowKit
set_option maxRecDepth 100000

def aw22 : List (List Int) := [[0], [0], [1]]

theorem aw22_ok : matOk aw22 = true := by kernel_rfl
theorem aw22_len : (bestAll aw22).l.length = 3 := by kernel_rfl
theorem aw22_low : (bestAll aw22).low = some 1 := by kernel_rfl
theorem aw22_many : matOk (List.replicate 8 []) = true := by kernel_rfl

theorem one_int22 (w : World) (x : Int) : RdInt (w.alloc (.cells #[.int .i64 x] 3)) (some ⟨w.heap.size, 0, none⟩) [x] := by
  intro i y hi
  match i, hi with
  | 0, hi =>
    obtain rfl : x = y := by simpa using hi
    exact ⟨_, rfl, by rw [add_plain]; exact new_cell w _ _ 0⟩

theorem empty_rows (w : World) : RdRows (w.alloc (.cells (Array.replicate 8 (.slice none 0 0)) 43)) (some ⟨w.heap.size, 0, none⟩) (List.replicate 8 []) := by
  intro i r hi
  have hlt := (List.getElem?_eq_some_iff.1 hi).1
  simp only [List.length_replicate] at hlt
  rw [List.getElem?_replicate, if_pos hlt] at hi
  obtain rfl : [] = r := by simpa using hi
  refine ⟨_, none, 0, rfl, ?_, fun j x hj => by simp at hj, by simp, by simp⟩
  rw [add_plain, new_cell]
  simp [hlt]

theorem info_row22 : (Try.prog.info? 43).map (fun i => (i.zero, i.size, i.bytes)) = some (some (.slice none 0 0), 1, 24) := by kernel_rfl

theorem make8 (W : World) : (Instr.makeSlice 34 (.int .i64 8) (.int .i64 8)).run Try.prog W = .ok (.slice (some ⟨W.heap.size, 0, none⟩) 8 8) (W.alloc (.cells (Array.replicate 8 (.slice none 0 0)) 43)) := by
  obtain ⟨i0, hi, hz0, hz1, hz2⟩ := info_parts info_row22
  have h := run_makeSlice (P := Try.prog) W 34 43 i0 (.slice none 0 0) Try.underlying34 hi hz0 .i64 .i64 8 8 (by omega) (by omega) (by rw [hz1]; decide) (by rw [hz2]; decide) (by omega)
  have e : madeCells (Value.slice none 0 0).cells (Int.toNat 8 * 1) = Array.replicate 8 (.slice none 0 0) := by kernel_rfl
  rw [h, hz1, e]
  rfl

set_option maxHeartbeats 1000000 in
theorem awake22 (w : World) : Calls Try.prog 25 #[] w fun e w' => e = .returned (.bool true) ∧ Below w.heap.size w w' := by
  have b1 := below_alloc w (.cells #[.int .i64 0] 3)
  have b2 := below_alloc (w.alloc (.cells #[.int .i64 0] 3)) (.cells #[.int .i64 0] 3)
  have b3 := below_alloc ((w.alloc (.cells #[.int .i64 0] 3)).alloc (.cells #[.int .i64 0] 3)) (.cells #[.int .i64 1] 3)
  have b4 := below_alloc (((w.alloc (.cells #[.int .i64 0] 3)).alloc (.cells #[.int .i64 0] 3)).alloc (.cells #[.int .i64 1] 3)) (.cells #[.slice (some ⟨w.heap.size, 0, none⟩) 1 1, .slice (some ⟨w.heap.size + 1, 0, none⟩) 1 1, .slice (some ⟨w.heap.size + 1 + 1, 0, none⟩) 1 1] 43)
  have r0 := (((one_int22 w 0).below b2).below b3).below b4
  have r1 := ((one_int22 (w.alloc (.cells #[.int .i64 0] 3)) 0).below b3).below b4
  have r2 := (one_int22 ((w.alloc (.cells #[.int .i64 0] 3)).alloc (.cells #[.int .i64 0] 3)) 1).below b4
  have q := new_cell (((w.alloc (.cells #[.int .i64 0] 3)).alloc (.cells #[.int .i64 0] 3)).alloc (.cells #[.int .i64 1] 3)) #[.slice (some ⟨w.heap.size, 0, none⟩) 1 1, .slice (some ⟨w.heap.size + 1, 0, none⟩) 1 1, .slice (some ⟨w.heap.size + 1 + 1, 0, none⟩) 1 1] 43
  simp only [World.size_alloc] at r1 r2 q
  have HR0 : RdRows ((((w.alloc (.cells #[.int .i64 0] 3)).alloc (.cells #[.int .i64 0] 3)).alloc (.cells #[.int .i64 1] 3)).alloc (.cells #[.slice (some ⟨w.heap.size, 0, none⟩) 1 1, .slice (some ⟨w.heap.size + 1, 0, none⟩) 1 1, .slice (some ⟨w.heap.size + 1 + 1, 0, none⟩) 1 1] 43)) (some ⟨w.heap.size + 1 + 1 + 1, 0, none⟩) aw22 := by
    intro i r hi
    match i, hi with
    | 0, hi =>
      obtain rfl : [0] = r := by simpa [aw22] using hi
      exact ⟨_, _, 1, rfl, by rw [add_plain]; exact q 0, r0, by simp, by omega⟩
    | 1, hi =>
      obtain rfl : [0] = r := by simpa [aw22] using hi
      exact ⟨_, _, 1, rfl, by rw [add_plain]; exact q 1, r1, by simp, by omega⟩
    | 2, hi =>
      obtain rfl : [1] = r := by simpa [aw22] using hi
      exact ⟨_, _, 1, rfl, by rw [add_plain]; exact q 2, r2, by simp, by omega⟩
  have HR := Lib.hid HR0
  have HB := Lib.hid (Below.then (Below.then (Below.then b1 b1.size b2) (by simp; omega) b3) (by simp; omega) b4)
  clear b1 b2 b3 b4 r0 r1 r2 q HR0
  go_enter Try.func25, Try.ntmps25
  go_wp2_with fail
  generalize (((w.alloc (.cells #[.int .i64 0] 3)).alloc (.cells #[.int .i64 0] 3)).alloc (.cells #[.int .i64 1] 3)).alloc (.cells #[.slice (some ⟨w.heap.size, 0, none⟩) 1 1, .slice (some ⟨w.heap.size + 1, 0, none⟩) 1 1, .slice (some ⟨w.heap.size + 1 + 1, 0, none⟩) 1 1] 43) = W at *
  have HC : Hid (Calls Try.prog 27 #[.agg #[.slice (some ⟨w.heap.size + 1 + 1 + 1, 0, none⟩) 3 3]] W fun e w' => Below W.heap.size W w' ∧ ∃ A c, e = .returned (.tuple #[.slice A 3 c, .int .i64 1, .int .i64 0])) := by
    refine (tbest_calls (some ⟨w.heap.size + 1 + 1 + 1, 0, none⟩) 3 3 aw22 W HR.out rfl (by omega)).mono fun e w' h => ?_
    unfold RetBestT at h
    rw [if_pos aw22_ok, if_pos (by decide), aw22_len, aw22_low] at h
    obtain ⟨h1, A, c, vs, h2, -⟩ := h
    exact ⟨h1, A, c, h2⟩
  (with_reducible refine HC.out.mono ?_)
  rintro e w1 ⟨hb1, A, c, rfl⟩
  have HB1 := Lib.hid (Below.then HB.out HB.out.size hb1)
  have hmk := make8
  clear hb1 HC
  go_wp2_with fail
  have hb2 := below_alloc w1 (.cells (Array.replicate 8 (.slice none 0 0)) 43)
  have HB2 := Lib.hid (Below.then HB1.out HB1.out.size hb2)
  have HC : Hid (Calls Try.prog 27 #[.agg #[.slice (some ⟨w1.heap.size, 0, none⟩) 8 8]] (w1.alloc (.cells (Array.replicate 8 (.slice none 0 0)) 43)) fun e w' => Below (w1.alloc (.cells (Array.replicate 8 (.slice none 0 0)) 43)).heap.size (w1.alloc (.cells (Array.replicate 8 (.slice none 0 0)) 43)) w' ∧ e = .returned (.tuple #[.slice none 0 0, .int .i64 0, .int .i64 220])) := by
    refine (tbest_calls (some ⟨w1.heap.size, 0, none⟩) 8 8 (List.replicate 8 []) _ (empty_rows w1) (by simp) (by omega)).mono fun e w' h => ?_
    unfold RetBestT at h
    rw [if_pos aw22_many, if_neg (by decide)] at h
    exact h
  clear hb2
  (with_reducible refine HC.out.mono ?_)
  rintro e w3 ⟨hb3, rfl⟩
  have HB3 := Lib.hid (Below.then HB2.out HB2.out.size hb3)
  clear hb3 HC
  go_wp2_with fail
  go_ret
  exact ⟨rfl, HB3.out⟩
end Go.Proofs.Ytbmlkomfelkckaa
