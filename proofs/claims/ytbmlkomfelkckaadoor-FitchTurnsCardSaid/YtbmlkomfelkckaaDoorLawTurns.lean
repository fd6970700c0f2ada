/- The law FitchTurns answers true. -/
import Derived.Test.YtbmlkomfelkckaaDoorTurnP
import Derived.Test.YtbmlkomfelkckaaDoorFit2
import Derived.Test.YtbmlkomfelkckaaDoorRMat
import Derived.Test.YtbmlkomfelkckaaDoorLeaf
import Derived.Test.YtbmlkomfelkckaaDoorChk
import Derived.Test.YtbmlkomfelkckaaDoorAwk21
import Derived.Deep.RegionHeld3
namespace Go.Proofs.YtbmlkomfelkckaaDoor
open Go Go.RowKit
set_option maxRecDepth 100000

theorem moved_calls (x gone : Int) (W : World) (h0 : 0 ≤ gone) (h1 : x ≤ 1000000000) : Calls Tryd.prog 23 #[.int .i64 x, .int .i64 gone] W fun e w' => e = .returned (.int .i64 (mv x gone)) ∧ w' = W := by
  by_cases h : gone < x
  · rw [show mv x gone = x - 1 by unfold mv; rw [if_pos h]]
    go_enter Tryd.func23, Tryd.ntmps23
    go_wp2_with fail
    go_ret
    exact ⟨rfl, rfl⟩
  · rw [show mv x gone = x by unfold mv; rw [if_neg h]]
    go_enter Tryd.func23, Tryd.ntmps23
    go_wp2_with fail
    go_ret
    exact ⟨rfl, rfl⟩

theorem form_last (T : NT) (base : Nat) : (T.form base)[T.size - 1]? = some (match T with | .leaf k => ⟨k, 0, 0⟩ | .fork a b => ⟨0, ((base + a.size : Nat) : Int) - 1, ((base + a.size + b.size : Nat) : Int) - 1⟩) := by
  cases T with
  | leaf k => rfl
  | fork a b =>
    simp only [NT.form, NT.size]
    rw [List.getElem?_append_right (by simp [NT.form_length])]
    simp [NT.form_length]

theorem form_left (a b : NT) (i : Nat) (h : i < a.size) : ((NT.fork a b).form 0)[i]? = (a.form 0)[i]? := by
  simp only [NT.form]
  rw [List.append_assoc, List.getElem?_append_left (by rw [NT.form_length]; exact h)]

/-- What the law's first half finds: the form, its changes. -/
structure Formed (bs : List Br) (rows : List (List Int)) (T : NT) : Prop where
  root : rdRoot (rows.length : Int) bs = some T
  form : rdRoot (rows.length : Int) (T.form 0) = some T
  err : errBoth (T.form 0) rows = 0
  num : sumNum (T.form 0) rows = sumNum bs rows

theorem fsum_same {rows : List (List Int)} {bs cs : List Br} (h : ∀ k, (fall rows k bs).n = (fall rows k cs).n) : ∀ k, fsum rows bs k = fsum rows cs k
  | 0 => rfl
  | k + 1 => by
    simp only [fsum]
    rw [fsum_same h k, h k]

theorem errBoth_of {rows : List (List Int)} {cs : List Br} {U : NT} (hm : matOk rows = true) (h : rdRoot (rows.length : Int) cs = some U) : errBoth cs rows = 0 := by
  unfold errBoth okTree
  rw [if_pos hm, if_pos ?_]
  obtain ⟨l, hl, _⟩ := Option.map_eq_some_iff.1 h
  rw [hl]
  rfl

theorem formed_of {bs : List Br} {rows : List (List Int)} (h : errBoth bs rows = 0) : ∃ T, Formed bs rows T := by
  obtain ⟨hm, ht⟩ := errBoth_zero h
  obtain ⟨l, hl⟩ := Option.isSome_iff_exists.1 ht
  have hT : rdRoot (rows.length : Int) bs = some (l.getD (l.length - 1) (.leaf 0)) := by unfold rdRoot; rw [hl]; rfl
  have hF := rdRoot_form_root hT
  have he := errBoth_of hm hF
  refine ⟨_, hT, hF, he, ?_⟩
  unfold sumNum
  rw [if_pos he, if_pos h]
  exact (fsum_same (fun k => by rw [fall_root hT, fall_root hF]) _).symm

/-- The other tree has the same changes. -/
theorem turned_of {bs : List Br} {rows : List (List Int)} {p q z : NT} (h : errBoth bs rows = 0) (hf : Formed bs rows (.fork (.fork p q) z)) :
    errBoth ((NT.fork p (.fork q z)).form 0) rows = 0 ∧ sumNum ((NT.fork p (.fork q z)).form 0) rows = sumNum bs rows := by
  obtain ⟨hm, _⟩ := errBoth_zero h
  obtain ⟨h1, h2, h3⟩ := rdRoot_leaves hf.root
  obtain ⟨_, h4, h5, _⟩ := rdRoot_size hf.root
  have e : (NT.fork p (.fork q z)).leaves = (NT.fork (.fork p q) z).leaves := by simp [NT.leaves]
  have hU := rdRoot_form (T := NT.fork p (.fork q z)) (leaves := (rows.length : Int)) (by rw [e]; exact h1) (by rw [e]; exact h2) h4 h5 (by rw [e]; exact h3)
  have he := errBoth_of hm hU
  refine ⟨he, ?_⟩
  unfold sumNum
  rw [if_pos he, if_pos h]
  refine fsum_same (fun k => ?_) _
  rw [fall_root hU, fall_root hf.root, (fset_norm _ _).2, fnum_turn]

theorem own_set {w : World} {base : Nat} {e : TypeId} {size n : Nat} {v : Value} {xs : List Value} (h : w.ownsRow base e size v n xs) {b : Nat} (hb : v.ownBlock ≠ some b) (j : Nat) (u : Value) : (w.setCell ⟨b, j, none⟩ u).ownsRow base e size v n xs :=
  h.kept (row := some b) ⟨rfl, rfl, rfl, by simp [World.setCell], fun i _ hne => Below.heap_setCell _ _ _ _ (fun q => hne (by rw [q]))⟩ (.inr hb)

theorem info_br2 : (Tryd.prog.info? 50).map (fun i => (i.zero, i.size, i.bytes)) = some (some (.agg #[.int .i64 0, .int .i64 0, .int .i64 0]), 3, 24) := by kernel_rfl

/-- What holds while the list is made. -/
structure LInv (w8 wr : World) (v : Value) (m : Nat) (l : List Br) : Prop where
  below : Below w8.heap.size w8 wr
  row : wr.ownsRow w8.heap.size 50 3 v m (brs l)
  few : m ≤ 100

theorem LInv.next {w8 wr W : World} {v : Value} {m : Nat} {l : List Br} (h : LInv w8 wr v m l) (hb : Below wr.heap.size wr W) : LInv w8 W v m l :=
  ⟨Below.then h.below h.below.size hb, own_below h.row hb, h.few⟩

theorem LInv.set {w8 wr : World} {v : Value} {m : Nat} {l : List Br} (h : LInv w8 wr v m l) {b : Nat} (h1 : w8.heap.size ≤ b) (hb : v.ownBlock ≠ some b) (j : Nat) (u : Value) : LInv w8 (wr.setCell ⟨b, j, none⟩ u) v m l :=
  ⟨below_set h.below h1 _ _, own_set h.row hb _ _, h.few⟩

theorem LInv.push {w8 wr w1 : World} {v v1 : Value} {m : Nat} {l : List Br} {x : Br} (h : LInv w8 wr v m l) (hm : m + 1 ≤ 100) (ho : w1.ownsRow w8.heap.size 50 3 v1 (m + 1) (brs l ++ [.int .i64 x.leaf, .int .i64 x.a, .int .i64 x.b])) (hu : Upd wr w1 v v1) :
    LInv w8 w1 v1 (m + 1) (l ++ [x]) :=
  ⟨Below.trans h.below (hu.below h.below.size (fun k hk => (h.row.lt k hk).1)), by rw [brs_snoc]; exact ho, hm⟩

set_option maxHeartbeats 8000000 in
theorem lawTurns_calls (A : Option Addr) (n c : Nat) (bs : List Br) (A2 : Option Addr) (n2 c2 : Nat) (rows : List (List Int)) (w : World) (h : TM w A n bs A2 n2 rows) (ht : Tz w) :
    Calls Tryd.prog 8 #[.agg #[.slice A n c], .agg #[.slice A2 n2 c2]] w fun e w' => e = .returned (.bool true) ∧ Below w.heap.size w w' := by
  have H := Lib.hid h
  have HA := Lib.hid (fun (W : World) (hb : Below w.heap.size w W) => awake21 W (ht.below hb))
  have HS := Lib.hid (fun (W : World) (hb : Below w.heap.size w W) => sum_calls A n c bs A2 n2 c2 rows W (h.below hb))
  clear ht
  by_cases he : errBoth bs rows = 0
  · obtain ⟨hm, htr⟩ := errBoth_zero he
    have hrl := h.rlen
    have hcap := h.cap
    have hcap2 := h.rcap
    have HC := Lib.hid (fun (W : World) (hb : Below w.heap.size w W) => rmcheck_calls A2 n2 c2 rows W (h.below hb).mat hrl hcap2)
    rw [show errMat rows = 0 by unfold errMat; rw [if_pos hm]] at HC
    have HF := Lib.hid (fun (W : World) (hb : Below w.heap.size w W) => form_calls A n c bs (n2 : Int) W (h.below hb).tree h.len hcap (by omega) (by omega))
    obtain ⟨T, hT⟩ := formed_of he
    have hsz := rdRoot_size hT.root
    have hlv := rdRoot_leaves hT.root
    rw [← hrl, hT.root] at HF
    rw [hrl] at HF
    have HFS := Lib.hid (fun (W : World) (hb : Below w.heap.size w W) (A' : Option Addr) (c' : Nat) (hr : RdBr W A' (T.form 0)) => sum_calls A' T.size c' (T.form 0) A2 n2 c2 rows W ⟨hr, NT.form_length T 0, by omega, (h.below hb).mat, hrl, hcap2⟩)
    rw [hT.err, hT.num] at HFS
    obtain ⟨mn, hmn⟩ : ∃ mn, sumNum bs rows = mn := ⟨_, rfl⟩
    rw [he, hmn] at HS
    rw [hmn] at HFS
    have g1 : ((mn : Int) != (mn : Int)) = false := by simp
    have g2 : ((mn : Int) == (mn : Int)) = true := by simp
    have HT := Lib.hid hT
    have HE := Lib.hid he
    have HRL := Lib.hid hrl
    have HMN := Lib.hid hmn
    have HLEN := Lib.hid (hsz.1.trans h.len)
    have ht1 : 1 ≤ T.size ∧ T.size ≤ 23 := by omega
    obtain ⟨ht0, ht23⟩ := ht1
    have HSZ : Hid ((T.size : Int) = 2 * (n2 : Int) - 1) := by show (T.size : Int) = 2 * (n2 : Int) - 1; omega
    clear h he hm htr hrl hsz hlv hT hmn
    go_enter Tryd.func8, Tryd.ntmps8
    go_wp2_with fail
    refine (HA.out _ (two_below _ _ _ _ _)).mono ?_
    rintro e w1 ⟨rfl, hb1⟩
    obtain ⟨HB, hz, c0, c1⟩ := two_boxes hb1
    clear hb1
    go_wp2_with fail
    refine (HS.out _ HB.out).mono ?_
    rintro e w2 ⟨rfl, hb2⟩
    have c0 := cell_below hb2 (by omega) c0
    have c1 := cell_below hb2 hz c1
    have hz := Nat.lt_of_lt_of_le hz hb2.size
    have HB2 := Lib.hid (Below.then HB.out HB.out.size hb2)
    clear hb2
    go_wp2_with fail
    refine (HC.out _ HB2.out).mono ?_
    rintro e w3 ⟨rfl, hb3⟩
    have c0 := cell_below hb3 (by omega) c0
    have c1 := cell_below hb3 hz c1
    have hz := Nat.lt_of_lt_of_le hz hb3.size
    have HB3 := Lib.hid (Below.then HB2.out HB2.out.size hb3)
    clear hb3
    go_wp2_with fail
    refine (HF.out _ HB3.out).mono ?_
    rintro e w4 ⟨hb4, AF, cF, rfl, hof⟩
    have c1 := cell_below hb4 hz c1
    have hz := Nat.lt_of_lt_of_le hz hb4.size
    have HB4 := Lib.hid (Below.then HB3.out HB3.out.size hb4)
    have HRF := Lib.hid (own_rd hof).1
    clear hb4 c0 hof
    go_wp2_with fail
    have hb5 := below_alloc w4 (.cells #[.slice AF T.size cF] 24)
    have c1 := cell_below hb5 hz c1
    have e0 := new_cell w4 #[.slice AF T.size cF] 24 0
    have hz5 : w4.heap.size < (w4.alloc (.cells #[.slice AF T.size cF] 24)).heap.size := by simp
    have HB5 := Lib.hid (Below.then HB4.out HB4.out.size hb5)
    have HRF5 := Lib.hid (HRF.out.below hb5)
    generalize w4.alloc (.cells #[.slice AF T.size cF] 24) = W5 at *
    have hz := Nat.lt_of_lt_of_le hz hb5.size
    clear hb5
    refine (HFS.out _ HB5.out AF cF HRF5.out).mono ?_
    rintro e w6 ⟨rfl, hb6⟩
    have c1 := cell_below hb6 hz c1
    have e0 := cell_below hb6 hz5 e0
    have hz := Nat.lt_of_lt_of_le hz hb6.size
    have hz5 := Nat.lt_of_lt_of_le hz5 hb6.size
    have HB6 := Lib.hid (Below.then HB5.out HB5.out.size hb6)
    have HRF6 := Lib.hid (HRF5.out.below hb6)
    clear hb6
    obtain ⟨xr, hxr⟩ : ∃ xr, (T.form 0)[T.size - 1]? = some xr := ⟨_, form_last T 0⟩
    obtain ⟨ad, rfl, d0, d1, d2⟩ := HRF6.out (T.size - 1) xr hxr
    have HXR := Lib.hid hxr
    have j0 : (0 : Int) ≤ (T.size : Int) - 1 := by omega
    have j1 : ((T.size : Int) - 1).toNat = T.size - 1 := by omega
    have j2 : (T.size : Int) - 1 < T.size := by omega
    clear hxr
    by_cases hn3 : n2 < 3
    · have hn3' : (n2 : Int) < 3 := by omega
      go_wp2_with fail
      go_ret
      exact ⟨rfl, Below.then HB6.out HB6.out.size (below_alloc _ _)⟩
    have hn3' : ¬ (n2 : Int) < 3 := by omega
    obtain ⟨a, b, rfl⟩ : ∃ a b, T = .fork a b := by
      cases T with
      | leaf k => have := HSZ.out; simp only [NT.size] at this; omega
      | fork a b => exact ⟨a, b, rfl⟩
    have hxe := HXR.out
    rw [form_last] at hxe
    obtain ⟨HX0, HXA, HXB⟩ : Hid (xr.leaf = 0) ∧ Hid (xr.a = (a.size : Int) - 1) ∧ Hid (xr.b = ((a.size + b.size : Nat) : Int) - 1) := by
      obtain rfl := Option.some.inj hxe
      exact ⟨rfl, by show ((0 + a.size : Nat) : Int) - 1 = _; rw [Nat.zero_add], by show ((0 + a.size + b.size : Nat) : Int) - 1 = _; rw [Nat.zero_add]⟩
    have HN : Hid ((NT.fork a b).size = a.size + b.size + 1) := rfl
    have k0 : 0 ≤ xr.a := by have := HXA.out; have := a.size_pos; omega
    have k1 : xr.a < ((NT.fork a b).size : Int) := by have := HXA.out; have := HN.out; omega
    obtain ⟨xx, hxx⟩ : ∃ xx, ((NT.fork a b).form 0)[xr.a.toNat]? = some xx := ⟨_, List.getElem?_eq_getElem (by rw [NT.form_length]; omega)⟩
    obtain ⟨ad', hadd, f0, f1, f2⟩ := HRF6.out xr.a.toNat xx hxx
    obtain rfl := Option.some.inj hadd
    have HXX : Hid ((a.form 0)[a.size - 1]? = some xx) := by
      have h1 := hxx
      rw [show xr.a.toNat = a.size - 1 by have := HXA.out; omega, form_left _ _ _ (by have := a.size_pos; omega)] at h1
      exact h1
    have hbr := below_alloc w6 (.cells #[.int .i64 xr.leaf, .int .i64 xr.a, .int .i64 xr.b] 50)
    have hltf := World.block_lt_of_cell? w6 _ f0
    have f0' := (hbr.cell hltf).trans f0
    have f1' := (hbr.cell (p := ⟨(ad.add (xr.a.toNat * 3)).block, _, none⟩) hltf).trans f1
    have f2' := (hbr.cell (p := ⟨(ad.add (xr.a.toNat * 3)).block, _, none⟩) hltf).trans f2
    clear hxe hadd f0 f1 f2 hltf hxx
    go_wp2_with fail
    have hbx := below_alloc (w6.alloc (.cells #[.int .i64 xr.leaf, .int .i64 xr.a, .int .i64 xr.b] 50)) (.cells #[.int .i64 xx.leaf, .int .i64 xx.a, .int .i64 xx.b] 50)
    have r1 := cell_below hbx (by simp) (new_cell w6 #[.int .i64 xr.leaf, .int .i64 xr.a, .int .i64 xr.b] 50 1)
    have r2 := cell_below hbx (by simp) (new_cell w6 #[.int .i64 xr.leaf, .int .i64 xr.a, .int .i64 xr.b] 50 2)
    have x1 := new_cell (w6.alloc (.cells #[.int .i64 xr.leaf, .int .i64 xr.a, .int .i64 xr.b] 50)) #[.int .i64 xx.leaf, .int .i64 xx.a, .int .i64 xx.b] 50 1
    have x2 := new_cell (w6.alloc (.cells #[.int .i64 xr.leaf, .int .i64 xr.a, .int .i64 xr.b] 50)) #[.int .i64 xx.leaf, .int .i64 xx.a, .int .i64 xx.b] 50 2
    have hb7 := Below.then hbr hbr.size hbx
    have hz7 : w6.heap.size + 1 < ((w6.alloc (.cells #[.int .i64 xr.leaf, .int .i64 xr.a, .int .i64 xr.b] 50)).alloc (.cells #[.int .i64 xx.leaf, .int .i64 xx.a, .int .i64 xx.b] 50)).heap.size := by simp
    have c1 := cell_below hb7 hz c1
    have e0 := cell_below hb7 hz5 e0
    have HRF7 := Lib.hid (HRF6.out.below hb7)
    have HB7 := Lib.hid (Below.then HB6.out HB6.out.size hb7)
    simp only [World.size_alloc] at x1 x2
    generalize (w6.alloc (.cells #[.int .i64 xr.leaf, .int .i64 xr.a, .int .i64 xr.b] 50)).alloc (.cells #[.int .i64 xx.leaf, .int .i64 xx.a, .int .i64 xx.b] 50) = W7 at *
    clear hbr hbx hb7 f0' f1' f2' d0 d1 d2
    refine (leaf_calls xx W7).mono ?_
    rintro e w8 ⟨hle, hb8⟩
    have c1 := cell_below hb8 (by omega) c1
    have e0 := cell_below hb8 (by omega) e0
    have r1 := cell_below hb8 (by omega) r1
    have r2 := cell_below hb8 (by omega) r2
    have x1 := cell_below hb8 hz7 x1
    have x2 := cell_below hb8 hz7 x2
    have hz8 := Nat.lt_of_lt_of_le hz7 hb8.size
    have HRF8 := Lib.hid (HRF7.out.below hb8)
    have HB8 := Lib.hid (Below.then HB7.out HB7.out.size hb8)
    clear hb8
    by_cases hleaf : xx.a = 0 ∧ xx.b = 0
    · have t1 : (xx.a == 0 && xx.b == 0) = true := by rw [hleaf.1, hleaf.2]; rfl
      rw [t1] at hle
      subst hle
      clear hleaf t1
      go_wp2_with fail
      go_ret
      exact ⟨rfl, HB8.out⟩
    have t1 : (xx.a == 0 && xx.b == 0) = false := by
      rw [Bool.and_eq_false_iff, beq_eq_false_iff_ne, beq_eq_false_iff_ne]
      omega
    rw [t1] at hle
    subst hle
    have hxe := HXX.out
    rw [form_last] at hxe
    obtain ⟨p, q, rfl⟩ : ∃ p q, a = .fork p q := by
      cases a with
      | leaf k => exact absurd (by obtain rfl := Option.some.inj hxe; exact ⟨rfl, rfl⟩) hleaf
      | fork p q => exact ⟨p, q, rfl⟩
    obtain ⟨HYA, HYB⟩ : Hid (xx.a = (p.size : Int) - 1) ∧ Hid (xx.b = ((p.size + q.size : Nat) : Int) - 1) := by
      obtain rfl := Option.some.inj hxe
      exact ⟨by show ((0 + p.size : Nat) : Int) - 1 = _; rw [Nat.zero_add], by show ((0 + p.size + q.size : Nat) : Int) - 1 = _; rw [Nat.zero_add]⟩
    clear hxe hleaf t1
    have HOKF := Lib.hid (brOk_of (leaves := (rows.length : Int)) (bs := (NT.fork (.fork p q) b).form 0) (by
      obtain ⟨l, hl, _⟩ := Option.map_eq_some_iff.1 HT.out.form
      rw [hl]
      rfl))
    have HFL : Hid (((NT.fork (.fork p q) b).form 0).length = (NT.fork (.fork p q) b).size) := NT.form_length _ _
    have HTU := Lib.hid (turned_of HE.out HT.out)
    have HLI := Lib.hid (turn_list p q b)
    obtain ⟨F, hF⟩ : ∃ F, (NT.fork (.fork p q) b).form 0 = F := ⟨_, rfl⟩
    obtain ⟨N, hN⟩ : ∃ N, (NT.fork (.fork p q) b).size = N := ⟨_, rfl⟩
    rw [hF] at HOKF HFL HLI HRF8
    rw [hN] at HFL ht23 ht0 HN e0
    rw [hN]
    have hcapN : N ≤ 9223372036854775807 := by omega
    clear hF hN HRF HRF5 HRF6 HRF7 HXR HXX HT HFS HF HC HA HSZ HLEN k1
    have k1 : xr.a < (N : Int) := by have h1 := HXA.out; have h2 := HN.out; omega
    go_wp2_with fail
    go_loopg [14, 81] N (fun gk v14 v81 wr => ∃ (k m : Nat), v81 = .int .i64 k ∧ k ≤ N ∧ Hid (gk + k = N) ∧ m ≤ k ∧ LInv w8 wr v14 m (turnFrom xr.a ((N : Int) - 1) 0 (F.take k)))
    case atStart => exact ⟨0, 0, rfl, Nat.zero_le _, rfl, Nat.le_refl _, Below.refl _ _, World.ownsRow_nil _ _ _ _, by omega⟩
    case round =>
      obtain ⟨k, m, rfl, hk, HG, hm, HI⟩ := hrel
      obtain ⟨AV, cv, rfl, hcv⟩ := own_slice HI.row
      have hsz8 := HI.below.size
      by_cases hkN : k < N
      · have hkx : k < F.length := by have := HFL.out; omega
        obtain ⟨ad', hadd, d0, d1, d2⟩ := HRF8.out k F[k] (by simp [hkx])
        obtain rfl := Option.some.inj hadd
        generalize hx : F[k] = x at *
        have HXK : Hid (F[k]? = some x) := by show F[k]? = some x; rw [List.getElem?_eq_getElem hkx, hx]
        have HNX := Lib.hid (turnFrom_next xr.a ((N : Int) - 1) HXK.out)
        have hlt8 := World.block_lt_of_cell? w8 _ d0
        have d0 := (HI.below.cell hlt8).trans d0
        have d1 := (HI.below.cell (p := ⟨(ad.add (k * 3)).block, _, none⟩) hlt8).trans d1
        have d2 := (HI.below.cell (p := ⟨(ad.add (k * 3)).block, _, none⟩) hlt8).trans d2
        have r1 := cell_below HI.below (by omega) r1
        have e0 := cell_below HI.below (by omega) e0
        have hba := below_alloc wr (.cells #[.int .i64 x.leaf, .int .i64 x.a, .int .i64 x.b] 50)
        have hzw : w6.heap.size + 1 < wr.heap.size := by omega
        have r1' := cell_below hba (by omega) r1
        have e0' := cell_below hba (by omega) e0
        clear hadd hx
        by_cases hin : (k : Int) ≠ xr.a ∧ (k : Int) ≠ (N : Int) - 1
        · have t1 : ((k : Int) != xr.a) = true := by rw [bne_iff_ne]; exact hin.1
          have t2 : ((k : Int) != (N : Int) - 1) = true := by rw [bne_iff_ne]; exact hin.2
          have HNX2 : Hid (turnFrom xr.a ((N : Int) - 1) 0 (F.take (k + 1)) = turnFrom xr.a ((N : Int) - 1) 0 (F.take k) ++ [turnBr xr.a k x]) := by
            show turnFrom xr.a ((N : Int) - 1) 0 (F.take (k + 1)) = _
            rw [HNX.out, if_pos hin]
          have hown : ∀ j, (Value.slice AV m cv).ownBlock = some j → j < wr.heap.size := fun j hj => (HI.row.lt j hj).2
          have HOWN : Hid ((Value.slice AV m cv).ownBlock ≠ some wr.heap.size) := fun q => by have := hown _ q; omega
          by_cases hgt : xr.a < (k : Int)
          · have q0 := new_cell wr #[.int .i64 x.leaf, .int .i64 x.a, .int .i64 x.b] 50 0
            have q1 := new_cell wr #[.int .i64 x.leaf, .int .i64 x.a, .int .i64 x.b] 50 1
            have q2 := new_cell wr #[.int .i64 x.leaf, .int .i64 x.a, .int .i64 x.b] 50 2
            have z0 := new_frozen wr #[.int .i64 x.leaf, .int .i64 x.a, .int .i64 x.b] 50 1
            have z1 := new_frozen wr #[.int .i64 x.leaf, .int .i64 x.a, .int .i64 x.b] 50 2
            have hlt2 : wr.heap.size < (wr.alloc (.cells #[.int .i64 x.leaf, .int .i64 x.a, .int .i64 x.b] 50)).heap.size := by simp
            have HI2 := Lib.hid (HI.next hba)
            clear hin hown hba
            go_wp2_with fail
            generalize wr.alloc (.cells #[.int .i64 x.leaf, .int .i64 x.a, .int .i64 x.b] 50) = W9 at *
            refine (leaf_calls x W9).mono ?_
            rintro e w5 ⟨hle, hb5⟩
            have q0 := cell_below hb5 hlt2 q0
            have q1 := cell_below hb5 hlt2 q1
            have q2 := cell_below hb5 hlt2 q2
            have z0 := frozen_below hb5 hlt2 z0
            have z1 := frozen_below hb5 hlt2 z1
            have r1' := cell_below hb5 (by omega) r1'
            have HI5 := Lib.hid (HI2.out.next hb5)
            have hsz5 := HI5.out.below.size
            clear hb5
            by_cases hleaf : x.a = 0 ∧ x.b = 0
            · have t3 : (x.a == 0 && x.b == 0) = true := by rw [hleaf.1, hleaf.2]; rfl
              rw [t3] at hle
              subst hle
              have HB' : Hid (turnBr xr.a k x = x) := by show turnBr xr.a k x = x; unfold turnBr; rw [if_neg (fun q => q.2 hleaf)]
              clear hleaf t3
              go_wp2_with (at_builtin; refine walk_append1 HI5.out.row hsz5 (by omega) 22 Tryd.underlying22 info_br2 ⟨rfl, by decide, by decide⟩ _ (one3 _ _ _) (by exact ⟨rfl, rfl, rfl, rfl, rfl⟩) ?_; intro v1 w1 ho1 hu1)
              have HP := Lib.hid (HI5.out.push (x := x) (by omega) ho1 hu1)
              clear ho1 hu1
              go_roundg (gk - 1)
              case measure => have := HG.out; omega
              case rel => exact ⟨k + 1, m + 1, by go_num, by omega, by have := HG.out; show gk - 1 + (k + 1) = N; omega, by omega, by rw [HNX2.out, HB'.out]; exact HP.out⟩
            · have t3 : (x.a == 0 && x.b == 0) = false := by
                rw [Bool.and_eq_false_iff, beq_eq_false_iff_ne, beq_eq_false_iff_ne]
                omega
              rw [t3] at hle
              subst hle
              have HB' : Hid (turnBr xr.a k x = ⟨x.leaf, mv x.a xr.a, mv x.b xr.a⟩) := by show turnBr xr.a k x = _; unfold turnBr; rw [if_pos ⟨hgt, hleaf⟩]
              obtain ⟨p0, p1, p2, p3⟩ : 0 ≤ x.a ∧ x.a < k ∧ 0 ≤ x.b ∧ x.b < k := by
                rcases HOKF.out k x HXK.out with h | h
                · exact absurd ⟨h.1, h.2.1⟩ hleaf
                · exact h.2.2
              have hma := Lib.hid (fun W => moved_calls x.a xr.a W k0 (by omega))
              have hmb := Lib.hid (fun W => moved_calls x.b xr.a W k0 (by omega))
              obtain ⟨ma, hmae⟩ : ∃ ma, mv x.a xr.a = ma := ⟨_, rfl⟩
              obtain ⟨mb, hmbe⟩ : ∃ mb, mv x.b xr.a = mb := ⟨_, rfl⟩
              rw [hmae] at hma HB'
              rw [hmbe] at hmb HB'
              have HI6 := Lib.hid ((HI5.out.set hsz8 HOWN.out 1 (.int .i64 ma)).set hsz8 HOWN.out 2 (.int .i64 mb))
              clear hleaf t3 hmae hmbe
              go_wp2_with fail
              refine (hma.out _).mono ?_
              rintro e w' ⟨rfl, rfl⟩
              go_wp2_with fail
              refine (hmb.out _).mono ?_
              rintro e w' ⟨rfl, rfl⟩
              have hsz6 := HI6.out.below.size
              go_wp2_with (at_builtin; refine walk_append1 HI6.out.row hsz6 (by omega) 22 Tryd.underlying22 info_br2 ⟨rfl, by decide, by decide⟩ _ (one3 _ _ _) (by exact ⟨rfl, rfl, rfl, rfl, by simp [World.setCell]⟩) ?_; intro v1 w1 ho1 hu1)
              have HP := Lib.hid (HI6.out.push (x := ⟨x.leaf, ma, mb⟩) (by omega) ho1 hu1)
              clear ho1 hu1
              go_roundg (gk - 1)
              case measure => have := HG.out; omega
              case rel => exact ⟨k + 1, m + 1, by go_num, by omega, by have := HG.out; show gk - 1 + (k + 1) = N; omega, by omega, by rw [HNX2.out, HB'.out]; exact HP.out⟩
          · have HB' : Hid (turnBr xr.a k x = x) := by show turnBr xr.a k x = x; unfold turnBr; rw [if_neg (fun q => hgt q.1)]
            have q0 := new_cell wr #[.int .i64 x.leaf, .int .i64 x.a, .int .i64 x.b] 50 0
            have q1 := new_cell wr #[.int .i64 x.leaf, .int .i64 x.a, .int .i64 x.b] 50 1
            have q2 := new_cell wr #[.int .i64 x.leaf, .int .i64 x.a, .int .i64 x.b] 50 2
            have HI2 := Lib.hid (HI.next hba)
            have hsz2 : w8.heap.size ≤ (wr.alloc (.cells #[.int .i64 x.leaf, .int .i64 x.a, .int .i64 x.b] 50)).heap.size := by simp; omega
            clear hin hown hba
            go_wp2_with (at_builtin; refine walk_append1 HI2.out.row hsz2 (by omega) 22 Tryd.underlying22 info_br2 ⟨rfl, by decide, by decide⟩ _ (one3 _ _ _) (by exact ⟨rfl, rfl, rfl, rfl, by simp⟩) ?_; intro v1 w1 ho1 hu1)
            have HP := Lib.hid (HI2.out.push (x := x) (by omega) ho1 hu1)
            clear ho1 hu1
            go_roundg (gk - 1)
            case measure => have := HG.out; omega
            case rel => exact ⟨k + 1, m + 1, by go_num, by omega, by have := HG.out; show gk - 1 + (k + 1) = N; omega, by omega, by rw [HNX2.out, HB'.out]; exact HP.out⟩
        · have HE1 : Hid (turnFrom xr.a ((N : Int) - 1) 0 (F.take (k + 1)) = turnFrom xr.a ((N : Int) - 1) 0 (F.take k)) := by
            show turnFrom xr.a ((N : Int) - 1) 0 (F.take (k + 1)) = _
            rw [HNX.out, if_neg hin, List.append_nil]
          have HI2 := Lib.hid (HI.next hba)
          by_cases hk1 : (k : Int) = xr.a
          · have t1 : ((k : Int) != xr.a) = false := by rw [bne_eq_false_iff_eq]; exact hk1
            clear hin hk1 hba
            go_wp2_with fail
            go_roundg (gk - 1)
            case measure => have := HG.out; omega
            case rel => exact ⟨k + 1, m, by go_num, by omega, by have := HG.out; show gk - 1 + (k + 1) = N; omega, by omega, by rw [HE1.out]; exact HI2.out⟩
          · have t1 : ((k : Int) != xr.a) = true := by rw [bne_iff_ne]; exact hk1
            have t2 : ((k : Int) != (N : Int) - 1) = false := by rw [bne_eq_false_iff_eq]; omega
            clear hin hk1 hba
            go_wp2_with fail
            go_roundg (gk - 1)
            case measure => have := HG.out; omega
            case rel => exact ⟨k + 1, m, by go_num, by omega, by have := HG.out; show gk - 1 + (k + 1) = N; omega, by omega, by rw [HE1.out]; exact HI2.out⟩
      · have hkN' : k = N := by omega
        have HL : Hid (turnFrom xr.a ((N : Int) - 1) 0 (F.take k) = turnFrom xr.a ((N : Int) - 1) 0 F) := by
          show turnFrom xr.a ((N : Int) - 1) 0 (F.take k) = _
          rw [List.take_of_length_le (by have := HFL.out; omega)]
        rw [HL.out] at HI
        have r1 := cell_below HI.below (by omega) r1
        have r2 := cell_below HI.below (by omega) r2
        have x1 := cell_below HI.below (by omega) x1
        have x2 := cell_below HI.below (by omega) x2
        have c1 := cell_below HI.below (by omega) c1
        have m1 : xx.b ≤ 1000000000 := by have h1 := HYB.out; have h2 := HN.out; simp only [NT.size] at h2; omega
        have m2 : xr.b ≤ 1000000000 := by have h1 := HXB.out; have h2 := HN.out; omega
        have m3 : xx.a ≤ 1000000000 := by have h1 := HYA.out; have h2 := HN.out; simp only [NT.size] at h2; omega
        have hrow := Lib.hid HI.row
        have hown : ∀ j, (Value.slice AV m cv).ownBlock = some j → w8.heap.size ≤ j := fun j hj => (HI.row.lt j hj).1
        have ho1 : (Value.slice AV m cv).ownBlock ≠ some w6.heap.size := fun q => by have := hown _ q; omega
        have ho2 : (Value.slice AV m cv).ownBlock ≠ some (w6.heap.size + 1) := fun q => by have := hown _ q; omega
        clear hown
        clear hkN' e0
        go_wp2_with fail
        go_region_held3 (fun w' => w'.cell? ⟨w6.heap.size, 1, none⟩ = some (.int .i64 xr.a) ∧ w'.cell? ⟨w6.heap.size, 2, none⟩ = some (.int .i64 xr.b) ∧ w'.cell? ⟨w6.heap.size + 1, 2, none⟩ = some (.int .i64 xx.b))
          (first
            | go_keep
            | (go_split_ands
               refine ⟨?_, ?_, ?_⟩
               · (refine hu1.1.cell (by assumption) (Ne.symm ho1))
               · (refine hu1.1.cell (by assumption) (Ne.symm ho1))
               · (refine hu1.1.cell (by assumption) (Ne.symm ho2))))
          (first
            | (go_at_call 23; refine (moved_calls _ xr.a _ k0 (by assumption)).mono ?_; rintro e w' ⟨rfl, rfl⟩)
            | (refine step_append1 (World.ownsRow.drew hrow.out) (by simp; omega) (by omega) 22 Tryd.underlying22 info_br2 ⟨rfl, by decide, by decide⟩ _ (one3 _ _ _) (by exact ⟨rfl, rfl, rfl, rfl, by simp⟩) ?_; intro v1 w1 ho1' hu1))
        have hz8' : w6.heap.size + 1 < w8.heap.size := hz8
        have hlow0 := hu1.below hsz8 (fun j hj => (hrow.out.lt j hj).1)
        have hlow : Below w8.heap.size wr w1 := ⟨hlow0.os, hlow0.tape, hlow0.output, hlow0.size, hlow0.block⟩
        clear hlow0
        have c1 := cell_below hlow (by omega) c1
        have r1 := cell_below hlow (by omega) r1
        have x1 := cell_below hlow (by omega) x1
        have HLOW := Lib.hid hlow
        have HO1 : Hid (w1.ownsRow w8.heap.size 50 3 v1 (m + 1) (brs (turnFrom xr.a ((N : Int) - 1) 0 F ++ [⟨0, mv xx.b xr.a, mv xr.b xr.a⟩]))) := by
          show w1.ownsRow w8.heap.size 50 3 v1 (m + 1) (brs (turnFrom xr.a ((N : Int) - 1) 0 F ++ [⟨0, mv xx.b xr.a, mv xr.b xr.a⟩]))
          rw [brs_snoc]
          exact ho1'
        have hsz1 := hlow.size
        obtain ⟨AV1, cv1, rfl, hcv1⟩ := own_slice ho1'
        have hm23 : m ≤ 23 := by omega
        clear r2 x2 hu1 ho1' hlow ho1 ho2
        go_wp2_with fail
        refine (moved_calls xx.a xr.a _ k0 m3).mono ?_
        rintro e w' ⟨rfl, rfl⟩
        go_wp2_with (at_builtin; refine walk_append1 HO1.out (by omega) (by omega) 22 Tryd.underlying22 info_br2 ⟨rfl, by decide, by decide⟩ _ (one3 _ _ _) (by exact ⟨rfl, rfl, rfl, rfl, rfl⟩) ?_; intro v2 w2' ho2' hu2; have hlow2 := hu2.below (B := w8.heap.size) (by omega) (fun j hj => (HO1.out.lt j hj).1); have c1 := cell_below hlow2 (by omega) c1; obtain ⟨AV2, cv2, rfl, hcv2⟩ := own_slice ho2')
        have HEQ : Hid (turnFrom xr.a ((N : Int) - 1) 0 F ++ [⟨0, mv xx.b xr.a, mv xr.b xr.a⟩] ++ [⟨0, mv xx.a xr.a, ((m : Nat) : Int)⟩] = (NT.fork p (.fork q b)).form 0) := by
          show _ = _
          have h1 := HXA.out
          have h2 := HXB.out
          have h3 := HYA.out
          have h4 := HYB.out
          have h5 := HN.out
          have h6 := HLI.out
          have hp := p.size_pos
          have hq := q.size_pos
          have hb := b.size_pos
          simp only [NT.size] at h1 h2 h5
          have e1 : xr.a = ((p.size + q.size : Nat) : Int) := by omega
          have e2 : (N : Int) - 1 = ((p.size + q.size + 1 + b.size : Nat) : Int) := by omega
          have e3 : mv xx.b xr.a = ((p.size + q.size : Nat) : Int) - 1 := by unfold mv; rw [if_neg (by omega)]; exact h4
          have e4 : mv xr.b xr.a = ((p.size + q.size + b.size : Nat) : Int) - 1 := by unfold mv; rw [if_pos (by omega)]; omega
          have e5 : mv xx.a xr.a = ((p.size : Nat) : Int) - 1 := by unfold mv; rw [if_neg (by omega)]; exact h3
          have hl := congrArg List.length h6
          simp only [List.length_append, List.length_cons, List.length_nil, NT.form_length, NT.size] at hl
          have hr := hrow.out.1
          rw [brs_length] at hr
          rw [e1, e2] at hr
          have e6 : ((m : Nat) : Int) = ((p.size + q.size + b.size : Nat) : Int) := by omega
          rw [e3, e4, e5, e1, e2, e6]
          exact h6
        have HO2 : Hid (w2'.ownsRow w8.heap.size 50 3 (.slice AV2 (m + 1 + 1) cv2) (m + 1 + 1) (brs ((NT.fork p (.fork q b)).form 0))) := by
          show w2'.ownsRow w8.heap.size 50 3 (.slice AV2 (m + 1 + 1) cv2) (m + 1 + 1) (brs ((NT.fork p (.fork q b)).form 0))
          rw [← HEQ.out, brs_snoc]
          simpa [Br.cells] using ho2'
        obtain ⟨hrd, hrl⟩ := own_rd HO2.out
        have hbw : Below w.heap.size w w2' := Below.trans (Below.then HB8.out HB8.out.size HI.below) (Below.trans (HLOW.out.mono (by have := HB8.out.size; omega)) (hlow2.mono (by have := HB8.out.size; omega)))
        have hcall := sum_calls AV2 (m + 1 + 1) cv2 ((NT.fork p (.fork q b)).form 0) A2 n2 c2 rows w2' ⟨hrd, hrl, by omega, (H.out.below hbw).mat, HRL.out, hcap2⟩
        rw [HTU.out.1, HTU.out.2, HMN.out] at hcall
        have HBW := Lib.hid hbw
        clear hbw hrd hrl ho2' hu2 hlow2
        refine hcall.mono ?_
        rintro e w9 ⟨rfl, hb9⟩
        have HB9 := Lib.hid (Below.then HBW.out HBW.out.size hb9)
        clear hb9 hcall
        go_wp2_with fail
        go_ret
        exact ⟨rfl, HB9.out⟩
  · obtain ⟨er, her⟩ : ∃ er, errBoth bs rows = er := ⟨_, rfl⟩
    have hn : sumNum bs rows = 0 := by unfold sumNum; rw [if_neg he]
    rw [hn, her] at HS
    rw [her] at he
    have b1 : (er != 0) = true := by rw [bne_iff_ne]; exact he
    clear he her hn h
    go_enter Tryd.func8, Tryd.ntmps8
    go_wp2_with fail
    refine (HA.out _ (two_below _ _ _ _ _)).mono ?_
    rintro e w1 ⟨rfl, hb1⟩
    obtain ⟨HB, hz, c0, c1⟩ := two_boxes hb1
    clear hb1
    go_wp2_with fail
    refine (HS.out _ HB.out).mono ?_
    rintro e w2 ⟨rfl, hb2⟩
    have HB2 := Lib.hid (Below.then HB.out HB.out.size hb2)
    clear hb2
    go_wp2_with fail
    go_ret
    exact ⟨rfl, HB2.out⟩
end Go.Proofs.YtbmlkomfelkckaaDoor
