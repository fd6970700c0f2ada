/- fitch.leaf, fitch.wrong, fitch.changes: by sets. -/
import Derived.Test.YtbmlkomfelkckaaFitSpec
import Derived.Deep.OwnRows
import Derived.StillTailTactics
import Derived.Deep.QuietTactic
import Derived.BigQuiet
import Derived.BigRegion
import Derived.Deep.DeepMust
namespace Go.Proofs.Ytbmlkomfelkckaa
open Go Go.RowKit
set_option maxRecDepth 100000

theorem wrap_pow12 : ∀ k : Fin 12, IntKind.u64.wrap (2 ^ k.val) = ((2 ^ k.val : Nat) : Int) := by decide
theorem wrap_pow (x : Int) (h0 : 0 ≤ x) (h1 : x < 12) : IntKind.u64.wrap (2 ^ x.toNat) = (leafSet x : Int) := by
  unfold leafSet
  rw [if_pos h0]
  exact wrap_pow12 ⟨x.toNat, by omega⟩

set_option maxHeartbeats 400000 in
theorem fleaf_calls (A : Option Addr) (n c : Nat) (rows : List (List Int)) (b : Br) (site : Int) (r : List Int) (x : Int) (w : World) (hr : RdRows w A rows) (hn : rows.length = n)
    (h0 : 0 ≤ b.leaf) (h1 : rows[b.leaf.toNat]? = some r) (h2 : 0 ≤ site) (h3 : r[site.toNat]? = some x) (h4 : x < 12) :
    Calls Try.prog 101 #[.agg #[.slice A n c], .agg #[.int .i64 b.leaf, .int .i64 b.a, .int .i64 b.b], .int .i64 site] w fun e w' => e = .returned (.int .u64 (leafSet x : Int)) ∧ Below w.heap.size w w' := by
  obtain ⟨ad, A1, c1, rfl, d0, hrow, hc, hc2⟩ := hr _ _ h1
  obtain ⟨ad1, rfl, d1⟩ := hrow _ _ h3
  have e0 := World.block_lt_of_cell? w _ d0
  have e1 := World.block_lt_of_cell? w _ d1
  have b0 : b.leaf < (n : Int) := by have := (List.getElem?_eq_some_iff.1 h1).1; omega
  have b1 : site < (r.length : Int) := by have := (List.getElem?_eq_some_iff.1 h3).1; omega
  clear h1 h3 hr hrow hn
  by_cases hx : 0 ≤ x
  · go_enter Try.func101, Try.ntmps101
    go_wp2_with fail
    go_ret
    exact ⟨by rw [← wrap_pow x hx h4]; rfl, Below.trans (below_alloc _ _) ((below_alloc _ _).mono (by simp))⟩
  · go_enter Try.func101, Try.ntmps101
    go_wp2_with fail
    go_ret
    exact ⟨by unfold leafSet; rw [if_neg (by omega)]; rfl, Below.trans (below_alloc _ _) ((below_alloc _ _).mono (by simp))⟩


theorem set_cell_ne {w : World} {b j b' j' : Nat} {v u : Value} (h : b ≠ b' ∨ j ≠ j') (hc : w.cell? ⟨b', j', none⟩ = some v) : (w.setCell ⟨b, j, none⟩ u).cell? ⟨b', j', none⟩ = some v := by
  by_cases hb : b = b'
  · subst hb
    have hj : j ≠ j' := by rcases h with h | h; exact absurd rfl h; exact h
    simp only [World.cell?, World.setCell, Array.getElem?_modify] at *
    cases hh : w.heap[b]? with
    | none => simp [hh] at hc
    | some o =>
      rw [hh] at hc
      cases o <;> simp at hc ⊢
      rw [Array.getElem?_setIfInBounds_ne hj]
      exact hc
  · exact (World.cell?_of_block (a := ⟨b', j', none⟩) (Below.heap_setCell _ _ _ _ (by show b' ≠ b; exact fun q => hb q.symm))).trans hc

theorem frozen_set (w : World) (p : Addr) (u : Value) (q : Addr) : (w.setCell p u).frozen? q = w.frozen? q := by
  simp only [World.frozen?, World.setCell, Array.getElem?_modify]
  by_cases hb : p.block = q.block
  · rw [if_pos hb]
    cases hh : w.heap[q.block]? with
    | none => rfl
    | some o => cases o <;> rfl
  · rw [if_neg hb]

theorem bits_and_nat (a b : Nat) (ha : a < 4096) (hb : b < 4096) : bits .and .u64 (a : Int) (b : Int) = ((a &&& b : Nat) : Int) := by
  have hx : a &&& b < 4096 := Nat.lt_of_le_of_lt Nat.and_le_left ha
  have h1 : (BitVec.ofInt 64 (a : Int)).toNat = a := by
    rw [BitVec.ofInt_natCast, BitVec.toNat_ofNat]; exact Nat.mod_eq_of_lt (by omega)
  have h2 : (BitVec.ofInt 64 (b : Int)).toNat = b := by
    rw [BitVec.ofInt_natCast, BitVec.toNat_ofNat]; exact Nat.mod_eq_of_lt (by omega)
  show IntKind.u64.wrap ((BitVec.ofInt 64 (a : Int) &&& BitVec.ofInt 64 (b : Int)).toNat : Int) = _
  rw [BitVec.toNat_and, h1, h2, IntKind.wrap_u64]
  omega

theorem bits_or_nat (a b : Nat) (ha : a < 4096) (hb : b < 4096) : bits .or .u64 (a : Int) (b : Int) = ((a ||| b : Nat) : Int) := by
  have hx : a ||| b < 4096 := Nat.or_lt_two_pow (n := 12) ha hb
  have h1 : (BitVec.ofInt 64 (a : Int)).toNat = a := by
    rw [BitVec.ofInt_natCast, BitVec.toNat_ofNat]; exact Nat.mod_eq_of_lt (by omega)
  have h2 : (BitVec.ofInt 64 (b : Int)).toNat = b := by
    rw [BitVec.ofInt_natCast, BitVec.toNat_ofNat]; exact Nat.mod_eq_of_lt (by omega)
  show IntKind.u64.wrap ((BitVec.ofInt 64 (a : Int) ||| BitVec.ofInt 64 (b : Int)).toNat : Int) = _
  rw [BitVec.toNat_or, h1, h2, IntKind.wrap_u64]
  omega

theorem info_uint : (Try.prog.info? 121).map (fun i => (i.zero, i.size, i.bytes)) = some (some (.int .u64 0), 1, 8) := by kernel_rfl

/-- What holds at the head of each round of fitch.changes. -/
structure FInv (w wr : World) (mat : Value) (rows : List (List Int)) (site : Nat) (bs : List Br) (n k : Nat) (s : FS) : Prop where
  box : wr.cell? ⟨w.heap.size + 1, 0, none⟩ = some mat
  below : Below w.heap.size w wr
  size : w.heap.size + 3 ≤ wr.heap.size
  row : wr.rowIs (w.heap.size + 2) 121 n (fun j => .int .u64 ((s.sets.getD j 0 : Nat) : Int))
  st : fall rows site (bs.take k) = s
  len : s.sets.length = k
  small : ∀ x ∈ s.sets, x < 4096
  few : s.n ≤ k

theorem getD_lt {l : List Nat} (h : ∀ x ∈ l, x < 4096) (k : Nat) : l.getD k 0 < 4096 := by
  rw [List.getD_eq_getElem?_getD]
  cases hk : l[k]? with
  | none => simp
  | some y => exact h y (List.mem_of_getElem? hk)

theorem take_more {α : Type} {l : List α} {k : Nat} {x : α} (h : l[k]? = some x) : l.take (k + 1) = l.take k ++ [x] := by
  obtain ⟨h1, h2⟩ := List.getElem?_eq_some_iff.1 h
  rw [List.take_succ_eq_append_getElem h1, h2]

theorem FInv.start (w : World) (o1 : Obj) (mat : Value) (e : TypeId) (rows : List (List Int)) (site : Nat) (bs : List Br) (n : Nat) :
    FInv w (((w.alloc o1).alloc (.cells #[mat] e)).alloc (.cells (madeCells #[.int .u64 0] n) 121)) mat rows site bs n 0 ⟨[], 0⟩ := by
  have h := World.rowIs_made ((w.alloc o1).alloc (.cells #[mat] e)) (.int .u64 0) n 121
  simp only [World.size_alloc] at h
  have h2 := new_cell (w.alloc o1) #[mat] e 0
  rw [World.size_alloc] at h2
  refine ⟨?_, ((Below.refl _ _).alloc (Nat.le_refl _) _).alloc (by simp) _ |>.alloc (by simp; omega) _, by simp, h.congr (by simp), rfl, rfl, by simp, Nat.le_refl _⟩
  exact cell_below (B := w.heap.size + 2) ((below_alloc _ _).mono (by simp)) (by omega) h2

/-- What a round keeps till its last store: all but what stands at k. -/
structure FMid (w wr W : World) (mat : Value) (n k : Nat) (s : FS) : Prop where
  below : Below w.heap.size w W
  size : wr.heap.size ≤ W.heap.size
  box : W.cell? ⟨w.heap.size + 1, 0, none⟩ = some mat
  row : ∃ f, W.rowIs (w.heap.size + 2) 121 n f ∧ ∀ j, j ≠ k → f j = .int .u64 ((s.sets.getD j 0 : Nat) : Int)

theorem FMid.start {w wr W : World} {mat : Value} {rows : List (List Int)} {site : Nat} {bs : List Br} {n k : Nat} {s : FS} (h : FInv w wr mat rows site bs n k s) (hW : Below wr.heap.size wr W) : FMid w wr W mat n k s :=
  ⟨Below.then h.below (by have := h.size; omega) hW, hW.size, cell_below (B := wr.heap.size) hW (by have := h.size; omega) h.box, _, h.row.of_block (hW.block _ h.row.lt), fun _ _ => rfl⟩

theorem FMid.next {w wr W W' : World} {mat : Value} {n k : Nat} {s : FS} (h : FMid w wr W mat n k s) (hz : w.heap.size + 3 ≤ wr.heap.size) (hW : Below W.heap.size W W') : FMid w wr W' mat n k s := by
  obtain ⟨f, hf, hj⟩ := h.row
  have := h.size
  exact ⟨Below.then h.below (by omega) hW, Nat.le_trans h.size hW.size, cell_below (B := W.heap.size) hW (by omega) h.box, f, hf.of_block (hW.block _ hf.lt), hj⟩

theorem FMid.set {w wr W : World} {mat : Value} {n k : Nat} {s : FS} (h : FMid w wr W mat n k s) (u : Value) : FMid w wr (W.setCell ⟨w.heap.size + 2, k, none⟩ u) mat n k s := by
  obtain ⟨f, hf, hj⟩ := h.row
  refine ⟨below_set h.below (by omega) _ _, by simp; exact h.size, ?_, _, hf.set k u, fun j hjk => by rw [if_neg hjk]; exact hj j hjk⟩
  exact (World.cell?_of_block (a := ⟨w.heap.size + 1, 0, none⟩) (Below.heap_setCell _ _ _ _ (by show w.heap.size + 1 ≠ w.heap.size + 2; omega))).trans h.box

/-- A round: the row has got one set more. -/
theorem FInv.next {w wr W : World} {mat : Value} {rows : List (List Int)} {site : Nat} {bs : List Br} {n k : Nat} {s : FS} {b : Br} (h : FInv w wr mat rows site bs n k s) (hb : bs[k]? = some b) (hm : matOk rows = true) (hs : site < wid rows)
    (hok : b.a = b.b → 0 ≤ b.leaf ∧ b.leaf < rows.length) (hW : FMid w wr W mat n k s) {x m : Nat} (hx : fstep rows site s b = ⟨s.sets ++ [x], m⟩) :
    FInv w (W.setCell ⟨w.heap.size + 2, k, none⟩ (.int .u64 (x : Int))) mat rows site bs n (k + 1) ⟨s.sets ++ [x], m⟩ := by
  have hz := h.size
  have hl := fstep_length rows site s b
  have hlt := fstep_lt hm hs hok h.small
  rw [hx] at hl hlt
  obtain ⟨f, hf, hj⟩ := hW.row
  refine ⟨(hW.set _).box, (hW.set _).below, by simp; exact Nat.le_trans hz hW.size, ?_, ?_, by simp [h.len], hlt, ?_⟩
  · refine (hf.set k _).congr (fun j hjn => ?_)
    rcases Nat.lt_trichotomy j k with hjk | hjk | hjk
    · rw [if_neg (by omega), hj j (by omega)]
      simp [List.getD_eq_getElem?_getD, List.getElem?_append_left (show j < s.sets.length by rw [h.len]; exact hjk)]
    · subst hjk
      rw [if_pos rfl]
      have := h.len
      simp [List.getD_eq_getElem?_getD, ← this]
    · rw [if_neg (by omega), hj j (by omega)]
      have := h.len
      simp [List.getD_eq_getElem?_getD, List.getElem?_eq_none (show s.sets.length ≤ j by omega), List.getElem?_eq_none (show (s.sets ++ [x]).length ≤ j by simp; omega)]
  · rw [take_more hb, fall_snoc, h.st, hx]
  · have h2 : m ≤ s.n + 1 := hl.2
    have h3 := h.few
    show m ≤ k + 1
    omega

set_option maxHeartbeats 1000000 in
theorem changes_calls (A : Option Addr) (n c : Nat) (bs : List Br) (A2 : Option Addr) (n2 c2 : Nat) (rows : List (List Int)) (site : Int) (w : World) (hb : RdBr w A bs) (hr : RdRows w A2 rows) (hn : bs.length = n) (hn2 : rows.length = n2) (hfew : n ≤ 1000)
    (hm : matOk rows = true) (hok : BrOk n2 bs) (h0 : 0 ≤ site) (h1 : site < wid rows) :
    Calls Try.prog 69 #[.agg #[.slice A n c], .agg #[.slice A2 n2 c2], .int .i64 site] w fun e w' => e = .returned (.int .i64 ((fall rows site.toNat bs).n : Int)) ∧ Below w.heap.size w w' := by
  have HN := Lib.hid hn
  have HN2 := Lib.hid hn2
  have HM := Lib.hid hm
  have HS : Hid (site.toNat < wid rows) := by show site.toNat < wid rows; omega
  clear hn hn2 hm h1
  have hmk := run_make_row' (P := Try.prog) 147 121 (.int .u64 0) 8 Try.underlying147 info_uint rfl .i64 .i64 n (by omega) (by omega)
  go_enter Try.func69, Try.ntmps69
  go_wp2_with fail
  go_loopg [8, 18] n (fun gk v8 v18 wr => ∃ (k : Nat) (s : FS), v8 = .int .i64 (s.n : Int) ∧ v18 = .int .i64 k ∧ k ≤ n ∧ Hid (gk + k = n) ∧ FInv w wr (.slice A2 n2 c2) rows site.toNat bs n k s)
  case atStart => exact ⟨0, ⟨[], 0⟩, rfl, rfl, Nat.zero_le _, rfl, FInv.start _ _ _ _ _ _ _ _⟩
  case round =>
    obtain ⟨k, s, rfl, rfl, hk, HG, HI⟩ := hrel
    clear hmk
    by_cases hkn : k < n
    · have hkx : k < bs.length := by have := HN.out; omega
      obtain ⟨ad, rfl, d0, d1, d2⟩ := hb.below HI.below k bs[k] (by simp [hkx])
      generalize hx : bs[k] = x at *
      have HXK : Hid (bs[k]? = some x) := by show bs[k]? = some x; rw [List.getElem?_eq_getElem hkx, hx]
      have HO := Lib.hid (hok k x HXK.out)
      clear hx hb
      have hfw := HI.few
      have hz0 : w.heap.size + 1 < wr.heap.size := by have := HI.size; omega
      have hz2 : w.heap.size + 2 < wr.heap.size := by have := HI.size; omega
      have r0 := HI.row.cell (i := k) hkn
      have r1 := HI.row.frozen k
      have b1 := HI.box
      by_cases hab : x.a = x.b
      · have f0 : (x.a == x.b) = true := by simpa using hab
        obtain ⟨q0, q1⟩ : 0 ≤ x.leaf ∧ x.leaf < n2 := by
          rcases HO.out with h | h
          · exact ⟨h.2.2.1, h.2.2.2⟩
          · exact absurd hab h.2.1
        obtain ⟨r, hrow, hst, -, hst2⟩ := matOk_at HM.out q0 (by rw [HN2.out]; exact q1) HS.out
        have HF : Hid (fstep rows site.toNat s x = ⟨s.sets ++ [leafSet (stateAt rows site.toNat x.leaf)], s.n⟩) := by
          show fstep rows site.toNat s x = _
          unfold fstep
          rw [if_pos hab]
        have HC := Lib.hid (fun (W : World) (h : Below w.heap.size w W) => fleaf_calls A2 n2 c2 rows x site r _ W (hr.below h) HN2.out q0 hrow h0 hst hst2)
        have HQ : Hid (x.a = x.b → 0 ≤ x.leaf ∧ x.leaf < rows.length) := fun _ => ⟨q0, by rw [HN2.out]; exact q1⟩
        clear hab hrow hst q0 q1 hr hok
        go_wp2_with fail
        refine (HC.out _ (HI.below.alloc (by omega) _)).mono ?_
        rintro e w1 ⟨rfl, hb1⟩
        have HB := Lib.hid (Below.trans (below_alloc wr _) (hb1.mono (by simp)))
        have r2 := cell_below (B := wr.heap.size) HB.out hz2 r0
        have r3 := frozen_below (B := wr.heap.size) HB.out hz2 r1
        clear hb1 r0 r1 b1 d0 d1 d2
        go_wp2_with fail
        go_roundg (gk - 1)
        case measure => have := HG.out; omega
        case rel => exact ⟨k + 1, ⟨s.sets ++ [leafSet (stateAt rows site.toNat x.leaf)], s.n⟩, rfl, by go_num, by omega, by have := HG.out; show gk - 1 + (k + 1) = n; omega, HI.next HXK.out HM.out HS.out HQ.out (FMid.start HI HB.out) HF.out⟩
      · have f0 : (x.a == x.b) = false := by simpa using hab
        obtain ⟨p0, p1, p2, p3⟩ : 0 ≤ x.a ∧ x.a < k ∧ 0 ≤ x.b ∧ x.b < k := by
          rcases HO.out with h | h
          · exact absurd (h.1.trans h.2.1.symm) hab
          · exact h.2.2
        have ra := HI.row.cell (i := x.a.toNat) (by omega)
        have rb := HI.row.cell (i := x.b.toNat) (by omega)
        have la := getD_lt HI.small x.a.toNat
        have lb := getD_lt HI.small x.b.toNat
        obtain ⟨sa, hsa⟩ : ∃ sa, s.sets.getD x.a.toNat 0 = sa := ⟨_, rfl⟩
        obtain ⟨sb, hsb⟩ : ∃ sb, s.sets.getD x.b.toNat 0 = sb := ⟨_, rfl⟩
        rw [hsa] at ra la
        rw [hsb] at rb lb
        have eand := bits_and_nat sa sb la lb
        have eor := bits_or_nat sa sb la lb
        have HF : Hid (fstep rows site.toNat s x = if sa &&& sb = 0 then ⟨s.sets ++ [sa ||| sb], s.n + 1⟩ else ⟨s.sets ++ [sa &&& sb], s.n⟩) := by
          show fstep rows site.toNat s x = _
          unfold fstep
          rw [if_neg hab, hsa, hsb]
        have HQ : Hid (x.a = x.b → 0 ≤ x.leaf ∧ x.leaf < rows.length) := fun h => absurd h hab
        obtain ⟨sd, hsd⟩ : ∃ sd, sa &&& sb = sd := ⟨_, rfl⟩
        obtain ⟨so, hso⟩ : ∃ so, sa ||| sb = so := ⟨_, rfl⟩
        rw [hsd] at eand
        rw [hso] at eor
        have HD := Lib.hid hsd
        have HE := Lib.hid hso
        clear hsa hsb hab hsd hso la lb hr hok
        by_cases hz : sd = 0
        · have g0 : ((sd : Int) == 0) = true := by rw [beq_iff_eq]; omega
          have HZ := Lib.hid hz
          clear hz
          have q1 := new_cell wr #[.int .i64 x.leaf, .int .i64 x.a, .int .i64 x.b] 64 1
          have q2 := new_cell wr #[.int .i64 x.leaf, .int .i64 x.a, .int .i64 x.b] 64 2
          have hb1 := below_alloc wr (.cells #[.int .i64 x.leaf, .int .i64 x.a, .int .i64 x.b] 64)
          have ra := cell_below hb1 hz2 ra
          have rb := cell_below hb1 hz2 rb
          have r0 := cell_below hb1 hz2 r0
          have r1 := frozen_below hb1 hz2 r1
          have HB := Lib.hid (FMid.start HI hb1)
          clear hb1
          go_wp2_with fail
          generalize wr.alloc (.cells #[.int .i64 x.leaf, .int .i64 x.a, .int .i64 x.b] 64) = W2 at *
          have p4 : x.a < (n : Int) := by omega
          have p5 : x.b < (n : Int) := by omega
          have p6 : (k : Int) < (n : Int) := by omega
          go_still_tail 14, (by kernel_rfl)
          change wpList _ _ _ _ _ W2.drew
          go_wp2_with fail
          have z1 : (W2.setCell ⟨w.heap.size + 1 + 1, k, none⟩ (.int .u64 (sd : Int))).drew.cell? ⟨wr.heap.size, 1, none⟩ = _ := set_cell_ne (.inl (by omega)) q1
          have z2 : (W2.setCell ⟨w.heap.size + 1 + 1, k, none⟩ (.int .u64 (sd : Int))).drew.cell? ⟨wr.heap.size, 2, none⟩ = _ := set_cell_ne (.inl (by omega)) q2
          have za : (W2.setCell ⟨w.heap.size + 1 + 1, k, none⟩ (.int .u64 (sd : Int))).drew.cell? ⟨w.heap.size + 1 + 1, x.a.toNat, none⟩ = _ := set_cell_ne (.inr (by omega)) ra
          have zb : (W2.setCell ⟨w.heap.size + 1 + 1, k, none⟩ (.int .u64 (sd : Int))).drew.cell? ⟨w.heap.size + 1 + 1, x.b.toNat, none⟩ = _ := set_cell_ne (.inr (by omega)) rb
          have z0 : (W2.setCell ⟨w.heap.size + 1 + 1, k, none⟩ (.int .u64 (sd : Int))).drew.cell? ⟨w.heap.size + 1 + 1, k, none⟩ = _ := set_cell_eq r0 _
          have zf : (W2.setCell ⟨w.heap.size + 1 + 1, k, none⟩ (.int .u64 (sd : Int))).drew.frozen? ⟨w.heap.size + 1 + 1, k, none⟩ = false := (frozen_set _ _ _ _).trans r1
          have HB2 := Lib.hid (FMid.next (HB.out.set (.int .u64 (sd : Int))) HI.size (below_drewN _ 1))
          have hb2 : FMid w wr (W2.setCell ⟨w.heap.size + 1 + 1, k, none⟩ (.int .u64 (sd : Int))).drew (.slice A2 n2 c2) n k s := HB2.out
          have HB3 := Lib.hid hb2
          clear hb2 HB2 HB q1 q2 ra rb r0 r1
          generalize (W2.setCell ⟨w.heap.size + 1 + 1, k, none⟩ (.int .u64 (sd : Int))).drew = W3 at *
          go_still_tail 14, (by kernel_rfl)
          change wpList _ _ _ _ _ W3.drew
          go_wp2_with fail
          go_roundg (gk - 1)
          case measure => have := HG.out; omega
          case rel =>
            have hf := HF.out
            rw [if_pos (by rw [HD.out]; exact HZ.out), HE.out] at hf
            have hnext := HI.next HXK.out HM.out HS.out HQ.out (FMid.next HB3.out HI.size (below_drewN _ 1)) hf
            exact ⟨k + 1, ⟨s.sets ++ [so], s.n + 1⟩, by go_num, by go_num, by omega, by have := HG.out; show gk - 1 + (k + 1) = n; omega, hnext⟩
        · have g0 : ((sd : Int) == 0) = false := by rw [beq_eq_false_iff_ne]; omega
          have HZ := Lib.hid hz
          clear hz
          have q1 := new_cell wr #[.int .i64 x.leaf, .int .i64 x.a, .int .i64 x.b] 64 1
          have q2 := new_cell wr #[.int .i64 x.leaf, .int .i64 x.a, .int .i64 x.b] 64 2
          have hb1 := below_alloc wr (.cells #[.int .i64 x.leaf, .int .i64 x.a, .int .i64 x.b] 64)
          have ra := cell_below hb1 hz2 ra
          have rb := cell_below hb1 hz2 rb
          have r0 := cell_below hb1 hz2 r0
          have r1 := frozen_below hb1 hz2 r1
          have HB := Lib.hid (FMid.start HI hb1)
          clear hb1
          go_wp2_with fail
          generalize wr.alloc (.cells #[.int .i64 x.leaf, .int .i64 x.a, .int .i64 x.b] 64) = W2 at *
          have p4 : x.a < (n : Int) := by omega
          have p5 : x.b < (n : Int) := by omega
          have p6 : (k : Int) < (n : Int) := by omega
          go_still_tail 14, (by kernel_rfl)
          change wpList _ _ _ _ _ W2.drew
          go_wp2_with fail
          go_roundg (gk - 1)
          case measure => have := HG.out; omega
          case rel =>
            have hf := HF.out
            rw [if_neg (by rw [HD.out]; exact HZ.out), HD.out] at hf
            have hnext := HI.next HXK.out HM.out HS.out HQ.out (FMid.next HB.out HI.size (below_drewN _ 1)) hf
            exact ⟨k + 1, ⟨s.sets ++ [sd], s.n⟩, by go_num, by go_num, by omega, by have := HG.out; show gk - 1 + (k + 1) = n; omega, hnext⟩
    · go_wp2_with fail
      go_ret
      have hkn' : k = n := by omega
      have h := HI.st
      rw [List.take_of_length_le (by have := HN.out; omega)] at h
      rw [h]
      exact ⟨rfl, HI.below⟩
end Go.Proofs.Ytbmlkomfelkckaa
