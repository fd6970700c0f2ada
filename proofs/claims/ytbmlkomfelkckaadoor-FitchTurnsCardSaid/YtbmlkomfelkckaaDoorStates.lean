/- fitch.States: a state for each branch. -/
import Derived.Test.YtbmlkomfelkckaaDoorFit2
import Derived.Test.YtbmlkomfelkckaaDoorStSpec
import Derived.Laws.OwnMore
import Derived.Deep.DeepCutAuto
import Derived.Deep.CutBlock
namespace Go.Proofs.YtbmlkomfelkckaaDoor
open Go Go.RowKit
set_option maxRecDepth 100000

theorem info_price : (Tryd.prog.info? 65).map (fun i => (i.zero, i.size, i.bytes)) = some (some (.agg #[.int .u64 0, .int .u64 0]), 2, 16) := by kernel_rfl
theorem info_int : (Tryd.prog.info? 3).map (fun i => (i.zero, i.size, i.bytes)) = some (some (.int .i64 0), 1, 8) := by kernel_rfl

theorem bits_xor_nat (a b : Nat) (ha : a < 4096) (hb : b < 4096) : bits .xor .u64 (a : Int) (b : Int) = ((a ^^^ b : Nat) : Int) := bits_xor_u64_nat a b (by omega) (by omega)

theorem bits_andNot_all : (List.range 4096).all (fun x => bits .andNot .u64 4095 (x : Int) == ((4095 ^^^ x : Nat) : Int)) = true := by decide +kernel
theorem bits_andNot_nat (x : Nat) (h : x < 4096) : bits .andNot .u64 4095 (x : Int) = ((4095 ^^^ x : Nat) : Int) := by
  have := List.all_eq_true.1 bits_andNot_all x (List.mem_range.2 h)
  simpa using this

/-- A price's cells, side by side. -/
def prVal (ps : List Pr) (q : Nat) : Value := .int .u64 (if q % 2 = 0 then ((ps.getD (q / 2) ⟨0, 0⟩).lo : Int) else ((ps.getD (q / 2) ⟨0, 0⟩).hi : Int))

theorem prVal_lo (ps : List Pr) (i : Nat) : prVal ps (i * 2) = .int .u64 ((ps.getD i ⟨0, 0⟩).lo : Int) := by
  unfold prVal
  rw [if_pos (by omega), show i * 2 / 2 = i by omega]
theorem prVal_hi (ps : List Pr) (i : Nat) : prVal ps (i * 2 + 1) = .int .u64 ((ps.getD i ⟨0, 0⟩).hi : Int) := by
  unfold prVal
  rw [if_neg (by omega), show (i * 2 + 1) / 2 = i by omega]

/-- The row of prices that was made. -/
theorem row_of_own {w : World} {base n : Nat} {g : Nat} (h : w.ownsRow base 65 2 (.slice (some ⟨g, 0, none⟩) n n) n (madeCells (Value.agg #[.int .u64 0, .int .u64 0]).cells (n * 2)).toList) :
    w.rowIs g 65 (n * 2) (prVal []) := by
  rcases h.2 with ⟨h1, _⟩ | ⟨g', cap', cur, h1, _, hh, _, _, hs, ht⟩
  · cases h1
  · obtain ⟨rfl, rfl⟩ : g = g' ∧ n = cap' := by
      have h2 := Value.slice.inj h1
      refine ⟨by simpa using h2.1, h2.2.2⟩
    refine ⟨cur, hh, hs, fun i hi => ?_⟩
    have h3 : cur.toList.take (n * 2) = cur.toList := List.take_of_length_le (by simp [hs])
    rw [h3] at ht
    have h4 : cur[i]? = (madeCells (Value.agg #[.int .u64 0, .int .u64 0]).cells (n * 2))[i]? := by
      rw [← Array.getElem?_toList, ht, Array.getElem?_toList]
    rw [h4]
    have h5 : (Value.agg #[.int .u64 0, .int .u64 0]).cells = #[.int .u64 0, .int .u64 0] := rfl
    have h6 : i % 2 = 0 ∨ i % 2 = 1 := by omega
    rcases h6 with h6 | h6 <;> simp [h5, madeCells, hi, prVal, h6]

/-- What holds at the head of each round of the first loop. -/
structure PInv (w wr : World) (tv mv : Value) (g : Nat) (rows : List (List Int)) (site : Nat) (bs : List Br) (n k : Nat) (ps : List Pr) : Prop where
  box0 : wr.cell? ⟨w.heap.size, 0, none⟩ = some tv
  box1 : wr.cell? ⟨w.heap.size + 1, 0, none⟩ = some mv
  below : Below w.heap.size w wr
  low : w.heap.size + 2 ≤ g
  row : wr.rowIs g 65 (n * 2) (prVal ps)
  st : pall rows site (bs.take k) = ps
  len : ps.length = k
  ok : ∀ p ∈ ps, p.Ok

structure PMid (w wr W : World) (tv mv : Value) (g n k : Nat) (ps : List Pr) : Prop where
  box0 : W.cell? ⟨w.heap.size, 0, none⟩ = some tv
  box1 : W.cell? ⟨w.heap.size + 1, 0, none⟩ = some mv
  below : Below w.heap.size w W
  low : w.heap.size + 2 ≤ g
  row : W.rowIs g 65 (n * 2) (prVal ps)

theorem PInv.mid {w wr : World} {tv mv : Value} {g : Nat} {rows : List (List Int)} {site : Nat} {bs : List Br} {n k : Nat} {ps : List Pr} (h : PInv w wr tv mv g rows site bs n k ps) : PMid w wr wr tv mv g n k ps :=
  ⟨h.box0, h.box1, h.below, h.low, h.row⟩

theorem PMid.next {w wr W W' : World} {tv mv : Value} {g n k : Nat} {ps : List Pr} (h : PMid w wr W tv mv g n k ps) (hW : Below W.heap.size W W') : PMid w wr W' tv mv g n k ps := by
  have hg := h.row.lt
  have hl := h.low
  exact ⟨cell_below hW (by omega) h.box0, cell_below hW (by omega) h.box1, Below.then h.below (by omega) hW, h.low, h.row.of_block (hW.block _ h.row.lt)⟩

/-- A round: one price more. -/
theorem PInv.next {w wr W : World} {tv mv : Value} {g : Nat} {rows : List (List Int)} {site : Nat} {bs : List Br} {n k : Nat} {ps : List Pr} {b : Br} (h : PInv w wr tv mv g rows site bs n k ps) (hb : bs[k]? = some b) (hm : matOk rows = true) (hs : site < wid rows)
    (hok : b.a = b.b → 0 ≤ b.leaf ∧ b.leaf < rows.length) (hfk : b.a ≠ b.b → b.a.toNat < k ∧ b.b.toNat < k) (hW : PMid w wr W tv mv g n k ps) {p : Pr} (hx : pstep rows site ps b = ps ++ [p]) {x y : Int} (hxl : x = p.lo) (hyl : y = p.hi) :
    PInv w ((W.setCell ⟨g, k * 2, none⟩ (.int .u64 x)).setCell ⟨g, k * 2 + 1, none⟩ (.int .u64 y)) tv mv g rows site bs n (k + 1) (ps ++ [p]) := by
  subst hxl hyl
  have hl := h.low
  have hok2 := pstep_ok hm hs hok (by rw [h.len]; exact hfk) h.ok
  rw [hx] at hok2
  have hfar : ∀ b', b' ≠ g → ((W.setCell ⟨g, k * 2, none⟩ (.int .u64 (p.lo : Int))).setCell ⟨g, k * 2 + 1, none⟩ (.int .u64 (p.hi : Int))).cell? ⟨b', 0, none⟩ = W.cell? ⟨b', 0, none⟩ := by
    intro b' hne
    refine World.cell?_of_block (a := ⟨b', 0, none⟩) ?_
    rw [Below.heap_setCell _ _ _ _ hne, Below.heap_setCell _ _ _ _ hne]
  refine ⟨(hfar _ (by omega)).trans hW.box0, (hfar _ (by omega)).trans hW.box1, below_set (below_set hW.below (by omega) _ _) (by omega) _ _, h.low, ?_, ?_, by simp [h.len], hok2⟩
  · refine ((hW.row.set (k * 2) _).set (k * 2 + 1) _).congr (fun j hj => ?_)
    have hlen := h.len
    by_cases h1 : j = k * 2 + 1
    · subst h1
      rw [if_pos rfl, prVal_hi]
      simp [List.getD_eq_getElem?_getD, ← hlen]
    · rw [if_neg h1]
      by_cases h2 : j = k * 2
      · subst h2
        rw [if_pos rfl, prVal_lo]
        simp [List.getD_eq_getElem?_getD, ← hlen]
      · rw [if_neg h2]
        unfold prVal
        rcases Nat.lt_trichotomy (j / 2) k with hjk | hjk | hjk
        · simp [List.getD_eq_getElem?_getD, List.getElem?_append_left (show j / 2 < ps.length by omega)]
        · omega
        · simp [List.getD_eq_getElem?_getD, List.getElem?_eq_none (show ps.length ≤ j / 2 by omega), List.getElem?_eq_none (show (ps ++ [p]).length ≤ j / 2 by simp; omega)]
  · rw [take_more hb, pall_snoc, h.st, hx]

/-- What holds at the head of each round of the second loop. -/
structure SInv (w W : World) (tv : Value) (g gl : Nat) (bs : List Br) (ps : List Pr) (n j : Nat) (s : SS) : Prop where
  box0 : W.cell? ⟨w.heap.size, 0, none⟩ = some tv
  below : Below w.heap.size w W
  low : w.heap.size + 2 ≤ g ∧ g < gl ∧ gl + 1 < W.heap.size
  prow : W.rowIs g 65 (n * 2) (prVal ps)
  lrow : W.rowIs gl 3 n (fun q => .int .i64 (s.l.getD q 0))
  arow : W.rowIs (gl + 1) 3 n (fun q => .int .i64 (s.above.getD q 0))
  ok : s.Ok n
  pass : spass bs ps j s = spass bs ps n ⟨List.replicate n 0, List.replicate n 0⟩

theorem SInv.next {w W W' : World} {tv : Value} {g gl : Nat} {bs : List Br} {ps : List Pr} {n j : Nat} {s : SS} (h : SInv w W tv g gl bs ps n j s) (hW : Below W.heap.size W W') : SInv w W' tv g gl bs ps n j s := by
  have hl := h.low
  have hs := hW.size
  exact ⟨cell_below hW (by omega) h.box0, Below.then h.below (by omega) hW, ⟨hl.1, hl.2.1, by omega⟩, h.prow.of_block (hW.block _ h.prow.lt), h.lrow.of_block (hW.block _ h.lrow.lt), h.arow.of_block (hW.block _ h.arow.lt), h.ok, h.pass⟩

theorem getD_set (l : List Int) (i : Nat) (x : Int) (hi : i < l.length) (q : Nat) : (l.set i x).getD q 0 = if q = i then x else l.getD q 0 := by
  rw [List.getD_eq_getElem?_getD, List.getD_eq_getElem?_getD, List.getElem?_set]
  by_cases h : q = i
  · subst h; simp [hi]
  · rw [if_neg (fun e => h e.symm), if_neg h]

/-- A leaf's round. -/
theorem SInv.leaf {w W W' : World} {tv : Value} {g gl : Nat} {bs : List Br} {ps : List Pr} {n k : Nat} {s : SS} {st : Int} (h : SInv w W tv g gl bs ps n (k + 1) s) (hk : k < n) (hs : sstep bs ps k s = ⟨s.l.set k st, s.above⟩)
    (hW : Below W.heap.size (W.setCell ⟨gl, k, none⟩ (.int .i64 st)) W') : SInv w W' tv g gl bs ps n k ⟨s.l.set k st, s.above⟩ := by
  have hl := h.low
  have hok := h.ok.step bs ps k
  rw [hs] at hok
  have hne : ∀ b', b' ≠ gl → (W.setCell ⟨gl, k, none⟩ (.int .i64 st)).heap[b']? = W.heap[b']? := fun b' hb => Below.heap_setCell _ _ _ _ hb
  have h1 : SInv w (W.setCell ⟨gl, k, none⟩ (.int .i64 st)) tv g gl bs ps n k ⟨s.l.set k st, s.above⟩ := by
    refine ⟨(World.cell?_of_block (a := ⟨w.heap.size, 0, none⟩) (hne _ (by show w.heap.size ≠ gl; omega))).trans h.box0, below_set h.below (by omega) _ _, ⟨hl.1, hl.2.1, by simpa using hl.2.2⟩, h.prow.of_block (hne _ (by omega)), (h.lrow.set k _).congr (fun q hq => ?_), h.arow.of_block (hne _ (by omega)), hok, ?_⟩
    · simp only []
      rw [getD_set _ _ _ (by rw [h.ok.len]; exact hk)]
      split <;> rfl
    · rw [← h.pass, spass, hs]
  exact h1.next (by simpa using hW)

/-- A fork's round. -/
theorem SInv.fork {w W W' : World} {tv : Value} {g gl : Nat} {bs : List Br} {ps : List Pr} {n k a b : Nat} {s : SS} {st : Int} (h : SInv w W tv g gl bs ps n (k + 1) s) (hk : k < n) (ha : a < n) (hb : b < n) (hs : sstep bs ps k s = ⟨s.l.set k st, (s.above.set a st).set b st⟩)
    (hW : Below W.heap.size (W.setCell ⟨gl, k, none⟩ (.int .i64 st)) W') : SInv w ((W'.setCell ⟨gl + 1, a, none⟩ (.int .i64 st)).setCell ⟨gl + 1, b, none⟩ (.int .i64 st)) tv g gl bs ps n k ⟨s.l.set k st, (s.above.set a st).set b st⟩ := by
  have hl := h.low
  have hok := h.ok.step bs ps k
  rw [hs] at hok
  have hz := hW.size
  simp at hz
  have hne0 : ∀ b', b' ≠ gl → (W.setCell ⟨gl, k, none⟩ (.int .i64 st)).heap[b']? = W.heap[b']? := fun b' hb => Below.heap_setCell _ _ _ _ hb
  have hne1 : ∀ b', b' < W.heap.size → b' ≠ gl → W'.heap[b']? = W.heap[b']? := fun b' hb hn => (hW.block b' hb).trans (hne0 b' hn)
  have hne : ∀ b', b' < W.heap.size → b' ≠ gl → b' ≠ gl + 1 → ((W'.setCell ⟨gl + 1, a, none⟩ (.int .i64 st)).setCell ⟨gl + 1, b, none⟩ (.int .i64 st)).heap[b']? = W.heap[b']? := by
    intro b' hb hn hn2
    rw [Below.heap_setCell _ _ _ _ hn2, Below.heap_setCell _ _ _ _ hn2]
    exact hne1 b' hb hn
  have hb' : Below w.heap.size w W' := Below.trans (below_set h.below (by omega : w.heap.size ≤ gl) k (.int .i64 st)) (hW.mono (by omega))
  refine ⟨(World.cell?_of_block (a := ⟨w.heap.size, 0, none⟩) (hne _ (by show w.heap.size < _; omega) (by show w.heap.size ≠ _; omega) (by show w.heap.size ≠ _; omega))).trans h.box0, below_set (below_set hb' (by omega) _ _) (by omega) _ _, ⟨hl.1, hl.2.1, by simp; omega⟩,
    h.prow.of_block (hne _ (by omega) (by omega) (by omega)), ?_, ?_, hok, by rw [← h.pass, spass, hs]⟩
  · have h2 : W'.rowIs gl 3 n (fun q => .int .i64 ((s.l.set k st).getD q 0)) := by
      refine ((h.lrow.set k (.int .i64 st)).of_block (hW.block _ (by omega))).congr (fun q hq => ?_)
      try simp only []
      rw [getD_set _ _ _ (by rw [h.ok.len]; exact hk)]
      split <;> rfl
    refine h2.of_block ?_
    rw [Below.heap_setCell _ _ _ _ (by show gl ≠ gl + 1; omega), Below.heap_setCell _ _ _ _ (by show gl ≠ gl + 1; omega)]
  · have h2 : W'.rowIs (gl + 1) 3 n (fun q => .int .i64 (s.above.getD q 0)) := h.arow.of_block (hne1 _ (by omega) (by omega))
    refine ((h2.set a _).set b _).congr (fun q hq => ?_)
    try simp only []
    rw [getD_set _ _ _ (by simp [h.ok.alen]; exact hb), getD_set _ _ _ (by rw [h.ok.alen]; exact ha)]
    split
    · rfl
    · split <;> rfl

theorem pow_wrap (x : Int) (h0 : 0 ≤ x) (h1 : x < 12) : IntKind.u64.wrap (2 ^ x.toNat) = ((2 ^ x.toNat : Nat) : Int) := by
  have h := wrap_pow x h0 h1
  unfold leafSet at h
  rw [if_pos h0] at h
  exact h

/-- What fitch.States leaves where nothing is wrong. -/
def RetInts (w : World) (n : Nat) (l : List Int) (e : Ending) (w' : World) : Prop :=
  ∃ g, e = .returned (.tuple #[.slice (some ⟨g, 0, none⟩) n n, .int .i64 0]) ∧ w'.rowIs g 3 n (fun j => .int .i64 (l.getD j 0)) ∧ l.length = n ∧ Below w.heap.size w w'

set_option maxHeartbeats 4000000 in
theorem states_calls (A : Option Addr) (n c : Nat) (bs : List Br) (A2 : Option Addr) (n2 c2 : Nat) (rows : List (List Int)) (site : Int) (w : World) (h : TM w A n bs A2 n2 rows) (ht : Tz w) (he : siteErr bs rows site = 0) :
    Calls Tryd.prog 15 #[.agg #[.slice A n c], .agg #[.slice A2 n2 c2], .int .i64 site] w (RetInts w n (statesOf rows site.toNat bs)) := by
  obtain ⟨hm, htr, hs0, hs1⟩ := siteErr_zero he
  have hE : errBoth bs rows = 0 := by unfold errBoth okTree; rw [if_pos hm, if_pos htr]
  have HE : Hid (errBoth bs rows = 0) := hE
  have H := Lib.hid h
  have HT := Lib.hid ht
  have hlen := H.out.len
  have hl := H.out.rlen
  have hf := matOk_few' hm
  have hn : n ≤ 23 ∧ 0 < n := by
    obtain ⟨l, hl'⟩ := Option.isSome_iff_exists.1 htr
    have h1 := (rdTree_some hl').2.2.1
    have h2 := (rdTree_some hl').1
    omega
  have HM := Lib.hid (fun (W : World) (hb : Below w.heap.size w W) => both_calls A n c bs A2 n2 c2 rows W (h.below hb))
  have HW := Lib.hid (fun (W : World) (hb : Below w.heap.size w W) => wrong_calls A2 n2 c2 rows site W (H.out.below hb).mat hl (by omega))
  rw [decide_eq_false (by omega)] at HW
  obtain ⟨hn1, hn0⟩ := hn
  have HMAT := Lib.hid hm
  have HBR := Lib.hid (brOk_of htr)
  have HS : Hid (site.toNat < wid rows) := by show site.toNat < wid rows; omega
  have HL := Lib.hid hl
  have HN := Lib.hid hlen
  clear h ht he hm htr hE hf hl hlen hs1
  obtain ⟨ip, hip, hz0, hz1, hz2⟩ := info_parts info_price
  have hmk := run_make_row' (P := Tryd.prog) 32 3 (.int .i64 0) 8 Tryd.underlying32 info_int rfl .i64 .i64 n (by omega) (by omega)
  go_enter Tryd.func15, Tryd.ntmps15
  go_wp2_with fail
  refine (HM.out _ (two_below _ _ _ _ _)).mono ?_
  rintro e w1 ⟨he, hb1⟩
  rw [HE.out] at he
  subst he
  obtain ⟨HB, hz, c0, c1⟩ := two_boxes hb1
  clear hb1
  go_wp2_with fail
  refine (HW.out _ HB.out).mono ?_
  rintro e w2 ⟨rfl, hb2⟩
  have c0 := cell_below hb2 (by omega) c0
  have c1 := cell_below hb2 hz c1
  have hz3 := Nat.lt_of_lt_of_le hz hb2.size
  have HB2 := Lib.hid (Below.then HB.out HB.out.size hb2)
  clear hb2
  go_wp2_with (at_make; refine wpList_make_full _ rfl _ _ 61 rfl w2.heap.size 65 ip _ 2 Tryd.underlying61 hip hz0 hz1 .i64 .i64 _ _ n rfl rfl rfl rfl (by rw [hz2]; omega) (by simp only [maxLen]; omega) (Nat.le_refl _) ?_; intro w3 ho3 hg3; have c0 := hg3.cell c0 (by simp); have c1 := hg3.cell c1 (by simp))
  have HP : Hid (PInv w w3 (.slice A n c) (.slice A2 n2 c2) w2.heap.size rows site.toNat bs n 0 []) :=
    ⟨c0, c1, HB2.out.grown hg3 HB2.out.size (by simp), by omega, row_of_own ho3, rfl, rfl, by simp⟩
  obtain ⟨g, hg⟩ : ∃ g, w2.heap.size = g := ⟨_, rfl⟩
  rw [hg] at HP
  simp only [hg]
  clear hg hg3 ho3 hip hz0 hz1 hz2
  go_loopg [37] n (fun gk v37 wr => ∃ (k : Nat) (ps : List Pr), v37 = .int .i64 k ∧ k ≤ n ∧ Hid (gk + k = n) ∧ PInv w wr (.slice A n c) (.slice A2 n2 c2) g rows site.toNat bs n k ps)
  case atStart => exact ⟨0, [], rfl, Nat.zero_le _, rfl, HP.out⟩
  case round =>
    obtain ⟨k, ps, rfl, hk, HG, HI⟩ := hrel
    clear HP c0 c1 
    have hlow := HI.low
    have hglt := HI.row.lt
    have c0 := HI.box0
    have c1 := HI.box1
    have hq0 : w.heap.size < wr.heap.size := by omega
    have hq1 : w.heap.size + 1 < wr.heap.size := by omega
    by_cases hkn : k < n
    · clear hmk
      have hkx : k < bs.length := by have := HN.out; omega
      obtain ⟨ad, rfl, d0, d1, d2⟩ := (H.out.below HI.below).tree k bs[k] (by simp [hkx])
      generalize hx : bs[k] = x at *
      have HXK : Hid (bs[k]? = some x) := by show bs[k]? = some x; rw [List.getElem?_eq_getElem hkx, hx]
      have HO := Lib.hid (HBR.out k x HXK.out)
      clear hx
      have r0 := HI.row.cell (i := k * 2) (by omega)
      have r1 := HI.row.frozen (k * 2)
      have r2 := HI.row.cell (i := k * 2 + 1) (by omega)
      have r3 := HI.row.frozen (k * 2 + 1)
      unfold prVal at r0 r2
      by_cases hab : x.a = x.b
      · have f0 : (x.a == x.b) = true := by simpa using hab
        obtain ⟨q0, q1⟩ : 0 ≤ x.leaf ∧ x.leaf < rows.length := by
          rcases HO.out with h | h
          · exact ⟨h.2.2.1, h.2.2.2⟩
          · exact absurd hab h.2.1
        obtain ⟨r, hrow, hst, -, hst2⟩ := matOk_at HMAT.out q0 q1 HS.out
        have HF : Hid (pstep rows site.toNat ps x = ps ++ [⟨leafSet (stateAt rows site.toNat x.leaf), 0⟩]) := by
          show pstep rows site.toNat ps x = _
          unfold pstep
          rw [if_pos hab]
        have HC := Lib.hid (fun (W : World) (h : Below w.heap.size w W) => fleaf_calls A2 n2 c2 rows x site r _ W (H.out.below h).mat HL.out q0 hrow hs0 hst hst2)
        have HQ : Hid (x.a = x.b → 0 ≤ x.leaf ∧ x.leaf < rows.length) := fun _ => ⟨q0, q1⟩
        have HQ2 : Hid (x.a ≠ x.b → x.a.toNat < k ∧ x.b.toNat < k) := fun h => absurd hab h
        clear hab hrow hst q0 q1
        go_wp2_with fail
        refine (HC.out _ (HI.below.alloc (by omega) _)).mono ?_
        rintro e w4 ⟨rfl, hb4⟩
        have hb := Below.trans (below_alloc wr _) (hb4.mono (by simp))
        have HMID := Lib.hid (HI.mid.next hb)
        have r0 := cell_below hb hglt r0
        have r1 := frozen_below hb hglt r1
        have r2 := cell_below hb hglt r2
        have r3 := frozen_below hb hglt r3
        clear hb hb4 c0 c1 d0 d1 d2
        go_wp2_with fail
        go_roundg (gk - 1)
        case measure => have := HG.out; omega
        case rel => exact ⟨k + 1, ps ++ [⟨leafSet (stateAt rows site.toNat x.leaf), 0⟩], by go_num, by omega, by have := HG.out; show gk - 1 + (k + 1) = n; omega, HI.next HXK.out HMAT.out HS.out HQ.out HQ2.out HMID.out HF.out rfl rfl⟩
      · have f0 : (x.a == x.b) = false := by simpa using hab
        obtain ⟨p0, p1, p2, p3⟩ : 0 ≤ x.a ∧ x.a < k ∧ 0 ≤ x.b ∧ x.b < k := by
          rcases HO.out with h | h
          · exact absurd (h.1.trans h.2.1.symm) hab
          · exact h.2.2
        have ra := HI.row.cell (i := x.a.toNat * 2) (by omega)
        have rb := HI.row.cell (i := x.b.toNat * 2) (by omega)
        rw [prVal_lo] at ra rb
        have oka : (ps.getD x.a.toNat ⟨0, 0⟩).Ok := by
          have := HI.len
          rw [List.getD_eq_getElem?_getD, List.getElem?_eq_getElem (by omega)]
          exact HI.ok _ (List.getElem_mem _)
        have okb : (ps.getD x.b.toNat ⟨0, 0⟩).Ok := by
          have := HI.len
          rw [List.getD_eq_getElem?_getD, List.getElem?_eq_getElem (by omega)]
          exact HI.ok _ (List.getElem_mem _)
        obtain ⟨sa, hsa⟩ : ∃ sa, (ps.getD x.a.toNat ⟨0, 0⟩).lo = sa := ⟨_, rfl⟩
        obtain ⟨sb, hsb⟩ : ∃ sb, (ps.getD x.b.toNat ⟨0, 0⟩).lo = sb := ⟨_, rfl⟩
        have la : sa < 4096 := by rw [← hsa]; exact oka.2.1
        have lb : sb < 4096 := by rw [← hsb]; exact okb.2.1
        rw [hsa] at ra
        rw [hsb] at rb
        have eand := bits_and_nat sa sb la lb
        have eor := bits_or_nat sa sb la lb
        have exor := bits_xor_nat sa sb la lb
        have enot := bits_andNot_nat (sa ||| sb) (Nat.or_lt_two_pow (n := 12) la lb)
        have HF : Hid (pstep rows site.toNat ps x = if sa &&& sb = 0 then ps ++ [⟨sa ||| sb, 4095 ^^^ (sa ||| sb)⟩] else ps ++ [⟨sa &&& sb, sa ^^^ sb⟩]) := by
          show pstep rows site.toNat ps x = _
          unfold pstep
          rw [if_neg hab, hsa, hsb]
        have HQ : Hid (x.a = x.b → 0 ≤ x.leaf ∧ x.leaf < rows.length) := fun h => absurd h hab
        have HQ2 : Hid (x.a ≠ x.b → x.a.toNat < k ∧ x.b.toNat < k) := fun _ => ⟨by omega, by omega⟩
        obtain ⟨sd, hsd⟩ : ∃ sd, sa &&& sb = sd := ⟨_, rfl⟩
        obtain ⟨so, hso⟩ : ∃ so, sa ||| sb = so := ⟨_, rfl⟩
        obtain ⟨sx, hsx⟩ : ∃ sx, sa ^^^ sb = sx := ⟨_, rfl⟩
        obtain ⟨sn, hsn⟩ : ∃ sn, 4095 ^^^ (sa ||| sb) = sn := ⟨_, rfl⟩
        rw [hsn, hso] at enot
        rw [hsd] at eand
        rw [hso] at eor
        rw [hsx] at exor
        rw [hsd, hsn, hso, hsx] at HF
        have q1 := new_cell wr #[.int .i64 x.leaf, .int .i64 x.a, .int .i64 x.b] 50 1
        have q2 := new_cell wr #[.int .i64 x.leaf, .int .i64 x.a, .int .i64 x.b] 50 2
        have hb1 := below_alloc wr (.cells #[.int .i64 x.leaf, .int .i64 x.a, .int .i64 x.b] 50)
        have ra := cell_below hb1 hglt ra
        have rb := cell_below hb1 hglt rb
        have r0 := cell_below hb1 hglt r0
        have r1 := frozen_below hb1 hglt r1
        have r2 := cell_below hb1 hglt r2
        have r3 := frozen_below hb1 hglt r3
        have HB := Lib.hid (HI.mid.next hb1)
        clear hb1 hsa hsb hab hsd hso hsx hsn la lb oka okb
        by_cases hz : sd = 0
        all_goals
          first
            | (have g0 : ((sd : Int) != 0) = false := by rw [bne_eq_false_iff_eq]; omega)
            | (have g0 : ((sd : Int) != 0) = true := by rw [bne_iff_ne]; omega)
          have HZ := Lib.hid hz
          clear hz
          go_wp2_with fail
          generalize wr.alloc (.cells #[.int .i64 x.leaf, .int .i64 x.a, .int .i64 x.b] 50) = W2 at *
          have p4 : x.a < (n : Int) := by omega
          have p5 : x.b < (n : Int) := by omega
          have p6 : (k : Int) < (n : Int) := by omega
          go_quiet (fail)
          go_wp2_with fail
          go_roundg (gk - 1)
          case measure => have := HG.out; omega
          case rel =>
            have hf := HF.out
            first
              | rw [if_pos HZ.out] at hf
              | rw [if_neg HZ.out] at hf
            exact ⟨k + 1, _, by go_num, by omega, by have := HG.out; show gk - 1 + (k + 1) = n; omega, HI.next HXK.out HMAT.out HS.out HQ.out HQ2.out (HB.out.next (below_drewN _ _)) hf rfl rfl⟩
    · have hkn' : k = n := by omega
      have HPS : Hid (pall rows site.toNat bs = ps) := by
        have h := HI.st
        rw [List.take_of_length_le (by have := HN.out; omega)] at h
        exact h
      have HPO := Lib.hid HI.ok
      have HPL : Hid (ps.length = n) := by
        show ps.length = n
        rw [HI.len, hkn']
      have HS0 : Hid (SInv w ((wr.alloc (.cells (madeCells #[.int .i64 0] n) 3)).alloc (.cells (madeCells #[.int .i64 0] n) 3)) (.slice A n c) g wr.heap.size bs ps n n ⟨List.replicate n 0, List.replicate n 0⟩) := by
        have hb := Below.trans (below_alloc wr (.cells (madeCells #[.int .i64 0] n) 3)) ((below_alloc (wr.alloc (.cells (madeCells #[.int .i64 0] n) 3)) (.cells (madeCells #[.int .i64 0] n) 3)).mono (by simp))
        have hm := HI.mid.next hb
        have h1 := (World.rowIs_made wr (.int .i64 0) n 3).alloc (.cells (madeCells #[.int .i64 0] n) 3)
        have h2 := World.rowIs_made (wr.alloc (.cells (madeCells #[.int .i64 0] n) 3)) (.int .i64 0) n 3
        rw [World.size_alloc] at h2
        refine ⟨hm.box0, hm.below, ⟨hlow, hglt, by simp⟩, hm.row, h1.congr ?_, h2.congr ?_, SS.Ok.start n, rfl⟩
        all_goals
          intro q hq
          simp [List.getD_eq_getElem?_getD, hq]
      obtain ⟨wo, rfl⟩ : ∃ wo : World, wo = wr := ⟨_, rfl⟩
      clear hkn' HI hk HG
      go_wp2_with fail
      clear hkn
      go_loopg [16] n (fun gk v16 wq => ∃ (i : Int) (j : Nat) (s : SS), v16 = .int .i64 i ∧ Hid (i + 1 = (j : Int)) ∧ j ≤ n ∧ Hid (gk = j) ∧ SInv w wq (.slice A n c) g wo.heap.size bs ps n j s)
      case atStart => exact ⟨(n : Int) - 1, n, _, rfl, by show (n : Int) - 1 + 1 = n; omega, Nat.le_refl _, rfl, HS0.out⟩
      case round =>
        clear HS0 hmk
        obtain ⟨i, j, s, rfl, HJ, hj, HG, HI⟩ := hrel
        clear c0 c1 hq0 hq1 hglt HM HW HB HB2 hz hz3 HE
        rename_i c0' c1' _ _ _ _
        have hlw := HI.low
        have k0 := HI.box0
        have m0 : w.heap.size < wr.heap.size := by omega
        have m1 : g < wr.heap.size := by omega
        have m2 : wo.heap.size < wr.heap.size := by omega
        have m3 : wo.heap.size + 1 < wr.heap.size := by omega
        by_cases hi : 0 ≤ i
        · obtain ⟨k, rfl⟩ : ∃ k : Nat, i = (k : Int) := ⟨i.toNat, by omega⟩
          obtain rfl : j = k + 1 := by have := HJ.out; omega
          have hkn : k < n := by omega
          have r0 := HI.prow.cell (i := k * 2) (by omega)
          have r2 := HI.prow.cell (i := k * 2 + 1) (by omega)
          rw [prVal_lo] at r0
          rw [prVal_hi] at r2
          have okp : (ps.getD k ⟨0, 0⟩).Ok := by
            have := HPL.out
            rw [List.getD_eq_getElem?_getD, List.getElem?_eq_getElem (by omega)]
            exact HPO.out _ (List.getElem_mem _)
          have ru := HI.arow.cell (i := k) hkn
          obtain ⟨u0, u1⟩ := HI.ok.at k
          have rl := HI.lrow.cell (i := k) hkn
          have rf := HI.lrow.frozen k
          obtain ⟨p, hp⟩ : ∃ p, ps.getD k ⟨0, 0⟩ = p := ⟨_, rfl⟩
          obtain ⟨up, hup⟩ : ∃ up, s.above.getD k 0 = up := ⟨_, rfl⟩
          rw [hp] at r0 r2 okp
          rw [hup] at ru u0 u1
          obtain ⟨lo, hlo⟩ : ∃ lo, p.lo = lo := ⟨_, rfl⟩
          obtain ⟨hh, hhh⟩ : ∃ hh, p.hi = hh := ⟨_, rfl⟩
          obtain ⟨wy, hwy⟩ : ∃ wy, ways p (decide (k + 1 = bs.length)) up.toNat = wy := ⟨_, rfl⟩
          have wok := ways_ok okp (decide (k + 1 = bs.length)) up.toNat (by omega)
          rw [hwy] at wok
          have l0 := okp.2.1
          have l1 := okp.2.2
          rw [hlo] at r0 l0
          rw [hhh] at r2 l1
          have hpw := pow_wrap up u0 u1
          have hp12 : 2 ^ up.toNat < 4096 := Nat.pow_lt_pow_right (by decide) (show up.toNat < 12 by omega)
          obtain ⟨ow, how⟩ : ∃ ow, 2 ^ up.toNat = ow := ⟨_, rfl⟩
          have HOW : Hid (2 ^ up.toNat = ow) := how
          rw [how] at hpw hp12
          have ea := bits_and_nat lo ow l0 hp12
          have eh := bits_and_nat hh ow l1 hp12
          have eo := bits_or_nat lo ow l0 hp12
          obtain ⟨al, hal⟩ : ∃ al, lo &&& ow = al := ⟨_, rfl⟩
          obtain ⟨ah, hah⟩ : ∃ ah, hh &&& ow = ah := ⟨_, rfl⟩
          obtain ⟨ol, hol⟩ : ∃ ol, lo ||| ow = ol := ⟨_, rfl⟩
          rw [hal] at ea
          rw [hah] at eh
          rw [hol] at eo
          have HWY : Hid (wy = if k + 1 = n then lo else if al ≠ 0 then ow else if ah ≠ 0 then ol else lo) := by
            show wy = _
            rw [← hwy]
            unfold ways
            rw [HN.out, hlo, hhh, how, hal, hah, hol]
            simp only [decide_eq_true_eq]
          have HST : Hid (sstep bs ps k s = (if (bs.getD k ⟨0, 0, 0⟩).a = (bs.getD k ⟨0, 0, 0⟩).b then ⟨s.l.set k (low wy : Int), s.above⟩ else ⟨s.l.set k (low wy : Int), (s.above.set (bs.getD k ⟨0, 0, 0⟩).a.toNat (low wy : Int)).set (bs.getD k ⟨0, 0, 0⟩).b.toNat (low wy : Int)⟩)) := by
            show sstep bs ps k s = _
            unfold sstep
            simp only []
            rw [hp, hup, hwy]
          clear hlo hhh hwy hp hup hol hah hal how okp l0 l1 hp12
          go_upto_if 117 with (fail)
          go_cut [18] (fun v18 wc => v18 = .int .u64 (wy : Int) ∧ wc = wr.alloc (.cells #[.int .u64 (lo : Int), .int .u64 (hh : Int)] 65))
          case first =>
            by_cases hroot : k + 1 = n
            · have t0 : ¬ ((k : Int) < (n : Int) - 1) := by omega
              obtain rfl : wy = lo := by rw [HWY.out, if_pos hroot]
              clear hroot
              go_wp2_with fail
              go_meet
              exact ⟨rfl, rfl⟩
            · have t0 : (k : Int) < (n : Int) - 1 := by omega
              by_cases h1 : al = 0
              · have t1 : ((al : Int) != 0) = false := by rw [bne_eq_false_iff_eq]; omega
                by_cases h2 : ah = 0
                · have t2 : ((ah : Int) != 0) = false := by rw [bne_eq_false_iff_eq]; omega
                  obtain rfl : wy = lo := by rw [HWY.out, if_neg hroot, if_neg (by simpa using h1), if_neg (by simpa using h2)]
                  clear hroot h1 h2
                  go_wp2_with fail
                  go_meet
                  exact ⟨rfl, rfl⟩
                · have t2 : ((ah : Int) != 0) = true := by rw [bne_iff_ne]; omega
                  obtain rfl : wy = ol := by rw [HWY.out, if_neg hroot, if_neg (by simpa using h1), if_pos h2]
                  clear hroot h1 h2
                  go_wp2_with fail
                  go_meet
                  exact ⟨rfl, rfl⟩
              · have t1 : ((al : Int) != 0) = true := by rw [bne_iff_ne]; omega
                obtain rfl : wy = ow := by rw [HWY.out, if_neg hroot, if_pos h1]
                clear hroot h1
                go_wp2_with fail
                go_meet
                exact ⟨rfl, rfl⟩
          case rest =>
            obtain ⟨rfl, rfl⟩ := hcut
            clear HWY HOW ea eh eo hpw ru r0 r2 u0 u1
            have HTZ := Lib.hid (tz_calls wy (wr.alloc (.cells #[.int .u64 (lo : Int), .int .u64 (hh : Int)] 65)) wok.1 wok.2 ((HT.out.below HI.below).below (below_alloc _ _)))
            clear wok
            go_upto_region 31 with (go_at_call 30; refine HTZ.out.mono ?_; rintro e w' ⟨rfl, rfl⟩)
            have hb5 : Below wr.heap.size (wr.setCell ⟨wo.heap.size, k, none⟩ (.int .i64 (low wy : Int))) ((wr.setCell ⟨wo.heap.size, k, none⟩ (.int .i64 (low wy : Int))).alloc (.cells #[.int .u64 (lo : Int), .int .u64 (hh : Int)] 65)) := (below_alloc _ _).mono (by simp)
            have S5 : Below w.heap.size w ((wr.setCell ⟨wo.heap.size, k, none⟩ (.int .i64 (low wy : Int))).alloc (.cells #[.int .u64 (lo : Int), .int .u64 (hh : Int)] 65)) := Below.trans (below_set HI.below (by omega) _ _) (hb5.mono (by omega))
            have hz5 : wr.heap.size + 1 = ((wr.setCell ⟨wo.heap.size, k, none⟩ (.int .i64 (low wy : Int))).alloc (.cells #[.int .u64 (lo : Int), .int .u64 (hh : Int)] 65)).heap.size := by simp
            have hkx : k < bs.length := by have := HN.out; omega
            obtain ⟨ad, rfl, d0, d1, d2⟩ := (H.out.below S5).tree k bs[k] (by simp [hkx])
            generalize hx : bs[k] = x at *
            have HXK : Hid (bs[k]? = some x) := by show bs[k]? = some x; rw [List.getElem?_eq_getElem hkx, hx]
            have HO := Lib.hid (HBR.out k x HXK.out)
            have HG2 : Hid (bs.getD k ⟨0, 0, 0⟩ = x) := by show bs.getD k ⟨0, 0, 0⟩ = x; rw [List.getD_eq_getElem?_getD, HXK.out]; rfl
            have v0 := cell_below hb5 m0 (set_cell_ne (u := .int .i64 (low wy : Int)) (.inl (by omega : wo.heap.size ≠ w.heap.size)) k0)
            have vl := cell_below hb5 m2 (set_cell_eq rl (.int .i64 (low wy : Int)))
            have va : ∀ q : Nat, q < n → ((wr.setCell ⟨wo.heap.size, k, none⟩ (.int .i64 (low wy : Int))).alloc (.cells #[.int .u64 (lo : Int), .int .u64 (hh : Int)] 65)).cell? ⟨wo.heap.size + 1, q, none⟩ = some (.int .i64 (s.above.getD q 0)) := fun q hq =>
              cell_below hb5 m3 (set_cell_ne (.inl (by omega : wo.heap.size ≠ wo.heap.size + 1)) (HI.arow.cell hq))
            have vf : ∀ q : Nat, ((wr.setCell ⟨wo.heap.size, k, none⟩ (.int .i64 (low wy : Int))).alloc (.cells #[.int .u64 (lo : Int), .int .u64 (hh : Int)] 65)).frozen? ⟨wo.heap.size + 1, q, none⟩ = false := fun q =>
              frozen_below hb5 m3 ((frozen_set _ _ _ _).trans (HI.arow.frozen q))
            have HB5 := Lib.hid hb5
            have HA := Lib.hid va
            have HAF := Lib.hid vf
            clear hx S5 hb5 va vf rl rf k0
            generalize (wr.setCell ⟨wo.heap.size, k, none⟩ (.int .i64 (low wy : Int))).alloc (.cells #[.int .u64 (lo : Int), .int .u64 (hh : Int)] 65) = W5 at *
            have n0 : w.heap.size < W5.heap.size := by omega
            have n2 : wo.heap.size < W5.heap.size := by omega
            have n3 : wo.heap.size + 1 < W5.heap.size := by omega
            have HZ5 := Lib.hid hz5
            clear hz5
            have p6 : (k : Int) < (n : Int) := by omega
            by_cases hab : x.a = x.b
            · have f0 : (x.a != x.b) = false := by rw [bne_eq_false_iff_eq]; exact hab
              have HE : Hid (sstep bs ps k s = ⟨s.l.set k (low wy : Int), s.above⟩) := by
                show sstep bs ps k s = _
                rw [HST.out, HG2.out, if_pos hab]
              clear hab HST
              go_wp2_with fail
              go_roundg (gk - 1)
              case measure => have := HG.out; omega
              case rel => exact ⟨(k : Int) - 1, k, _, by go_num, by show (k : Int) - 1 + 1 = k; omega, by omega, by have := HG.out; show gk - 1 = k; omega, HI.leaf hkn HE.out (Below.trans HB5.out ((below_alloc _ _).mono (by have := HZ5.out; omega)))⟩
            · have f0 : (x.a != x.b) = true := by rw [bne_iff_ne]; exact hab
              obtain ⟨p0, p1, p2, p3⟩ : 0 ≤ x.a ∧ x.a < k ∧ 0 ≤ x.b ∧ x.b < k := by
                rcases HO.out with h | h
                · exact absurd (h.1.trans h.2.1.symm) hab
                · exact h.2.2
              have HE : Hid (sstep bs ps k s = ⟨s.l.set k (low wy : Int), (s.above.set x.a.toNat (low wy : Int)).set x.b.toNat (low wy : Int)⟩) := by
                show sstep bs ps k s = _
                rw [HST.out, HG2.out, if_neg hab]
              have q1 := new_cell W5 #[.int .i64 x.leaf, .int .i64 x.a, .int .i64 x.b] 50 1
              have q2 := new_cell W5 #[.int .i64 x.leaf, .int .i64 x.a, .int .i64 x.b] 50 2
              have hb6 := below_alloc W5 (.cells #[.int .i64 x.leaf, .int .i64 x.a, .int .i64 x.b] 50)
              have ya := cell_below hb6 n3 (HA.out x.a.toNat (by omega))
              have yb := cell_below hb6 n3 (HA.out x.b.toNat (by omega))
              have za := frozen_below hb6 n3 (HAF.out x.a.toNat)
              have zb := frozen_below hb6 n3 (HAF.out x.b.toNat)
              have yl := cell_below hb6 n2 vl
              have HB6 := Lib.hid (Below.trans HB5.out (hb6.mono (by have := HZ5.out; omega)))
              have HNE : Hid (x.a ≠ x.b) := hab
              have hne : x.b.toNat ≠ x.a.toNat := by omega
              clear hab HST hb6
              go_wp2_with fail
              have p4 : x.a < (n : Int) := by omega
              have p5 : x.b < (n : Int) := by omega
              clear v0 d0 d1 d2 vl
              generalize W5.alloc (.cells #[.int .i64 x.leaf, .int .i64 x.a, .int .i64 x.b] 50) = W6 at *
              go_region
              go_wp2_with fail
              go_roundg (gk - 1)
              case measure => have := HG.out; omega
              case rel =>
                have hfk := HI.fork hkn (by omega) (by omega) HE.out (Below.trans HB6.out ((below_drewN W6 1).mono (by have := HB6.out.size; simp at this; omega)))
                exact ⟨(k : Int) - 1, k, _, by go_num, by show (k : Int) - 1 + 1 = k; omega, by omega, by have := HG.out; show gk - 1 = k; omega, hfk⟩
        · have hj0 : j = 0 := by have := HJ.out; omega
          subst hj0
          have HPA := Lib.hid HI.pass
          have HLR := Lib.hid HI.lrow
          have HOK := Lib.hid HI.ok
          have HBE := Lib.hid HI.below
          clear HI
          go_wp2_with fail
          go_ret2
          have he : statesOf rows site.toNat bs = s.l := by
            unfold statesOf
            rw [HPS.out, HN.out, ← HPA.out]
            rfl
          exact ⟨_, rfl, by rw [he]; exact HLR.out, by rw [he]; exact HOK.out.len, HBE.out⟩

set_option maxHeartbeats 400000 in
theorem states_bad (A : Option Addr) (n c : Nat) (bs : List Br) (A2 : Option Addr) (n2 c2 : Nat) (rows : List (List Int)) (site : Int) (w : World) (h : TM w A n bs A2 n2 rows) (he : siteErr bs rows site ≠ 0) :
    Calls Tryd.prog 15 #[.agg #[.slice A n c], .agg #[.slice A2 n2 c2], .int .i64 site] w fun e w' => e = .returned (.tuple #[.slice none 0 0, .int .i64 (siteErr bs rows site)]) ∧ Below w.heap.size w w' := by
  have H := Lib.hid h
  have HM := Lib.hid (fun (W : World) (hb : Below w.heap.size w W) => both_calls A n c bs A2 n2 c2 rows W (h.below hb))
  clear h
  by_cases h1 : errBoth bs rows = 0
  · obtain ⟨hm, ht⟩ := errBoth_zero h1
    have hf := matOk_few' hm
    have hl := H.out.rlen
    have HW := Lib.hid (fun (W : World) (hb : Below w.heap.size w W) => wrong_calls A2 n2 c2 rows site W (H.out.below hb).mat hl (by omega))
    have h2 : site < 0 ∨ (wid rows : Int) ≤ site := by
      refine Decidable.by_contra fun q => he ?_
      unfold siteErr
      rw [if_neg (by simpa using h1), if_neg q]
    have e1 : siteErr bs rows site = 2 := by unfold siteErr; rw [if_neg (by simpa using h1), if_pos h2]
    rw [e1]
    rw [decide_eq_true h2] at HW
    have HE : Hid (errBoth bs rows = 0) := h1
    clear h1 h2 e1 hm ht hf hl he
    go_enter Tryd.func15, Tryd.ntmps15
    go_wp2_with fail
    refine (HM.out _ (two_below _ _ _ _ _)).mono ?_
    rintro e w1 ⟨he, hb1⟩
    rw [HE.out] at he
    subst he
    obtain ⟨HB, hz, c0, c1⟩ := two_boxes hb1
    clear hb1
    go_wp2_with fail
    refine (HW.out _ HB.out).mono ?_
    rintro e w2 ⟨rfl, hb2⟩
    have HB2 := Lib.hid (Below.then HB.out HB.out.size hb2)
    clear hb2
    go_wp2_with fail
    go_ret2
    exact ⟨rfl, HB2.out⟩
  · have e1 : siteErr bs rows site = errBoth bs rows := by unfold siteErr; rw [if_pos h1]
    rw [e1]
    obtain ⟨er, her⟩ : ∃ er, errBoth bs rows = er := ⟨_, rfl⟩
    rw [her] at h1 ⊢
    have b1 : (er != 0) = true := by rw [bne_iff_ne]; exact h1
    have HE : Hid (errBoth bs rows = er) := her
    clear h1 e1 her he
    go_enter Tryd.func15, Tryd.ntmps15
    go_wp2_with fail
    refine (HM.out _ (two_below _ _ _ _ _)).mono ?_
    rintro e w1 ⟨he, hb1⟩
    rw [HE.out] at he
    subst he
    obtain ⟨HB, hz, c0, c1⟩ := two_boxes hb1
    clear hb1
    go_wp2_with fail
    go_ret2
    exact ⟨rfl, HB.out⟩
end Go.Proofs.YtbmlkomfelkckaaDoor
