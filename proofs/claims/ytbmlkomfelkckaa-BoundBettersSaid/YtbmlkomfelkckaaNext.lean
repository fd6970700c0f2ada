/- (bound.form).next: the best neighbour. -/
import Derived.Test.YtbmlkomfelkckaaNext1
import Derived.Outline
namespace Go.Proofs.Ytbmlkomfelkckaa
open Go Go.RowKit
set_option maxRecDepth 100000

theorem Tried.trans {w w1 w2 : World} {b6 b7 : Nat} (h : Tried w w1 b6 b7) (k : Tried w1 w2 b6 b7) : Tried w w2 b6 b7 :=
  ⟨h.below.trans k.below, fun a h1 h2 h3 => (k.cells a (Nat.lt_of_lt_of_le h1 h.below.size) h2 h3).trans (h.cells a h1 h2 h3)⟩

theorem Tried.of {w w1 : World} {b6 b7 : Nat} (h : Below w.heap.size w w1) (hb : b6 ≤ w.heap.size) : Tried w w1 b6 b7 := ⟨h.mono hb, fun _ h1 _ _ => h.cell h1⟩

theorem NextAt.lt {w : World} {cost : NT → Nat} {acc : Option NT} {b6 b7 : Nat} (h : NextAt w cost acc b6 b7) : b6 < w.heap.size ∧ b7 < w.heap.size := by
  cases acc with
  | none => exact ⟨(Array.getElem?_eq_some_iff.1 h.1).1, (Array.getElem?_eq_some_iff.1 h.2).1⟩
  | some B =>
    obtain ⟨g, c, h1, h2, _⟩ := h
    exact ⟨(Array.getElem?_eq_some_iff.1 h1).1, (Array.getElem?_eq_some_iff.1 h2).1⟩

theorem NextAt.below {w w' : World} {cost : NT → Nat} {acc : Option NT} {b6 b7 : Nat} (h : NextAt w cost acc b6 b7) (hb : Below w.heap.size w w') : NextAt w' cost acc b6 b7 := by
  obtain ⟨l6, l7⟩ := h.lt
  cases acc with
  | none => exact ⟨(hb.block b6 l6).trans h.1, (hb.block b7 l7).trans h.2⟩
  | some B =>
    obtain ⟨g, c, h1, h2, h3⟩ := h
    exact ⟨g, c, (hb.block b6 l6).trans h1, (hb.block b7 l7).trans h2, h3.below hb⟩

/-- A form is neither of the boxes. -/
theorem FAt.next {w : World} {g c b6 b7 : Nat} {xs : List Br} {cost : NT → Nat} {acc : Option NT} (h : FAt w g c xs) (k : NextAt w cost acc b6 b7) : g ≠ b6 ∧ g ≠ b7 := by
  cases acc with
  | none => exact ⟨h.box k.1, h.box k.2⟩
  | some B =>
    obtain ⟨_, _, h1, h2, _⟩ := k
    exact ⟨h.box h1, h.box h2⟩

theorem ix0 (W : World) (a b c d : Int) : Sem.run Try.prog (Instr.index 159 (.agg #[.int .i64 a, .int .i64 b, .int .i64 c, .int .i64 d]) (.int .i64 0)) W = .ok (.agg #[.int .i64 a, .int .i64 b]) W := by
  first | kernel_rfl | rfl
theorem ix1 (W : World) (a b c d : Int) : Sem.run Try.prog (Instr.index 159 (.agg #[.int .i64 a, .int .i64 b, .int .i64 c, .int .i64 d]) (.int .i64 1)) W = .ok (.agg #[.int .i64 c, .int .i64 d]) W := by
  first | kernel_rfl | rfl

theorem FAt.putj {w : World} {b g c : Nat} {xs : List Br} (h : FAt w g c xs) (hb : g ≠ b) (j : Nat) (u : Value) : FAt (w.setCell ⟨b, j, none⟩ u) g c xs :=
  ⟨h.cap, h.pos, by simpa using h.lt, h.top, fun j u hu => mem_ne (.inl hb) (h.cells j u hu)⟩

theorem box3 {W w5 : World} {t : TypeId} (h : Below (W.alloc (.cells #[.int .i64 0, .int .i64 0, .int .i64 0] t)).drew.heap.size (W.alloc (.cells #[.int .i64 0, .int .i64 0, .int .i64 0] t)).drew w5) :
    (w5.cell? ⟨W.heap.size, 0, none⟩ = some (.int .i64 0) ∧ w5.cell? ⟨W.heap.size, 1, none⟩ = some (.int .i64 0) ∧ w5.cell? ⟨W.heap.size, 2, none⟩ = some (.int .i64 0)) ∧
      w5.frozen? ⟨W.heap.size, 0, none⟩ = false ∧ w5.frozen? ⟨W.heap.size, 1, none⟩ = false ∧ w5.frozen? ⟨W.heap.size, 2, none⟩ = false := by
  have hd : Below (W.alloc (.cells #[.int .i64 0, .int .i64 0, .int .i64 0] t)).heap.size (W.alloc (.cells #[.int .i64 0, .int .i64 0, .int .i64 0] t)) w5 := Below.then (Below.refl _ _).drew (Nat.le_refl _) h
  exact ⟨⟨cell_below hd (by simp) (new_cell W _ t 0), cell_below hd (by simp) (new_cell W _ t 1), cell_below hd (by simp) (new_cell W _ t 2)⟩, frozen_below hd (by simp) (new_frozen W _ t 0), frozen_below hd (by simp) (new_frozen W _ t 1), frozen_below hd (by simp) (new_frozen W _ t 2)⟩

/-- What next leaves. -/
def RetNext (w : World) (T : NT) (rows : List (List Int)) (e : Ending) (w' : World) : Prop :=
  Below w.heap.size w w' ∧ match bestOf (fun T => sumNum (T.form 0) rows) (nbrsUp T T.size) with
    | none => e = .returned (.tuple #[.slice none 0 0, .int .i64 0])
    | some B => ∃ g c, e = .returned (.tuple #[.slice (some ⟨g, 0, none⟩) B.size c, .int .i64 (sumNum (B.form 0) rows : Int)]) ∧ FAt w' g c (B.form 0)

set_option maxHeartbeats 4000000 in
theorem next_calls (g c n n2 c2 : Nat) (A2 : Option Addr) (T : NT) (rows : List (List Int)) (w : World) (hT : T.On n) (hf : FAt w g c (T.form 0)) (hr : RdRows w A2 rows) (hn : rows.length = n2) (hcap : n2 ≤ 9223372036854775807) :
    Calls Try.prog 80 #[.slice (some ⟨g, 0, none⟩) T.size c, .slice A2 n2 c2] w (RetNext w T rows) := by
  have hzT := hT.size
  have hfew := hT.few
  have hpos := hT.pos
  have HON := Lib.hid hT
  obtain ⟨sz, hsz⟩ : ∃ sz, sz = T.size := ⟨_, rfl⟩
  have HSZ := Lib.hid hsz
  rw [← hsz] at hzT ⊢
  have hszI : (sz : Int) ≤ 23 := by omega
  have HF := Lib.hid hf
  have HR := Lib.hid hr
  have HN := Lib.hid hn
  have hszp : 0 < sz := by omega
  have b0 := below_alloc w (.cells #[.slice (some ⟨g, 0, none⟩) sz c] 123)
  have b1 := below_alloc (w.alloc (.cells #[.slice (some ⟨g, 0, none⟩) sz c] 123)) (.cells #[.slice A2 n2 c2] 34)
  have b2 := below_alloc ((w.alloc (.cells #[.slice (some ⟨g, 0, none⟩) sz c] 123)).alloc (.cells #[.slice A2 n2 c2] 34)) (.cells #[.slice none 0 0] 123)
  have b3 := below_alloc (((w.alloc (.cells #[.slice (some ⟨g, 0, none⟩) sz c] 123)).alloc (.cells #[.slice A2 n2 c2] 34)).alloc (.cells #[.slice none 0 0] 123)) (.cells #[.int .i64 0] 3)
  have e0 := cell_below b3 (by simp only [World.size_alloc]; omega) (cell_below b2 (by simp only [World.size_alloc]; omega) (cell_below b1 (by simp) (new_cell w #[.slice (some ⟨g, 0, none⟩) sz c] 123 0)))
  have e1 := cell_below b3 (by simp only [World.size_alloc]; omega) (cell_below b2 (by simp) (new_cell (w.alloc (.cells #[.slice (some ⟨g, 0, none⟩) sz c] 123)) #[.slice A2 n2 c2] 34 0))
  have HNX : Hid (NextAt ((((w.alloc (.cells #[.slice (some ⟨g, 0, none⟩) sz c] 123)).alloc (.cells #[.slice A2 n2 c2] 34)).alloc (.cells #[.slice none 0 0] 123)).alloc (.cells #[.int .i64 0] 3)) (fun T => sumNum (T.form 0) rows) none (w.heap.size + 2) (w.heap.size + 3)) := by
    refine ⟨(b3.block _ (by simp)).trans ?_, ?_⟩
    · have := heap_alloc_new ((w.alloc (.cells #[.slice (some ⟨g, 0, none⟩) sz c] 123)).alloc (.cells #[.slice A2 n2 c2] 34)) (.cells #[.slice none 0 0] 123)
      simpa using this
    · have := heap_alloc_new (((w.alloc (.cells #[.slice (some ⟨g, 0, none⟩) sz c] 123)).alloc (.cells #[.slice A2 n2 c2] 34)).alloc (.cells #[.slice none 0 0] 123)) (.cells #[.int .i64 0] 3)
      simpa using this
  have HB0 := Lib.hid (Below.then (Below.then (Below.then b0 b0.size b1) (by simp only [World.size_alloc]; omega) b2) (by simp only [World.size_alloc]; omega) b3)
  have hz : w.heap.size + 3 < ((((w.alloc (.cells #[.slice (some ⟨g, 0, none⟩) sz c] 123)).alloc (.cells #[.slice A2 n2 c2] 34)).alloc (.cells #[.slice none 0 0] 123)).alloc (.cells #[.int .i64 0] 3)).heap.size := by simp
  rw [World.size_alloc] at e1
  have HZT := Lib.hid hzT
  clear hT hf hr hn hsz b0 b1 b2 b3 hzT
  go_enter Try.func80, Try.ntmps80
  go_upto_region 5 with (fail)
  generalize (((w.alloc (.cells #[.slice (some ⟨g, 0, none⟩) sz c] 123)).alloc (.cells #[.slice A2 n2 c2] 34)).alloc (.cells #[.slice none 0 0] 123)).alloc (.cells #[.int .i64 0] 3) = W0 at *
  have f0 := e0
  have f1 := e1
  have HPART : Hid (∀ (q : Nat) (P : NT) (W : World), FAt W g c (T.form 0) → T.pieces[q]? = some P → Calls Try.prog 78 #[.slice (some ⟨g, 0, none⟩) sz c, .int .i64 (q : Int)] W fun e w' => ∃ g c, e = .returned (.slice (some ⟨g, 0, none⟩) P.size c) ∧ FAt w' g c (P.form 0) ∧ Below W.heap.size W w' ∧ W.heap.size ≤ g) := by
    refine Lib.hid fun q P W hf hP => ?_
    have := bpart_calls g c q T P W hf hP (by have := HSZ.out; omega) hf.top
    rw [← HSZ.out] at this
    exact this.mono fun e w' ⟨g, c, he, hf, hb, hg⟩ => ⟨g, c, by rw [he, NT.form_length], hf, hb, hg⟩
  have HTRY : Hid (∀ (p : Nat) (X Y : NT) (gx cx gy cy : Nat) (acc : Option NT) (W : World), p < T.size → Tried W0 W (w.heap.size + 2) (w.heap.size + 3) → FAt W gx cx (X.form 0) → FAt W gy cy (Y.form 0) → X.size ≤ 100 → Y.size ≤ 100 → NT.fork X Y ∈ swaps (T.at p) → NextAt W (fun T => sumNum (T.form 0) rows) acc (w.heap.size + 2) (w.heap.size + 3) →
      Calls Try.prog 107 #[.int .i64 (p : Int), .slice (some ⟨gx, 0, none⟩) X.size cx, .slice (some ⟨gy, 0, none⟩) Y.size cy, .pointer (some ⟨w.heap.size, 0, none⟩), .pointer (some ⟨w.heap.size + 1, 0, none⟩), .pointer (some ⟨w.heap.size + 2, 0, none⟩), .pointer (some ⟨w.heap.size + 3, 0, none⟩)] W
        fun e w' => e = .returned (.tuple #[]) ∧ Tried W w' (w.heap.size + 2) (w.heap.size + 3) ∧ NextAt w' (fun T => sumNum (T.form 0) rows) (bestStep (fun T => sumNum (T.form 0) rows) acc (T.put p (.fork X Y)).norm) (w.heap.size + 2) (w.heap.size + 3)) := by
    refine Lib.hid fun p X Y gx cx gy cy acc W hp ht hx hy hX hY hs hn => ?_
    have h0 := cell_below ht.below (by omega) f0
    have h1 := cell_below ht.below (by omega) f1
    rw [HSZ.out] at h0
    have hlt := HF.out.lt
    exact try_calls w.heap.size (w.heap.size + 1) (w.heap.size + 2) (w.heap.size + 3) g c p gx cx gy cy n2 c2 n A2 T X Y _ rows acc W h0 h1 ((HF.out.below HB0.out).tried ht (by omega) (by omega)) hx hy
      (HR.out.below (HB0.out.trans (ht.below.mono (by omega)))) HN.out hcap hp (by have := HSZ.out; omega) hX hY rfl (HON.out.swap hp hs) hn (by omega) (by have := ht.below.size; omega) (by omega) (by omega)
  go_loopg [20] sz (fun gk v20 wr => ∃ p : Nat, v20 = .int .i64 p ∧ p ≤ sz ∧ Hid (gk + p = sz) ∧ Hid (NextAt wr (fun T => sumNum (T.form 0) rows) (bestOf (fun T => sumNum (T.form 0) rows) (nbrsUp T p)) (w.heap.size + 2) (w.heap.size + 3)) ∧ Hid (Tried W0 wr (w.heap.size + 2) (w.heap.size + 3)))
  case atStart => exact ⟨0, rfl, Nat.zero_le _, rfl, HNX.out, Tried.of (Below.refl _ _) (by omega)⟩
  case round =>
    obtain ⟨p, rfl, hp, HG, HA, HT⟩ := hrel
    have hgz := HF.out.lt
    have HFr := Lib.hid ((HF.out.below HB0.out).tried HT.out (by omega) (by omega))
    have e0 := cell_below HT.out.below (by omega) e0
    have e1 := cell_below HT.out.below (by omega) e1
    have hzr := HT.out.below.size
    by_cases hps : p < sz
    · have hpT : p < T.size := by have := HSZ.out; omega
      have hpP := some_at hpT
      have hpc := (piece_at T 0 p _ hpP).2
      have hpI : (p : Int) < sz := by omega
      have HSUC : Hid (nbrsUp T (p + 1) = nbrsUp T p ++ nbrsAt T p) := nbrsUp_succ T p
      obtain ⟨P, hP⟩ : ∃ P, T.at p = P := ⟨_, rfl⟩
      rw [hP] at hpP hpc
      have HPE := Lib.hid hP
      cases P with
      | leaf j =>
        obtain ⟨ad, he, d0, d1, d2⟩ := HFr.out.rd p _ hpc
        obtain rfl : (⟨g, 0, none⟩ : Addr) = ad := by simpa using he
        rw [add_plain] at d0 d1 d2
        have HNB : Hid (nbrsUp T (p + 1) = nbrsUp T p) := by
          show _ = _
          rw [HSUC.out, nbrsAt, HPE.out]
          simp [swaps]
        have HBB := Lib.hid (below_alloc wr (.cells #[.int .i64 (j : Int), .int .i64 0, .int .i64 0] 64))
        clear hpP hpc hP he
        go_wp2_with fail
        go_roundg (gk - 1)
        case measure => have := HG.out; omega
        case rel =>
          refine ⟨p + 1, by go_num, by omega, by have := HG.out; show gk - 1 + (p + 1) = sz; omega, ?_, HT.out.trans (Tried.of HBB.out (by omega))⟩
          rw [HNB.out]
          exact HA.out.below HBB.out
      | fork a b =>
        obtain ⟨ad, he, d0, d1, d2⟩ := HFr.out.rd p _ hpc.1
        obtain rfl : (⟨g, 0, none⟩ : Addr) = ad := by simpa using he
        rw [add_plain] at d0 d1 d2
        have pa := a.size_pos
        have pb := b.size_pos
        have hsP := (piece_at T 0 p _ hpP).1
        simp only [NT.size] at hsP
        obtain ⟨qa, hqa⟩ : ∃ qa, qa = p - b.size - 1 := ⟨_, rfl⟩
        obtain ⟨qb, hqb⟩ : ∃ qb, qb = p - 1 := ⟨_, rfl⟩
        have hPA := hpc.2.1
        have hPB := hpc.2.2
        rw [← hqa] at hPA
        rw [← hqb] at hPB
        rw [show ((0 + p : Nat) : Int) - b.size - 1 = (qa : Int) by omega] at d1
        rw [show ((0 + p : Nat) : Int) - 1 = (qb : Int) by omega] at d2
        have hne : ((qa : Int) == (qb : Int)) = false := by rw [beq_eq_false_iff_ne]; omega
        have qaI : (qa : Int) < sz := by omega
        have qbI : (qb : Int) < sz := by omega
        have HPA := Lib.hid hPA
        have HPB := Lib.hid hPB
        have HBB := Lib.hid (below_alloc wr (.cells #[.int .i64 0, .int .i64 (qa : Int), .int .i64 (qb : Int)] 64))
        have x1 := new_cell wr #[.int .i64 0, .int .i64 (qa : Int), .int .i64 (qb : Int)] 64 1
        have x2 := new_cell wr #[.int .i64 0, .int .i64 (qa : Int), .int .i64 (qb : Int)] 64 2
        have HNB : Hid (nbrsUp T (p + 1) = nbrsUp T p ++ ((sw1 a b).map fun S => (T.put p S).norm) ++ ((sw1 b a).map fun S => (T.put p S).norm)) := by
          show _ = _
          rw [HSUC.out, nbrsAt, HPE.out, swaps, List.map_append, List.append_assoc]
        have HT2 := Lib.hid (HT.out.trans (Tried.of HBB.out (by omega)))
        have HA2 := Lib.hid (HA.out.below HBB.out)
        clear hpP hpc hP he hqa hqb hPA hPB hsP pa pb
        go_upto_region 9 with (fail)
        have e0 := cell_below HBB.out (by omega) e0
        have e1 := cell_below HBB.out (by omega) e1
        have HF2 := Lib.hid (HFr.out.below HBB.out)
        have hz2 := HBB.out.size
        generalize wr.alloc (.cells #[.int .i64 0, .int .i64 (qa : Int), .int .i64 (qb : Int)] 64) = W2 at *
        clear x1 x2 d0 d1 d2
        obtain ⟨g1, rfl⟩ : ∃ g1 : Nat, g1 = gk := ⟨_, rfl⟩
        obtain ⟨wo, rfl⟩ : ∃ wo : World, wo = wr := ⟨_, rfl⟩
        have hix0 := fun W => ix0 W (qa : Int) qb qb qa
        have hix1 := fun W => ix1 W (qa : Int) qb qb qa
        go_loopg [41] 2 (fun gk v41 wr => ∃ j : Nat, v41 = .int .i64 j ∧ j ≤ 2 ∧ Hid (gk + j = 2) ∧ Hid (NextAt wr (fun T => sumNum (T.form 0) rows) (bestOf (fun T => sumNum (T.form 0) rows) (if j = 0 then nbrsUp T p else if j = 1 then nbrsUp T p ++ ((sw1 a b).map fun S => (T.put p S).norm) else nbrsUp T p ++ ((sw1 a b).map fun S => (T.put p S).norm) ++ ((sw1 b a).map fun S => (T.put p S).norm))) (w.heap.size + 2) (w.heap.size + 3)) ∧ Hid (Tried W0 wr (w.heap.size + 2) (w.heap.size + 3)))
        case atStart => exact ⟨0, rfl, Nat.zero_le _, rfl, HA2.out, HT2.out⟩
        case round =>
          obtain ⟨j, rfl, hj, HGJ, HAJ, HTJ⟩ := hrel
          by_cases hj2 : j < 2
          · obtain h01 : j = 0 ∨ j = 1 := by omega
            clear hj2 hj
            rcases h01 with rfl | rfl
            · have hAJ := HAJ.out
              simp only [if_true] at hAJ
              have HFj := Lib.hid ((HF.out.below HB0.out).tried HTJ.out (by omega) (by omega))
              have e0 := cell_below HTJ.out.below (by omega) f0
              have hzj := HTJ.out.below.size
              have hpx := (piece_at T 0 qa _ HPA.out).2
              have hsx := (piece_at T 0 qa _ HPA.out).1
              have hb0 := below_alloc wr (.cells #[.int .i64 (qa : Int), .int .i64 (qb : Int)] 158)
              have w0 := new_cell wr #[.int .i64 (qa : Int), .int .i64 (qb : Int)] 158 0
              have w1 := new_cell wr #[.int .i64 (qa : Int), .int .i64 (qb : Int)] 158 1
              have hz3 : wr.heap.size < (wr.alloc (.cells #[.int .i64 (qa : Int), .int .i64 (qb : Int)] 158)).heap.size := by simp
              have e0 := cell_below hb0 (by omega) e0
              have HF3 := Lib.hid (HFj.out.below hb0)
              have HA3 := Lib.hid (hAJ.below hb0)
              have HT3 := Lib.hid (HTJ.out.trans (Tried.of hb0 (by omega)))
              have HPY := Lib.hid fun W' (h : Below (wr.alloc (.cells #[.int .i64 (qa : Int), .int .i64 (qb : Int)] 158)).heap.size (wr.alloc (.cells #[.int .i64 (qa : Int), .int .i64 (qb : Int)] 158)) W') => HPART.out qb _ W' (HF3.out.below h) HPB.out
              obtain ⟨z0, z1, z2, HZ, d0, d1, d2⟩ : ∃ z0 z1 z2 : Int, Hid ((∃ k, a = NT.leaf k ∧ z1 = 0 ∧ z2 = 0) ∨ ∃ x1 x2 q1 q2, a = NT.fork x1 x2 ∧ z1 = ((q1 : Nat) : Int) ∧ z2 = ((q2 : Nat) : Int) ∧ q1 < q2 ∧ T.pieces[q1]? = some x1 ∧ T.pieces[q2]? = some x2) ∧
                  (wr.alloc (.cells #[.int .i64 (qa : Int), .int .i64 (qb : Int)] 158)).cell? ⟨g, qa * 3, none⟩ = some (.int .i64 z0) ∧ (wr.alloc (.cells #[.int .i64 (qa : Int), .int .i64 (qb : Int)] 158)).cell? ⟨g, qa * 3 + 1, none⟩ = some (.int .i64 z1) ∧ (wr.alloc (.cells #[.int .i64 (qa : Int), .int .i64 (qb : Int)] 158)).cell? ⟨g, qa * 3 + 2, none⟩ = some (.int .i64 z2) := by
                clear HPY
                cases a with
                | leaf k =>
                  obtain ⟨ad, he, d0, d1, d2⟩ := HF3.out.rd qa _ hpx
                  obtain rfl : (⟨g, 0, none⟩ : Addr) = ad := by simpa using he
                  rw [add_plain] at d0 d1 d2
                  exact ⟨k, 0, 0, Lib.hid (.inl ⟨k, rfl, rfl, rfl⟩), by simpa using d0, by simpa using d1, by simpa using d2⟩
                | fork x1 x2 =>
                  obtain ⟨ad, he, d0, d1, d2⟩ := HF3.out.rd qa _ hpx.1
                  obtain rfl : (⟨g, 0, none⟩ : Addr) = ad := by simpa using he
                  rw [add_plain] at d0 d1 d2
                  have p1 := x1.size_pos
                  have p2 := x2.size_pos
                  simp only [NT.size] at hsx
                  have s1 : ((0 + qa : Nat) : Int) - x2.size - 1 = ((qa - x2.size - 1 : Nat) : Int) := by omega
                  have s2 : ((0 + qa : Nat) : Int) - 1 = ((qa - 1 : Nat) : Int) := by omega
                  rw [s1] at d1
                  rw [s2] at d2
                  exact ⟨0, _, _, Lib.hid (.inr ⟨x1, x2, qa - x2.size - 1, qa - 1, rfl, rfl, rfl, by omega, hpx.2.1, hpx.2.2⟩), by simpa using d0, by simpa using d1, by simpa using d2⟩
              have hgl := HF3.out.lt
              clear hb0 hpx hAJ
              go_upto_region 11 with (fail)
              generalize (wr.alloc (.cells #[.int .i64 (qa : Int), .int .i64 (qb : Int)] 158)) = W3 at *
              have HK : Hid (∀ W', Below W3.heap.size W3 W' → W'.cell? ⟨w.heap.size, 0, none⟩ = some (.slice (some ⟨g, 0, none⟩) sz c) ∧ W'.cell? ⟨wr.heap.size, 0, none⟩ = some (.int .i64 (qa : Int)) ∧ W'.cell? ⟨wr.heap.size, 1, none⟩ = some (.int .i64 (qb : Int)) ∧ W'.cell? ⟨g, qa * 3, none⟩ = some (.int .i64 z0) ∧ W'.cell? ⟨g, qa * 3 + 1, none⟩ = some (.int .i64 z1) ∧ W'.cell? ⟨g, qa * 3 + 2, none⟩ = some (.int .i64 z2)) :=
                Lib.hid fun W' h => ⟨cell_below h (by omega) e0, cell_below h hz3 w0, cell_below h hz3 w1, cell_below h hgl d0, cell_below h hgl d1, cell_below h hgl d2⟩
              have hd3 : Below W3.heap.size W3 W3.drew := (Below.refl _ _).drew
              obtain ⟨k0, k1, k2, k3, k4, k5⟩ := HK.out _ (Below.refl _ _)
              go_cut [13, 14] (fun v13 v14 wc => ∃ (bx gy cy : Nat), v13 = .pointer (some ⟨bx, 0, none⟩) ∧ v14 = .slice (some ⟨gy, 0, none⟩) b.size cy ∧ Hid (FAt wc gy cy (b.form 0)) ∧ wc.cell? ⟨bx, 1, none⟩ = some (.int .i64 z1) ∧ wc.cell? ⟨bx, 2, none⟩ = some (.int .i64 z2) ∧ Hid (Below W3.heap.size W3 wc) ∧ bx < wc.heap.size)
              case first =>
                clear HTRY HPART HZ
                go_wp2_with fail
                go_region_held3 (fun w' => w'.cell? ⟨w.heap.size, 0, none⟩ = some (.slice (some ⟨g, 0, none⟩) sz c) ∧ w'.cell? ⟨wr.heap.size, 0, none⟩ = some (.int .i64 (qa : Int)) ∧ w'.cell? ⟨wr.heap.size, 1, none⟩ = some (.int .i64 (qb : Int)) ∧ w'.cell? ⟨g, qa * 3, none⟩ = some (.int .i64 z0) ∧ w'.cell? ⟨g, qa * 3 + 1, none⟩ = some (.int .i64 z1) ∧ w'.cell? ⟨g, qa * 3 + 2, none⟩ = some (.int .i64 z2))
                  (first
                    | exact HK.out _ hd3
                    | exact HK.out _ (below_alloc W3 _).drew
                    | exact HK.out _ HB5.out
                    | (exact HK.out _ (Below.then HB5.out HB5.out.size (below_alloc _ _)))
                    | exact HK.out _ (below_set (below_set (below_set HB5.out (Nat.le_refl _) _ _) (Nat.le_refl _) _ _) (Nat.le_refl _) _ _)
                    | exact HK.out _ (below_set (below_set (below_set (Below.then HB5.out HB5.out.size (below_alloc _ _)) HB5.out.size _ _) HB5.out.size _ _) HB5.out.size _ _))
                  (first
                    | (go_at_call 78; (with_reducible refine (HPY.out _ hd3).mono ?_); rintro e w5 ⟨g5, c5, rfl, hf5, hb5, hg5⟩; have HB5 := Lib.hid (Below.then hd3 hd3.size hb5))
                    | (go_at_call 78; (with_reducible refine (HPY.out _ (below_alloc W3 _).drew).mono ?_); rintro e w5 ⟨g5, c5, rfl, hf5, hb5, hg5⟩; obtain ⟨⟨y0, y1, y2⟩, y3, y4, y5⟩ := box3 hb5; have HB5 := Lib.hid (Below.then (below_alloc W3 (.cells #[.int .i64 0, .int .i64 0, .int .i64 0] 64)).drew (below_alloc W3 _).drew.size hb5)))
                · go_wp2_with fail
                  go_meet
                  exact ⟨_, g5, c5, rfl, rfl, hf5.below (below_alloc _ _), new_cell w5 _ _ 1, new_cell w5 _ _ 2, Below.then HB5.out HB5.out.size (below_alloc _ _), by simp⟩
                · go_wp2_with fail
                  go_meet
                  have hn5 : g5 ≠ W3.heap.size := by have := hg5; simp at this; omega
                  have hz5 : W3.heap.size < w5.heap.size := by have := hb5.size; simp at this; omega
                  exact ⟨_, g5, c5, rfl, rfl, ((hf5.putj hn5 _ _).putj hn5 _ _).putj hn5 _ _, mem_ne (.inr (by decide)) (set_cell_eq (mem_ne (.inr (by decide)) y1) _), set_cell_eq (mem_ne (.inr (by decide)) (mem_ne (.inr (by decide)) y2)) _, below_set (below_set (below_set HB5.out (Nat.le_refl _) _ _) (Nat.le_refl _) _ _) (Nat.le_refl _) _ _, by simpa using hz5⟩
              case rest =>
                obtain ⟨bx, gy, cy, rfl, rfl, HFY, q1, q2, HBC, hbx⟩ := hcut
                clear k0 k1 k2 k3 k4 k5 d0 d1 d2 w0 w1 hd3
                have hz33 := HT3.out.below.size
                have HT4 := Lib.hid (HT3.out.trans (Tried.of HBC.out (by omega)))
                have HA4 := Lib.hid (HA3.out.below HBC.out)
                have HF4 := Lib.hid (HF3.out.below HBC.out)
                have hw0 := (HK.out _ HBC.out).1
                have hz44 := HBC.out.size
                clear HK HPY
                rcases HZ.out with ⟨k, hX, h1, h2⟩ | ⟨x1, x2, p1, p2, hX, h1, h2, hlt, hp1, hp2⟩
                · subst h1 h2
                  have HNL : Hid ((sw1 a b).map (fun S => (T.put p S).norm) = []) := by
                    show _ = _
                    rw [hX]
                    rfl
                  clear hX HZ
                  go_wp2_with fail
                  go_roundg (gk - 1)
                  case measure => have := HGJ.out; omega
                  case rel =>
                    refine ⟨0 + 1, by go_num, by omega, by have := HGJ.out; show gk - 1 + (0 + 1) = 2; omega, ?_, HT4.out⟩
                    have := HA4.out
                    rw [← List.append_nil (nbrsUp T p), ← HNL.out] at this
                    exact this
                · subst h1 h2
                  have hne : ((p1 : Int) == (p2 : Int)) = false := by rw [beq_eq_false_iff_ne]; omega
                  have HP1 := Lib.hid fun W' (h : Below wc.heap.size wc W') => HPART.out p1 _ W' (HF4.out.below h) hp1
                  have HP2 := Lib.hid fun W' (h : Below wc.heap.size wc W') => HPART.out p2 _ W' (HF4.out.below h) hp2
                  have HSX : Hid ((sw1 a b).map (fun S => (T.put p S).norm) = [(T.put p (.fork (.fork b x2) x1)).norm, (T.put p (.fork (.fork x1 b) x2)).norm]) := by
                    show _ = _
                    rw [hX]
                    rfl
                  have HM1 : Hid (NT.fork (.fork b x2) x1 ∈ swaps (T.at p)) := by
                    show _ ∈ _
                    rw [HPE.out, hX]
                    simp [swaps, sw1]
                  have HM2 : Hid (NT.fork (.fork x1 b) x2 ∈ swaps (T.at p)) := by
                    show _ ∈ _
                    rw [HPE.out, hX]
                    simp [swaps, sw1]
                  have hs1 : b.size + x1.size + x2.size + 1 ≤ 23 := by
                    have h1 := (piece_at T 0 p (NT.fork a b) (by rw [← HPE.out]; exact some_at hpT)).1
                    have h2 := HSZ.out
                    have h3 : a.size = x1.size + x2.size + 1 := by rw [hX]; rfl
                    simp only [NT.size] at h1
                    omega
                  have HSI := Lib.hid hs1
                  clear hX HZ hp1 hp2 hlt hsx hs1
                  go_upto_region 13 with (fail)
                  go_region_held3 (fun w' => w'.cell? ⟨w.heap.size, 0, none⟩ = some (.slice (some ⟨g, 0, none⟩) sz c) ∧ w'.cell? ⟨bx, 1, none⟩ = some (.int .i64 (p1 : Int)) ∧ w'.cell? ⟨bx, 2, none⟩ = some (.int .i64 (p2 : Int)) ∧ Below wc.heap.size wc w')
                    (first
                      | exact ⟨hw0, q1, q2, below_drewN wc 1⟩
                      | (go_split_ands; exact held_next (by omega) hbx (by assumption) (by assumption) (by assumption) (by assumption) hup))
                    (first
                      | (go_at_call 78; go_split_ands; have hf1 := hf; (with_reducible refine (HP2.out _ (by assumption)).mono ?_); rintro e w' ⟨gA, cA, rfl, hfA, hb, -⟩; have hf2 := hf1.below hb; have hup := hb.mono (Below.size (by assumption : Below wc.heap.size wc _)))
                      | (go_at_call 78; go_split_ands; (with_reducible refine (HP1.out _ (by assumption)).mono ?_); rintro e w' ⟨gB, cB, rfl, hf, hb, -⟩; have hup := hb.mono (Below.size (by assumption : Below wc.heap.size wc _))))
                  go_split_ands
                  have hbw : Below wc.heap.size wc w' := by assumption
                  have hfy : FAt w' gy cy (b.form 0) := HFY.out.below hbw
                  have hn6 := HA4.out.below hbw
                  have HT6 := Lib.hid (HT4.out.trans (Tried.of hbw (by omega)))
                  have hz6 := hbw.size
                  obtain ⟨ny1, ny2⟩ := hfy.next hn6
                  obtain ⟨n11, n12⟩ := hf2.next hn6
                  obtain ⟨n21, n22⟩ := hfA.next hn6
                  have HG1 := Lib.hid ((glued_calls gy cy gA cA b x2 w' hfy hfA (by have := HSI.out; omega) (by have := HSI.out; omega)).mono fun e w' h => RetN.of h)
                  have HFY6 := Lib.hid hfy
                  have HF16 := Lib.hid hf2
                  have HF26 := Lib.hid hfA
                  have HA6 := Lib.hid hn6
                  have HG2 := Lib.hid fun (W : World) (h1 : FAt W gB cB (x1.form 0)) (h2 : FAt W gy cy (b.form 0)) => (glued_calls gB cB gy cy x1 b W h1 h2 (by have := HSI.out; omega) (by have := HSI.out; omega)).mono fun e w' h => RetN.of h
                  clear hw0 q1 q2 hf hf1 hf2 hfA hb hup hfy hn6 hbw HP1 HP2 HF4 HA4 HT4 HFY HBC hbx
                  go_wp2_with fail
                  (with_reducible refine HG1.out.mono ?_)
                  rintro e w6 ⟨g6, c6, rfl, hf6, hb6⟩
                  have HTC := Lib.hid (HTRY.out p (.fork b x2) x1 g6 c6 gB cB _ w6 hpT (HT6.out.trans (Tried.of hb6 (by omega))) hf6 (HF16.out.below hb6) (by simp only [NT.size]; have := HSI.out; omega) (by have := HSI.out; omega) HM1.out (HA6.out.below hb6))
                  have HT66 := Lib.hid (HT6.out.trans (Tried.of hb6 (by omega)))
                  have HFY7 := Lib.hid (HFY6.out.below hb6)
                  have HF17 := Lib.hid (HF16.out.below hb6)
                  have HF27 := Lib.hid (HF26.out.below hb6)
                  have hz7 := hb6.size
                  clear hf6 hb6 HG1 HFY6 HF16 HF26 HA6 HT6
                  go_wp2_with fail
                  (with_reducible refine HTC.out.mono ?_)
                  rintro e w7 ⟨rfl, ht7, hn7⟩
                  have HFY8 := Lib.hid (HFY7.out.tried ht7 ny1 ny2)
                  have HF18 := Lib.hid (HF17.out.tried ht7 n11 n12)
                  have HF28 := Lib.hid (HF27.out.tried ht7 n21 n22)
                  have HT7 := Lib.hid (HT66.out.trans ht7)
                  have HA7 := Lib.hid hn7
                  have hz8 := ht7.below.size
                  clear ht7 hn7 HTC HFY7 HF17 HF27 HT66
                  go_wp2_with fail
                  (with_reducible refine (HG2.out _ HF18.out HFY8.out).mono ?_)
                  rintro e w8 ⟨g8, c8, rfl, hf8, hb8⟩
                  have HTC := Lib.hid (HTRY.out p (.fork x1 b) x2 g8 c8 gA cA _ w8 hpT (HT7.out.trans (Tried.of hb8 (by omega))) hf8 (HF28.out.below hb8) (by simp only [NT.size]; have := HSI.out; omega) (by have := HSI.out; omega) HM2.out (HA7.out.below hb8))
                  have HT8 := Lib.hid (HT7.out.trans (Tried.of hb8 (by omega)))
                  clear hf8 hb8 HG2 HFY8 HF18 HF28 HA7 HT7
                  go_wp2_with fail
                  (with_reducible refine HTC.out.mono ?_)
                  rintro e w9 ⟨rfl, ht9, hn9⟩
                  have HT9 := Lib.hid (HT8.out.trans ht9)
                  have HA9 : Hid (NextAt w9 (fun T => sumNum (T.form 0) rows) (bestOf (fun T => sumNum (T.form 0) rows) (nbrsUp T p ++ (sw1 a b).map fun S => (T.put p S).norm)) (w.heap.size + 2) (w.heap.size + 3)) := by
                    show NextAt _ _ _ _ _
                    rw [HSX.out, bestOf, List.foldl_append]
                    exact hn9
                  clear ht9 hn9 HTC HT8 HSX HTRY HPART
                  go_wp2_with fail
                  go_roundg (gk - 1)
                  case measure => have := HGJ.out; omega
                  case rel => exact ⟨0 + 1, by go_num, by omega, by have := HGJ.out; show gk - 1 + (0 + 1) = 2; omega, HA9.out, HT9.out⟩
            · have hAJ := HAJ.out
              simp only [show (1 : Nat) ≠ 0 by decide, if_false, if_true] at hAJ
              have HFj := Lib.hid ((HF.out.below HB0.out).tried HTJ.out (by omega) (by omega))
              have e0 := cell_below HTJ.out.below (by omega) f0
              have hzj := HTJ.out.below.size
              have hpx := (piece_at T 0 qb _ HPB.out).2
              have hsx := (piece_at T 0 qb _ HPB.out).1
              have hb0 := below_alloc wr (.cells #[.int .i64 (qb : Int), .int .i64 (qa : Int)] 158)
              have w0 := new_cell wr #[.int .i64 (qb : Int), .int .i64 (qa : Int)] 158 0
              have w1 := new_cell wr #[.int .i64 (qb : Int), .int .i64 (qa : Int)] 158 1
              have hz3 : wr.heap.size < (wr.alloc (.cells #[.int .i64 (qb : Int), .int .i64 (qa : Int)] 158)).heap.size := by simp
              have e0 := cell_below hb0 (by omega) e0
              have HF3 := Lib.hid (HFj.out.below hb0)
              have HA3 := Lib.hid (hAJ.below hb0)
              have HT3 := Lib.hid (HTJ.out.trans (Tried.of hb0 (by omega)))
              have HPY := Lib.hid fun W' (h : Below (wr.alloc (.cells #[.int .i64 (qb : Int), .int .i64 (qa : Int)] 158)).heap.size (wr.alloc (.cells #[.int .i64 (qb : Int), .int .i64 (qa : Int)] 158)) W') => HPART.out qa _ W' (HF3.out.below h) HPA.out
              obtain ⟨z0, z1, z2, HZ, d0, d1, d2⟩ : ∃ z0 z1 z2 : Int, Hid ((∃ k, b = NT.leaf k ∧ z1 = 0 ∧ z2 = 0) ∨ ∃ x1 x2 q1 q2, b = NT.fork x1 x2 ∧ z1 = ((q1 : Nat) : Int) ∧ z2 = ((q2 : Nat) : Int) ∧ q1 < q2 ∧ T.pieces[q1]? = some x1 ∧ T.pieces[q2]? = some x2) ∧
                  (wr.alloc (.cells #[.int .i64 (qb : Int), .int .i64 (qa : Int)] 158)).cell? ⟨g, qb * 3, none⟩ = some (.int .i64 z0) ∧ (wr.alloc (.cells #[.int .i64 (qb : Int), .int .i64 (qa : Int)] 158)).cell? ⟨g, qb * 3 + 1, none⟩ = some (.int .i64 z1) ∧ (wr.alloc (.cells #[.int .i64 (qb : Int), .int .i64 (qa : Int)] 158)).cell? ⟨g, qb * 3 + 2, none⟩ = some (.int .i64 z2) := by
                clear HPY
                cases b with
                | leaf k =>
                  obtain ⟨ad, he, d0, d1, d2⟩ := HF3.out.rd qb _ hpx
                  obtain rfl : (⟨g, 0, none⟩ : Addr) = ad := by simpa using he
                  rw [add_plain] at d0 d1 d2
                  exact ⟨k, 0, 0, Lib.hid (.inl ⟨k, rfl, rfl, rfl⟩), by simpa using d0, by simpa using d1, by simpa using d2⟩
                | fork x1 x2 =>
                  obtain ⟨ad, he, d0, d1, d2⟩ := HF3.out.rd qb _ hpx.1
                  obtain rfl : (⟨g, 0, none⟩ : Addr) = ad := by simpa using he
                  rw [add_plain] at d0 d1 d2
                  have p1 := x1.size_pos
                  have p2 := x2.size_pos
                  simp only [NT.size] at hsx
                  have s1 : ((0 + qb : Nat) : Int) - x2.size - 1 = ((qb - x2.size - 1 : Nat) : Int) := by omega
                  have s2 : ((0 + qb : Nat) : Int) - 1 = ((qb - 1 : Nat) : Int) := by omega
                  rw [s1] at d1
                  rw [s2] at d2
                  exact ⟨0, _, _, Lib.hid (.inr ⟨x1, x2, qb - x2.size - 1, qb - 1, rfl, rfl, rfl, by omega, hpx.2.1, hpx.2.2⟩), by simpa using d0, by simpa using d1, by simpa using d2⟩
              have hgl := HF3.out.lt
              clear hb0 hpx hAJ
              go_upto_region 11 with (fail)
              generalize (wr.alloc (.cells #[.int .i64 (qb : Int), .int .i64 (qa : Int)] 158)) = W3 at *
              have HK : Hid (∀ W', Below W3.heap.size W3 W' → W'.cell? ⟨w.heap.size, 0, none⟩ = some (.slice (some ⟨g, 0, none⟩) sz c) ∧ W'.cell? ⟨wr.heap.size, 0, none⟩ = some (.int .i64 (qb : Int)) ∧ W'.cell? ⟨wr.heap.size, 1, none⟩ = some (.int .i64 (qa : Int)) ∧ W'.cell? ⟨g, qb * 3, none⟩ = some (.int .i64 z0) ∧ W'.cell? ⟨g, qb * 3 + 1, none⟩ = some (.int .i64 z1) ∧ W'.cell? ⟨g, qb * 3 + 2, none⟩ = some (.int .i64 z2)) :=
                Lib.hid fun W' h => ⟨cell_below h (by omega) e0, cell_below h hz3 w0, cell_below h hz3 w1, cell_below h hgl d0, cell_below h hgl d1, cell_below h hgl d2⟩
              have hd3 : Below W3.heap.size W3 W3.drew := (Below.refl _ _).drew
              obtain ⟨k0, k1, k2, k3, k4, k5⟩ := HK.out _ (Below.refl _ _)
              go_cut [13, 14] (fun v13 v14 wc => ∃ (bx gy cy : Nat), v13 = .pointer (some ⟨bx, 0, none⟩) ∧ v14 = .slice (some ⟨gy, 0, none⟩) a.size cy ∧ Hid (FAt wc gy cy (a.form 0)) ∧ wc.cell? ⟨bx, 1, none⟩ = some (.int .i64 z1) ∧ wc.cell? ⟨bx, 2, none⟩ = some (.int .i64 z2) ∧ Hid (Below W3.heap.size W3 wc) ∧ bx < wc.heap.size)
              case first =>
                clear HTRY HPART HZ
                go_wp2_with fail
                go_region_held3 (fun w' => w'.cell? ⟨w.heap.size, 0, none⟩ = some (.slice (some ⟨g, 0, none⟩) sz c) ∧ w'.cell? ⟨wr.heap.size, 0, none⟩ = some (.int .i64 (qb : Int)) ∧ w'.cell? ⟨wr.heap.size, 1, none⟩ = some (.int .i64 (qa : Int)) ∧ w'.cell? ⟨g, qb * 3, none⟩ = some (.int .i64 z0) ∧ w'.cell? ⟨g, qb * 3 + 1, none⟩ = some (.int .i64 z1) ∧ w'.cell? ⟨g, qb * 3 + 2, none⟩ = some (.int .i64 z2))
                  (first
                    | exact HK.out _ hd3
                    | exact HK.out _ (below_alloc W3 _).drew
                    | exact HK.out _ HB5.out
                    | (exact HK.out _ (Below.then HB5.out HB5.out.size (below_alloc _ _)))
                    | exact HK.out _ (below_set (below_set (below_set HB5.out (Nat.le_refl _) _ _) (Nat.le_refl _) _ _) (Nat.le_refl _) _ _)
                    | exact HK.out _ (below_set (below_set (below_set (Below.then HB5.out HB5.out.size (below_alloc _ _)) HB5.out.size _ _) HB5.out.size _ _) HB5.out.size _ _))
                  (first
                    | (go_at_call 78; (with_reducible refine (HPY.out _ hd3).mono ?_); rintro e w5 ⟨g5, c5, rfl, hf5, hb5, hg5⟩; have HB5 := Lib.hid (Below.then hd3 hd3.size hb5))
                    | (go_at_call 78; (with_reducible refine (HPY.out _ (below_alloc W3 _).drew).mono ?_); rintro e w5 ⟨g5, c5, rfl, hf5, hb5, hg5⟩; obtain ⟨⟨y0, y1, y2⟩, y3, y4, y5⟩ := box3 hb5; have HB5 := Lib.hid (Below.then (below_alloc W3 (.cells #[.int .i64 0, .int .i64 0, .int .i64 0] 64)).drew (below_alloc W3 _).drew.size hb5)))
                · go_wp2_with fail
                  go_meet
                  exact ⟨_, g5, c5, rfl, rfl, hf5.below (below_alloc _ _), new_cell w5 _ _ 1, new_cell w5 _ _ 2, Below.then HB5.out HB5.out.size (below_alloc _ _), by simp⟩
                · go_wp2_with fail
                  go_meet
                  have hn5 : g5 ≠ W3.heap.size := by have := hg5; simp at this; omega
                  have hz5 : W3.heap.size < w5.heap.size := by have := hb5.size; simp at this; omega
                  exact ⟨_, g5, c5, rfl, rfl, ((hf5.putj hn5 _ _).putj hn5 _ _).putj hn5 _ _, mem_ne (.inr (by decide)) (set_cell_eq (mem_ne (.inr (by decide)) y1) _), set_cell_eq (mem_ne (.inr (by decide)) (mem_ne (.inr (by decide)) y2)) _, below_set (below_set (below_set HB5.out (Nat.le_refl _) _ _) (Nat.le_refl _) _ _) (Nat.le_refl _) _ _, by simpa using hz5⟩
              case rest =>
                obtain ⟨bx, gy, cy, rfl, rfl, HFY, q1, q2, HBC, hbx⟩ := hcut
                clear k0 k1 k2 k3 k4 k5 d0 d1 d2 w0 w1 hd3
                have hz33 := HT3.out.below.size
                have HT4 := Lib.hid (HT3.out.trans (Tried.of HBC.out (by omega)))
                have HA4 := Lib.hid (HA3.out.below HBC.out)
                have HF4 := Lib.hid (HF3.out.below HBC.out)
                have hw0 := (HK.out _ HBC.out).1
                have hz44 := HBC.out.size
                clear HK HPY
                rcases HZ.out with ⟨k, hX, h1, h2⟩ | ⟨x1, x2, p1, p2, hX, h1, h2, hlt, hp1, hp2⟩
                · subst h1 h2
                  have HNL : Hid ((sw1 b a).map (fun S => (T.put p S).norm) = []) := by
                    show _ = _
                    rw [hX]
                    rfl
                  clear hX HZ
                  go_wp2_with fail
                  go_roundg (gk - 1)
                  case measure => have := HGJ.out; omega
                  case rel =>
                    refine ⟨1 + 1, by go_num, by omega, by have := HGJ.out; show gk - 1 + (1 + 1) = 2; omega, ?_, HT4.out⟩
                    have := HA4.out
                    rw [← List.append_nil (nbrsUp T p ++ ((sw1 a b).map fun S => (T.put p S).norm)), ← HNL.out] at this
                    exact this
                · subst h1 h2
                  have hne : ((p1 : Int) == (p2 : Int)) = false := by rw [beq_eq_false_iff_ne]; omega
                  have HP1 := Lib.hid fun W' (h : Below wc.heap.size wc W') => HPART.out p1 _ W' (HF4.out.below h) hp1
                  have HP2 := Lib.hid fun W' (h : Below wc.heap.size wc W') => HPART.out p2 _ W' (HF4.out.below h) hp2
                  have HSX : Hid ((sw1 b a).map (fun S => (T.put p S).norm) = [(T.put p (.fork (.fork a x2) x1)).norm, (T.put p (.fork (.fork x1 a) x2)).norm]) := by
                    show _ = _
                    rw [hX]
                    rfl
                  have HM1 : Hid (NT.fork (.fork a x2) x1 ∈ swaps (T.at p)) := by
                    show _ ∈ _
                    rw [HPE.out, hX]
                    simp [swaps, sw1]
                  have HM2 : Hid (NT.fork (.fork x1 a) x2 ∈ swaps (T.at p)) := by
                    show _ ∈ _
                    rw [HPE.out, hX]
                    simp [swaps, sw1]
                  have hs1 : a.size + x1.size + x2.size + 1 ≤ 23 := by
                    have h1 := (piece_at T 0 p (NT.fork a b) (by rw [← HPE.out]; exact some_at hpT)).1
                    have h2 := HSZ.out
                    have h3 : b.size = x1.size + x2.size + 1 := by rw [hX]; rfl
                    simp only [NT.size] at h1
                    omega
                  have HSI := Lib.hid hs1
                  clear hX HZ hp1 hp2 hlt hsx hs1
                  go_upto_region 13 with (fail)
                  go_region_held3 (fun w' => w'.cell? ⟨w.heap.size, 0, none⟩ = some (.slice (some ⟨g, 0, none⟩) sz c) ∧ w'.cell? ⟨bx, 1, none⟩ = some (.int .i64 (p1 : Int)) ∧ w'.cell? ⟨bx, 2, none⟩ = some (.int .i64 (p2 : Int)) ∧ Below wc.heap.size wc w')
                    (first
                      | exact ⟨hw0, q1, q2, below_drewN wc 1⟩
                      | (go_split_ands; exact held_next (by omega) hbx (by assumption) (by assumption) (by assumption) (by assumption) hup))
                    (first
                      | (go_at_call 78; go_split_ands; have hf1 := hf; (with_reducible refine (HP2.out _ (by assumption)).mono ?_); rintro e w' ⟨gA, cA, rfl, hfA, hb, -⟩; have hf2 := hf1.below hb; have hup := hb.mono (Below.size (by assumption : Below wc.heap.size wc _)))
                      | (go_at_call 78; go_split_ands; (with_reducible refine (HP1.out _ (by assumption)).mono ?_); rintro e w' ⟨gB, cB, rfl, hf, hb, -⟩; have hup := hb.mono (Below.size (by assumption : Below wc.heap.size wc _))))
                  go_split_ands
                  have hbw : Below wc.heap.size wc w' := by assumption
                  have hfy : FAt w' gy cy (a.form 0) := HFY.out.below hbw
                  have hn6 := HA4.out.below hbw
                  have HT6 := Lib.hid (HT4.out.trans (Tried.of hbw (by omega)))
                  have hz6 := hbw.size
                  obtain ⟨ny1, ny2⟩ := hfy.next hn6
                  obtain ⟨n11, n12⟩ := hf2.next hn6
                  obtain ⟨n21, n22⟩ := hfA.next hn6
                  have HG1 := Lib.hid ((glued_calls gy cy gA cA a x2 w' hfy hfA (by have := HSI.out; omega) (by have := HSI.out; omega)).mono fun e w' h => RetN.of h)
                  have HFY6 := Lib.hid hfy
                  have HF16 := Lib.hid hf2
                  have HF26 := Lib.hid hfA
                  have HA6 := Lib.hid hn6
                  have HG2 := Lib.hid fun (W : World) (h1 : FAt W gB cB (x1.form 0)) (h2 : FAt W gy cy (a.form 0)) => (glued_calls gB cB gy cy x1 a W h1 h2 (by have := HSI.out; omega) (by have := HSI.out; omega)).mono fun e w' h => RetN.of h
                  clear hw0 q1 q2 hf hf1 hf2 hfA hb hup hfy hn6 hbw HP1 HP2 HF4 HA4 HT4 HFY HBC hbx
                  go_wp2_with fail
                  (with_reducible refine HG1.out.mono ?_)
                  rintro e w6 ⟨g6, c6, rfl, hf6, hb6⟩
                  have HTC := Lib.hid (HTRY.out p (.fork a x2) x1 g6 c6 gB cB _ w6 hpT (HT6.out.trans (Tried.of hb6 (by omega))) hf6 (HF16.out.below hb6) (by simp only [NT.size]; have := HSI.out; omega) (by have := HSI.out; omega) HM1.out (HA6.out.below hb6))
                  have HT66 := Lib.hid (HT6.out.trans (Tried.of hb6 (by omega)))
                  have HFY7 := Lib.hid (HFY6.out.below hb6)
                  have HF17 := Lib.hid (HF16.out.below hb6)
                  have HF27 := Lib.hid (HF26.out.below hb6)
                  have hz7 := hb6.size
                  clear hf6 hb6 HG1 HFY6 HF16 HF26 HA6 HT6
                  go_wp2_with fail
                  (with_reducible refine HTC.out.mono ?_)
                  rintro e w7 ⟨rfl, ht7, hn7⟩
                  have HFY8 := Lib.hid (HFY7.out.tried ht7 ny1 ny2)
                  have HF18 := Lib.hid (HF17.out.tried ht7 n11 n12)
                  have HF28 := Lib.hid (HF27.out.tried ht7 n21 n22)
                  have HT7 := Lib.hid (HT66.out.trans ht7)
                  have HA7 := Lib.hid hn7
                  have hz8 := ht7.below.size
                  clear ht7 hn7 HTC HFY7 HF17 HF27 HT66
                  go_wp2_with fail
                  (with_reducible refine (HG2.out _ HF18.out HFY8.out).mono ?_)
                  rintro e w8 ⟨g8, c8, rfl, hf8, hb8⟩
                  have HTC := Lib.hid (HTRY.out p (.fork x1 a) x2 g8 c8 gA cA _ w8 hpT (HT7.out.trans (Tried.of hb8 (by omega))) hf8 (HF28.out.below hb8) (by simp only [NT.size]; have := HSI.out; omega) (by have := HSI.out; omega) HM2.out (HA7.out.below hb8))
                  have HT8 := Lib.hid (HT7.out.trans (Tried.of hb8 (by omega)))
                  clear hf8 hb8 HG2 HFY8 HF18 HF28 HA7 HT7
                  go_wp2_with fail
                  (with_reducible refine HTC.out.mono ?_)
                  rintro e w9 ⟨rfl, ht9, hn9⟩
                  have HT9 := Lib.hid (HT8.out.trans ht9)
                  have HA9 : Hid (NextAt w9 (fun T => sumNum (T.form 0) rows) (bestOf (fun T => sumNum (T.form 0) rows) (nbrsUp T p ++ ((sw1 a b).map fun S => (T.put p S).norm) ++ (sw1 b a).map fun S => (T.put p S).norm)) (w.heap.size + 2) (w.heap.size + 3)) := by
                    show NextAt _ _ _ _ _
                    rw [HSX.out, bestOf, List.foldl_append]
                    exact hn9
                  clear ht9 hn9 HTC HT8 HSX HTRY HPART
                  go_wp2_with fail
                  go_roundg (gk - 1)
                  case measure => have := HGJ.out; omega
                  case rel => exact ⟨1 + 1, by go_num, by omega, by have := HGJ.out; show gk - 1 + (1 + 1) = 2; omega, HA9.out, HT9.out⟩
          · obtain rfl : j = 2 := by omega
            clear hj2 hj
            have hAJ := HAJ.out
            simp only [show (2 : Nat) ≠ 0 by decide, show (2 : Nat) ≠ 1 by decide, if_false] at hAJ
            rw [← HNB.out] at hAJ
            have HAJ2 := Lib.hid hAJ
            clear hAJ
            go_wp2_with fail
            go_roundg (g1 - 1)
            case measure => have := HG.out; omega
            case rel => exact ⟨p + 1, by go_num, by omega, by have := HG.out; show g1 - 1 + (p + 1) = sz; omega, HAJ2.out, HTJ.out⟩
    · obtain rfl : p = sz := by omega
      have hN := HA.out
      have hBW : Below w.heap.size w wr := HB0.out.trans (HT.out.below.mono (by omega))
      have HRN := HSZ.out
      cases hbo : bestOf (fun T => sumNum (T.form 0) rows) (nbrsUp T p) with
      | none =>
        rw [hbo] at hN
        obtain ⟨k6, k7⟩ := hN
        have m6 := box_cell k6
        have m7 := box_cell k7
        have HFIN : Hid (∀ k, RetNext w T rows (.returned (.tuple #[.slice none 0 0, .int .i64 0])) (wr.drewN k)) :=
          Lib.hid fun k => ⟨Below.then hBW hBW.size (below_drewN wr k), by rw [← HRN, hbo]⟩
        clear hbo k6 k7 hBW HRN
        go_wp2_with fail
        go_quiet (fail)
        go_wp2_with fail
        go_ret2
        exact HFIN.out _
      | some B =>
        rw [hbo] at hN
        obtain ⟨gB, cB, k6, k7, hfB⟩ := hN
        have m6 := box_cell k6
        have m7 := box_cell k7
        have HFIN : Hid (∀ k, RetNext w T rows (.returned (.tuple #[.slice (some ⟨gB, 0, none⟩) B.size cB, .int .i64 (sumNum (B.form 0) rows : Int)])) (wr.drewN k)) :=
          Lib.hid fun k => ⟨Below.then hBW hBW.size (below_drewN wr k), by rw [← HRN, hbo]; exact ⟨gB, cB, rfl, hfB.below (below_drewN wr k)⟩⟩
        clear hbo k6 k7 hBW HRN hfB
        go_wp2_with fail
        go_quiet (fail)
        go_wp2_with fail
        go_ret2
        exact HFIN.out _
end Go.Proofs.Ytbmlkomfelkckaa
