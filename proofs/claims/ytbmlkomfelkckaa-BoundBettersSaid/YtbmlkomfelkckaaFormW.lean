/- bound's forms: run, part, glued. -/
import Derived.Test.YtbmlkomfelkckaaPutP
import Derived.Test.YtbmlkomfelkckaaAppRow
import Derived.Test.YtbmlkomfelkckaaPart
import Derived.Test.YtbmlkomfelkckaaCladeM
import Derived.Deep.QuietTactic
import Derived.BigQuiet
import Derived.Outline
namespace Go.Proofs.Ytbmlkomfelkckaa
open Go Go.RowKit
set_option maxRecDepth 100000

theorem take_moreB {α : Type} {l : List α} {k : Nat} {x : α} (h : l[k]? = some x) : l.take (k + 1) = l.take k ++ [x] := by
  obtain ⟨h1, h2⟩ := List.getElem?_eq_some_iff.1 h
  rw [List.take_succ_eq_append_getElem h1, h2]

theorem form_bound {T : NT} {base q : Nat} {x : Br} (h : (T.form base)[q]? = some x) : 0 ≤ x.a ∧ x.a ≤ base + q ∧ 0 ≤ x.b ∧ x.b ≤ base + q := by
  have hq : q < T.size := by have := (List.getElem?_eq_some_iff.1 h).1; rwa [NT.form_length] at this
  have hp := piece_at T base q (T.at q) (some_at hq)
  generalize T.at q = P at hp
  cases P with
  | leaf j =>
    rw [hp.2] at h
    cases h
    simp only
    omega
  | fork a b =>
    have h1 : a.size + b.size + 1 ≤ q + 1 := hp.1
    rw [hp.2.1] at h
    cases h
    have pa := a.size_pos
    simp only
    omega

/-- Branches at the head of a block. -/
structure FAt (w : World) (g c : Nat) (xs : List Br) : Prop where
  cap : xs.length ≤ c
  pos : 0 < xs.length
  lt : g < w.heap.size
  top : c ≤ 9223372036854775807
  cells : ∀ (j : Nat) (u : Value), (brs xs)[j]? = some u → w.cell? ⟨g, j, none⟩ = some u

theorem FAt.below {w w' : World} {g c : Nat} {xs : List Br} (h : FAt w g c xs) (hb : Below w.heap.size w w') : FAt w' g c xs :=
  ⟨h.cap, h.pos, Nat.lt_of_lt_of_le h.lt hb.size, h.top, fun j u hu => cell_below hb h.lt (h.cells j u hu)⟩

theorem FAt.rd {w : World} {g c : Nat} {xs : List Br} (h : FAt w g c xs) : RdBr w (some ⟨g, 0, none⟩) xs := by
  intro i x hx
  obtain ⟨h0, h1, h2⟩ := brs_get xs i x hx
  refine ⟨_, rfl, ?_, ?_, ?_⟩
  · rw [add_plain]; exact h.cells _ _ h0
  · rw [add_plain]; exact h.cells _ _ h1
  · rw [add_plain]; exact h.cells _ _ h2

theorem FAt.own {w : World} {base n c : Nat} {A : Option Addr} {xs : List Br} (h : w.ownsRow base 64 3 (.slice A n c) n (brs xs)) (hn : 0 < n) : ∃ g, A = some ⟨g, 0, none⟩ ∧ base ≤ g ∧ n = xs.length ∧ FAt w g c xs := by
  have hl : xs.length = n := by have := h.1; rw [brs_length] at this; omega
  obtain ⟨g, rfl, hg, hb, hc⟩ := own_at h hn
  obtain ⟨A', c', he, hcap⟩ := own_slice h
  obtain ⟨_, rfl⟩ : some (⟨g, 0, none⟩ : Addr) = A' ∧ c = c' := by simpa using he
  refine ⟨g, rfl, hb, hl.symm, by omega, by omega, hg, ?_, fun j u hu => ?_⟩
  · rcases h.2 with ⟨h1, _⟩ | ⟨g', cap, cur, h1, _, _, _, h2, _⟩
    · cases h1
    · obtain ⟨_, rfl⟩ : g = g' ∧ c = cap := by simpa using h1
      simpa only [maxLen] using h2
  · have := hc j u hu
    rwa [add_plain] at this

/-- What a call that answers these branches leaves. -/
def RetF (w : World) (xs : List Br) (e : Ending) (w' : World) : Prop :=
  ∃ g c, e = .returned (.slice (some ⟨g, 0, none⟩) xs.length c) ∧ FAt w' g c xs ∧ Below w.heap.size w w' ∧ w.heap.size ≤ g

set_option maxHeartbeats 1000000 in
theorem run_calls (g c q : Nat) (T P : NT) (w : World) (hf : FAt w g c (T.form 0)) (hP : T.pieces[q]? = some P) (hz : T.size ≤ 1000) :
    Calls Try.prog 106 #[.slice (some ⟨g, 0, none⟩) T.size c, .int .i64 (q : Int)] w fun e w' => e = .returned (.int .i64 ((q + 1 - P.size : Nat) : Int)) ∧ ∃ k, w' = w.drewN k := by
  have HF := Lib.hid hf.rd
  have hq : q < T.size := by have := (List.getElem?_eq_some_iff.1 hP).1; rwa [pieces_length] at this
  have HP := Lib.hid hP
  clear hf hP
  go_enter Try.func106, Try.ntmps106
  go_wp2_with fail
  go_loopg [1] q (fun gk v1 wr => ∃ (r : Nat) (R : NT), v1 = .int .i64 r ∧ r < T.size ∧ Hid (gk = r) ∧ Hid (T.pieces[r]? = some R) ∧ Hid (r + 1 - R.size = q + 1 - P.size) ∧ Hid (∃ k, wr = w.drewN k))
  case atStart => exact ⟨q, P, rfl, hq, rfl, HP.out, rfl, 0, rfl⟩
  case round =>
    obtain ⟨r, R, rfl, hr, HG, HR, HS, HW⟩ := hrel
    have hpc := piece_at T 0 r R HR.out
    have hbw : Below w.heap.size w wr := by
      obtain ⟨k, hk⟩ := HW.out
      rw [hk]
      exact below_drewN w k
    cases R with
    | leaf j =>
      obtain ⟨ad, he, d0, d1, d2⟩ := HF.out.below hbw r _ hpc.2
      obtain rfl : (⟨g, 0, none⟩ : Addr) = ad := by simpa using he
      rw [add_plain] at d0 d1 d2
      have hrI : (r : Int) < (T.size : Int) := by omega
      have HE : Hid (q + 1 - P.size = r) := by have := HS.out; simp only [NT.size] at this; show _ = _; omega
      clear hpc he hbw
      dsimp only at d0 d1 d2
      go_wp2_with fail
      go_quiet (fail)
      go_wp2_with fail
      go_ret
      refine ⟨by rw [HE.out]; rfl, ?_⟩
      obtain ⟨k, hk⟩ := HW.out
      exact ⟨_, by rw [hk, World.drewN_drewN]⟩
    | fork a b =>
      obtain ⟨ad, he, d0, d1, d2⟩ := HF.out.below hbw r _ hpc.2.1
      obtain rfl : (⟨g, 0, none⟩ : Addr) = ad := by simpa using he
      rw [add_plain] at d0 d1 d2
      have hrI : (r : Int) < (T.size : Int) := by omega
      have pa := a.size_pos
      have pb := b.size_pos
      have hsz := hpc.1
      simp only [NT.size] at hsz
      obtain ⟨r', hr'⟩ : ∃ r' : Nat, r' = r - b.size - 1 := ⟨_, rfl⟩
      have e1 : ((0 + r : Nat) : Int) - b.size - 1 = (r' : Int) := by omega
      have e2 : ((0 + r : Nat) : Int) - 1 = ((r - 1 : Nat) : Int) := by omega
      simp only [e1, e2] at d0 d1 d2
      have f1 : ((r' : Int) != ((r - 1 : Nat) : Int)) = true := by rw [bne_iff_ne]; omega
      have HA : Hid (T.pieces[r']? = some a) := by rw [hr']; exact hpc.2.2.1
      have HS2 : Hid (r' + 1 - a.size = q + 1 - P.size) := by have := HS.out; simp only [NT.size] at this; show _ = _; omega
      have HLT : Hid (r' < r) := by show _ < _; omega
      clear hpc he hbw e1 e2 hr' hsz
      go_wp2_with fail
      go_quiet (fail)
      go_wp2_with fail
      go_roundg r'
      case measure => have := HG.out; have := HLT.out; omega
      case rel =>
        refine ⟨r', a, rfl, by have := HLT.out; omega, rfl, HA.out, HS2.out, ?_⟩
        obtain ⟨k, hk⟩ := HW.out
        exact ⟨_, by rw [hk, World.drewN_drewN]⟩

set_option maxHeartbeats 2000000 in
theorem bpart_calls (g c q : Nat) (T P : NT) (w : World) (hf : FAt w g c (T.form 0)) (hP : T.pieces[q]? = some P) (hz : T.size ≤ 1000) (hc : c ≤ 9223372036854775807) :
    Calls Try.prog 78 #[.slice (some ⟨g, 0, none⟩) T.size c, .int .i64 (q : Int)] w (RetF w (P.form 0)) := by
  have hq : q < T.size := by have := (List.getElem?_eq_some_iff.1 hP).1; rwa [pieces_length] at this
  have HRUN := Lib.hid (run_calls g c q T P w hf hP hz)
  have hps := (piece_at T 0 q P hP).1
  have pp := P.size_pos
  obtain ⟨s, hs⟩ : ∃ s, s = q + 1 - P.size := ⟨_, rfl⟩
  rw [← hs] at HRUN
  have hsl := piece_slice T 0 q P hP
  rw [← hs, Nat.zero_add] at hsl
  have hcap := hf.cap
  rw [NT.form_length] at hcap
  obtain ⟨m, hm⟩ : ∃ m, m = P.size := ⟨_, rfl⟩
  rw [← hm] at hsl pp
  have HM := Lib.hid hm
  have HS : Hid (s + m = q + 1) := by show _ = _; omega
  have HE : Hid (∀ (k : Nat) (x : Br), k < m → (T.form 0)[s + k]? = some x → (P.form 0)[k]? = some (shiftBr (-(s : Int)) x)) := by
    refine Lib.hid fun k x hk hx => ?_
    rw [← form_shift P s 0 (-(s : Int)) (by omega), List.getElem?_map, ← hsl, List.getElem?_take, if_pos hk, List.getElem?_drop, hx]
    rfl
  have HF := Lib.hid hf.rd
  have hql : (q : Int) + 1 ≤ c := by omega
  have hsI : (s : Int) ≤ q := by have := HS.out; omega
  clear hP hs hsl hps hm
  go_enter Try.func78, Try.ntmps78
  go_wp2_with fail
  refine HRUN.out.mono ?_
  rintro e w1 ⟨rfl, k1, hk1⟩
  have HB1 : Hid (Below w.heap.size w w1) := by show Below _ _ _; rw [hk1]; exact below_drewN w k1
  clear hk1
  go_wp2_with fail
  rw [show q + 1 - s = m by have := HS.out; omega]
  go_loopg [6, 18] m (fun gk v6 v18 wr => ∃ (k : Nat) (A6 : Option Addr) (c6 : Nat), v18 = .int .i64 k ∧ v6 = .slice A6 k c6 ∧ k ≤ m ∧ Hid (gk + k = m) ∧ Hid (Below w.heap.size w wr) ∧ Hid (wr.ownsRow w.heap.size 64 3 (.slice A6 k c6) k (brs ((P.form 0).take k))))
  case atStart => exact ⟨0, none, 0, rfl, rfl, Nat.zero_le _, rfl, HB1.out, World.ownsRow_nil _ _ _ _⟩
  case round =>
    obtain ⟨k, A6, c6, rfl, rfl, hk, HG, HB, HO⟩ := hrel
    have hz0 := HB.out.size
    by_cases hkm : k < m
    · obtain ⟨x, hx⟩ : ∃ x, (T.form 0)[s + k]? = some x := ⟨_, List.getElem?_eq_getElem (by rw [NT.form_length]; have := HS.out; omega)⟩
      obtain ⟨ad, he, d0, d1, d2⟩ := HF.out.below HB.out (s + k) x hx
      obtain rfl : (⟨g, 0, none⟩ : Addr) = ad := by simpa using he
      rw [add_plain, show (s + k) * 3 = s * 3 + k * 3 by omega] at d0 d1 d2
      dsimp only at d0 d1 d2
      have HX := Lib.hid (HE.out k x hkm hx)
      have hbd := form_bound (base := 0) hx
      have hT : T.size ≤ 1000 := hz
      have hkI : (k : Int) < (m : Int) := by omega
      have hmI : (m : Int) ≤ 1000 := by have := HS.out; omega
      have hk2 : k + 1 ≤ 1000000000 := by omega
      clear hx he
      by_cases hab : x.a = x.b
      · have f1 : (x.a != x.b) = false := by rw [bne_eq_false_iff_eq]; exact hab
        have HN : Hid (brs ((P.form 0).take (k + 1)) = brs ((P.form 0).take k) ++ x.cells) := by
          have h := HX.out
          rw [shiftBr, if_pos hab] at h
          rw [take_moreB h, brs_snoc]
          exact rfl
        clear hab
        go_wp2_with (at_builtin; refine walk_append1 (own_alloc HO.out _) (by simp; omega) hk2 24 Try.underlying24 info_brP ⟨rfl, by decide, by decide⟩ _ (one3 _ _ _) (by exact ⟨rfl, rfl, rfl, rfl, by simp⟩) ?_; intro v1 w3 ho3 hu3)
        obtain ⟨A7, c7, rfl, _⟩ := own_slice ho3
        go_roundg (gk - 1)
        case measure => have := HG.out; omega
        case rel => exact ⟨k + 1, A7, c7, by go_num, rfl, by omega, by have := HG.out; show gk - 1 + (k + 1) = m; omega, HB.out.trans (((below_alloc wr _).mono hz0).trans (hu3.below (by simp; omega) (own_base HO.out))), by rw [HN.out]; exact ho3⟩
      · have f1 : (x.a != x.b) = true := by rw [bne_iff_ne]; exact hab
        have HN : Hid (brs ((P.form 0).take (k + 1)) = brs ((P.form 0).take k) ++ [.int .i64 x.leaf, .int .i64 (x.a - s), .int .i64 (x.b - s)]) := by
          have h := HX.out
          rw [shiftBr, if_neg hab] at h
          rw [take_moreB h, brs_snoc]
          exact rfl
        obtain ⟨b1, b2, b3, b4⟩ := hbd
        have b5 : -1000 ≤ x.a - s := by omega
        have b6 : -1000 ≤ x.b - s := by omega
        clear hab
        go_wp2_with (at_builtin; refine walk_append1 (own_alloc HO.out _) (by simp; omega) hk2 24 Try.underlying24 info_brP ⟨rfl, by decide, by decide⟩ _ (one3 _ _ _) (by exact ⟨rfl, rfl, rfl, rfl, by simp⟩) ?_; intro v1 w3 ho3 hu3)
        obtain ⟨A7, c7, rfl, _⟩ := own_slice ho3
        go_roundg (gk - 1)
        case measure => have := HG.out; omega
        case rel => exact ⟨k + 1, A7, c7, by go_num, rfl, by omega, by have := HG.out; show gk - 1 + (k + 1) = m; omega, HB.out.trans (((below_alloc wr _).mono hz0).trans (hu3.below (by simp; omega) (own_base HO.out))), by rw [HN.out]; exact ho3⟩
    · have HKM : Hid (k = P.size) := by show _ = _; have := HM.out; omega
      go_wp2_with fail
      go_ret
      have ho := HO.out
      rw [List.take_of_length_le (by rw [NT.form_length]; exact Nat.le_of_eq HKM.out.symm)] at ho
      obtain ⟨g', he, hge, hl, hF'⟩ := FAt.own ho (by omega)
      subst he
      exact ⟨g', c6, by rw [hl]; rfl, hF', HB.out, by first | exact hge | omega⟩

/-- 'append(s, x...)' of branches that lie at the head of a block. -/
theorem walk_appendF {P : Program} {ops : Array Oper} {rest : List Oper} {o : Oper} {a : Act} {Q : Exit → Act → World → Prop} {W : World} {base g c : Nat} {v : Value} {n : Nat} {xs : List Value} {ys : List Br}
    (HO : W.ownsRow base 64 3 v n xs) (hF : FAt W g c ys) (hbase : base ≤ W.heap.size) (hl : n + ys.length ≤ 1000000000) (t : TypeId) (ht : P.underlying t = some (.slice 64)) {z : Value} {bytes : Nat}
    (hinfo : (P.info? 64).map (fun i => (i.zero, i.size, i.bytes)) = some (some z, 3, bytes)) (hz : z.cells.size = 3 ∧ bytes ≤ 1000)
    {s x : Operand} (hop : o.guard = none ∧ o.op = .call { callee := .builtin .append, args := #[s, x], argTypes := #[t, t] } ∧ a.eval s = v ∧ a.eval x = .slice (some ⟨g, 0, none⟩) ys.length c)
    (h : ∀ v1 w1, w1.ownsRow base 64 3 v1 (n + ys.length) (xs ++ brs ys) → Upd W w1 v v1 → wpList P ops Q rest (a.put o.dst v1) w1) :
    wpList P ops Q (o :: rest) a W := by
  obtain ⟨hgd, ho, hs, hx⟩ := hop
  obtain ⟨i0, hi, hz0, hz1, hz2⟩ := info_parts hinfo
  have hb : (n + ys.length) * bytes ≤ 1000000000 * 1000 := Nat.mul_le_mul hl hz.2
  refine wpList_append_own_at W hgd s x t ho base 64 i0 z 3 bytes ht hi hz0 hz1 hz2 hz.1 (by decide) v n xs hs HO ⟨g, 0, none⟩ ys.length c (brs ys) hx (brs_length ys) (fun j u hj => by rw [add_plain]; exact hF.cells j u hj) (brs_one ys) (by simp only [maxLen]; omega) (by omega) hbase ?_
  intro v1 w1 hown hg _ hat
  refine h v1 w1 hown ⟨hg, ?_⟩
  rcases hat with hat | hat
  · exact .inl hat
  · exact .inr ⟨_, hat, Nat.le_refl _⟩

set_option maxHeartbeats 2000000 in
theorem glued_calls (g1 c1 g2 c2 : Nat) (X Y : NT) (w : World) (h1 : FAt w g1 c1 (X.form 0)) (h2 : FAt w g2 c2 (Y.form 0)) (hx : X.size ≤ 1000) (hy : Y.size ≤ 1000) :
    Calls Try.prog 77 #[.slice (some ⟨g1, 0, none⟩) X.size c1, .slice (some ⟨g2, 0, none⟩) Y.size c2] w (RetF w ((NT.fork X Y).form 0)) := by
  have HF := Lib.hid h2.rd
  have HX := Lib.hid (h1.below (below_alloc w (.cells #[] 64)))
  have px := X.size_pos
  have py := Y.size_pos
  have HLX := Lib.hid (NT.form_length X 0)
  obtain ⟨m, hm⟩ : ∃ m, m = Y.size := ⟨_, rfl⟩
  obtain ⟨lx, hlx⟩ : ∃ lx, lx = X.size := ⟨_, rfl⟩
  have HE : Hid (∀ (k : Nat) (x : Br), (Y.form 0)[k]? = some x → (Y.form lx)[k]? = some (shiftBr (lx : Int) x)) := by
    refine Lib.hid fun k x hk => ?_
    rw [← form_shift Y 0 lx (lx : Int) (by omega), List.getElem?_map, hk]
    rfl
  rw [← hm] at hy py ⊢
  rw [← hlx] at hx px HLX ⊢
  have HM := Lib.hid hm
  have HL := Lib.hid hlx
  clear h1 h2 hm hlx
  go_enter Try.func77, Try.ntmps77
  go_wp2_with (at_builtin; refine walk_appendF (own_new w #[] 64 3 0 w.heap.size (Nat.le_refl _) rfl (by omega)) HX.out (by simp) (by rw [HLX.out]; omega) 24 Try.underlying24 info_brP ⟨rfl, by decide⟩ (by rw [HLX.out]; exact ⟨rfl, rfl, rfl, rfl⟩) ?_; intro v1 w1 ho1 hu1)
  rw [HLX.out] at ho1
  simp only [Nat.zero_add, List.nil_append] at ho1
  obtain ⟨A1, d1, rfl, _⟩ := own_slice ho1
  have HB1 := Lib.hid ((below_alloc w (.cells #[] 64)).trans (hu1.below (by simp) (by simp [Value.ownBlock])))
  have HO1 := Lib.hid ho1
  clear ho1 hu1
  go_wp2_with fail
  go_loopg [5, 13] m (fun gk v5 v13 wr => ∃ (k : Nat) (A6 : Option Addr) (c6 : Nat), v13 = .int .i64 k ∧ v5 = .slice A6 (lx + k) c6 ∧ k ≤ m ∧ Hid (gk + k = m) ∧ Hid (Below w.heap.size w wr) ∧ Hid (wr.ownsRow w.heap.size 64 3 (.slice A6 (lx + k) c6) (lx + k) (brs (X.form 0 ++ (Y.form lx).take k))))
  case atStart => exact ⟨0, A1, d1, rfl, rfl, Nat.zero_le _, rfl, HB1.out, by rw [List.take_zero, List.append_nil]; exact HO1.out⟩
  case round =>
    obtain ⟨k, A6, c6, rfl, rfl, hk, HG, HB, HO⟩ := hrel
    have hz0 := HB.out.size
    by_cases hkm : k < m
    · obtain ⟨x, hx'⟩ : ∃ x, (Y.form 0)[k]? = some x := ⟨_, List.getElem?_eq_getElem (by rw [NT.form_length]; have := HM.out; omega)⟩
      obtain ⟨ad, he, d0, e1, e2⟩ := HF.out.below HB.out k x hx'
      obtain rfl : (⟨g2, 0, none⟩ : Addr) = ad := by simpa using he
      rw [add_plain] at d0 e1 e2
      dsimp only at d0 e1 e2
      have HXE := Lib.hid (HE.out k x hx')
      have hbd := form_bound (base := 0) hx'
      have hkI : (k : Int) < (m : Int) := by omega
      have hk2 : lx + k + 1 ≤ 1000000000 := by omega
      clear hx' he
      by_cases hab : x.a = x.b
      · have f1 : (x.a != x.b) = false := by rw [bne_eq_false_iff_eq]; exact hab
        have HN : Hid (brs (X.form 0 ++ (Y.form lx).take (k + 1)) = brs (X.form 0 ++ (Y.form lx).take k) ++ x.cells) := by
          have h := HXE.out
          rw [shiftBr, if_pos hab] at h
          rw [take_moreB h, ← List.append_assoc, brs_snoc]
          exact rfl
        clear hab
        go_wp2_with (at_builtin; refine walk_append1 (own_alloc HO.out _) (by simp; omega) hk2 24 Try.underlying24 info_brP ⟨rfl, by decide, by decide⟩ _ (one3 _ _ _) (by exact ⟨rfl, rfl, rfl, rfl, by simp⟩) ?_; intro v1 w3 ho3 hu3)
        obtain ⟨A7, c7, rfl, _⟩ := own_slice ho3
        go_roundg (gk - 1)
        case measure => have := HG.out; omega
        case rel => exact ⟨k + 1, A7, c7, by go_num, rfl, by omega, by have := HG.out; show gk - 1 + (k + 1) = m; omega, HB.out.trans (((below_alloc wr _).mono hz0).trans (hu3.below (by simp; omega) (own_base HO.out))), by rw [HN.out]; exact ho3⟩
      · have f1 : (x.a != x.b) = true := by rw [bne_iff_ne]; exact hab
        have HN : Hid (brs (X.form 0 ++ (Y.form lx).take (k + 1)) = brs (X.form 0 ++ (Y.form lx).take k) ++ [.int .i64 x.leaf, .int .i64 (x.a + lx), .int .i64 (x.b + lx)]) := by
          have h := HXE.out
          rw [shiftBr, if_neg hab] at h
          rw [take_moreB h, ← List.append_assoc, brs_snoc]
          exact rfl
        obtain ⟨b1, b2, b3, b4⟩ := hbd
        clear hab
        go_wp2_with (at_builtin; refine walk_append1 (own_alloc HO.out _) (by simp; omega) hk2 24 Try.underlying24 info_brP ⟨rfl, by decide, by decide⟩ _ (one3 _ _ _) (by exact ⟨rfl, rfl, rfl, rfl, by simp⟩) ?_; intro v1 w3 ho3 hu3)
        obtain ⟨A7, c7, rfl, _⟩ := own_slice ho3
        go_roundg (gk - 1)
        case measure => have := HG.out; omega
        case rel => exact ⟨k + 1, A7, c7, by go_num, rfl, by omega, by have := HG.out; show gk - 1 + (k + 1) = m; omega, HB.out.trans (((below_alloc wr _).mono hz0).trans (hu3.below (by simp; omega) (own_base HO.out))), by rw [HN.out]; exact ho3⟩
    · have HKM : Hid (k = m) := Lib.hid (by omega)
      have hk2 : lx + k + 1 ≤ 1000000000 := by omega
      go_wp2_with (at_builtin; refine walk_append1 HO.out hz0 hk2 24 Try.underlying24 info_brP ⟨rfl, by decide, by decide⟩ _ (one3 _ _ _) (by exact ⟨rfl, rfl, rfl, rfl, rfl⟩) ?_; intro v1 w3 ho3 hu3)
      obtain ⟨A7, c7, rfl, _⟩ := own_slice ho3
      go_ret
      have ho := ho3
      rw [HKM.out, List.take_of_length_le (by rw [NT.form_length]; have := HM.out; omega)] at ho
      have e1 : brs ((NT.fork X Y).form 0) = brs (X.form 0 ++ Y.form lx) ++ [Value.int .i64 0, .int .i64 ((lx : Int) - 1), .int .i64 ((lx : Int) + (m : Int) - 1)] := by
        have h1 := HL.out
        have h2 := HM.out
        rw [show (NT.fork X Y).form 0 = X.form 0 ++ Y.form lx ++ [⟨0, (lx : Int) - 1, (lx : Int) + (m : Int) - 1⟩] by simp [NT.form, h1, h2], brs_snoc]
        exact rfl
      rw [← e1] at ho
      obtain ⟨g', he, hge, hl, hF'⟩ := FAt.own ho (by omega)
      subst he
      exact ⟨g', c7, by rw [← hl, HKM.out]; rfl, hF', HB.out.trans (hu3.below hz0 (own_base HO.out)), by first | exact hge | omega⟩
end Go.Proofs.Ytbmlkomfelkckaa
