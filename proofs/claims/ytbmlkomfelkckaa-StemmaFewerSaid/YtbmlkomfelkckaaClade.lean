/- tree.Clades. -/
import Derived.Test.YtbmlkomfelkckaaCladeM
import Derived.Test.YtbmlkomfelkckaaTree
import Derived.Deep.RegionHeld3
namespace Go.Proofs.Ytbmlkomfelkckaa
open Go Go.RowKit
set_option maxRecDepth 100000

/-- What Clades leaves. -/
def RetClades (w : World) (r : Option (List (List Int))) (e : Ending) (w' : World) : Prop :=
  Below w.heap.size w w' ∧ match r with
    | none => e = .returned (.tuple #[.slice none 0 0, .int .i64 200])
    | some L => ∃ A c vs, e = .returned (.tuple #[.slice A L.length c, .int .i64 0]) ∧ w'.ownsRow w.heap.size 43 1 (.slice A L.length c) L.length vs ∧ RowsAt w'.heap.size w' w.heap.size vs L

theorem info_row : (Try.prog.info? 43).map (fun i => (i.zero, i.size, i.bytes)) = some (some (.slice none 0 0), 1, 24) := by kernel_rfl

/-- What is told of the form of what was read. -/
theorem form_facts {leaves : Int} {bs : List Br} {T : NT} (h : rdRoot leaves bs = some T) : RawOk T.size (T.form 0) ∧ T.size ≤ 23 ∧ 0 < T.size ∧ (T.form 0).length = T.size := by
  obtain ⟨h1, h2, h3⟩ := rdRoot_leaves h
  obtain ⟨h4, h5, h6, h7⟩ := rdRoot_size h
  exact ⟨rawOk_form h1 h2 h5 h6 h3, by omega, T.size_pos, NT.form_length T 0⟩

set_option maxHeartbeats 4000000 in
theorem clades_calls (A : Option Addr) (n c : Nat) (xs : List Br) (leaves : Int) (w : World) (hr : RdBr w A xs) (hxn : xs.length = n) (hn : n ≤ 9223372036854775807) (hl1 : -9223372036854775808 ≤ leaves) (hl2 : leaves ≤ 9223372036854775807) :
    Calls Try.prog 46 #[.agg #[.slice A n c], .int .i64 leaves] w (RetClades w ((rdRoot leaves xs).map NT.clades)) := by
  have HF := Lib.hid (fun (W : World) (h : RdBr W A xs) => form_calls A n c xs leaves W h hxn hn hl1 hl2)
  have HR := Lib.hid hr
  cases hrd : rdRoot leaves xs with
  | none =>
    rw [hrd] at HF
    clear hr hrd
    go_enter Try.func46, Try.ntmps46
    go_wp2_with fail
    refine (HF.out _ (HR.out.below (below_alloc w _))).mono ?_
    rintro e w1 ⟨hb, rfl⟩
    have HB := Lib.hid (Below.then (below_alloc w _) (by simp) hb)
    clear hb
    go_wp2_with fail
    go_ret2
    exact ⟨HB.out.alloc HB.out.size _, rfl⟩
  | some T =>
    rw [hrd] at HF
    obtain ⟨hok, hz23, hzp, hlen⟩ := form_facts hrd
    have HOK := Lib.hid hok
    have HLN := Lib.hid hlen
    clear hr hrd hok hlen hxn
    go_enter Try.func46, Try.ntmps46
    go_wp2_with fail
    refine (HF.out _ (HR.out.below (below_alloc w _))).mono ?_
    rintro e w1 ⟨hb, A1, c1, rfl, ho⟩
    have HB := Lib.hid (Below.then (below_alloc w _) (by simp) hb)
    have HRD := Lib.hid ((own_rd ho).1.below (below_alloc w1 (.cells #[.slice A1 T.size c1] 26)))
    have HB1 := Lib.hid (HB.out.alloc HB.out.size (.cells #[.slice A1 T.size c1] 26))
    have b6 := new_cell w1 #[.slice A1 T.size c1] 26 0
    have z6 : w1.heap.size < (w1.alloc (.cells #[.slice A1 T.size c1] 26)).heap.size := by simp
    obtain ⟨n1, hn1⟩ : ∃ n1, n1 = T.size := ⟨_, rfl⟩
    rw [← hn1] at HRD HOK HLN hz23 hzp b6 z6 HB1 ⊢
    have hmk := run_make_row' (P := Try.prog) 34 43 (.slice none 0 0) 24 Try.underlying34 info_row rfl .i64 .i64 n1 (by omega) (by omega)
    have HN1 := Lib.hid hn1
    have hnI : (n1 : Int) ≤ 23 := by omega
    have HZ : Hid ((w1.alloc (.cells #[.slice A1 n1 c1] 26)).heap.size = w1.heap.size + 1) := by show _ = _; simp
    clear hb ho hn1
    go_wp2_with fail
    generalize w1.alloc (.cells #[.slice A1 n1 c1] 26) = W0 at *
    go_loopg [8, 28] n1 (fun gk v8 v28 wr => ∃ (k : Nat) (u A8 : Value), v28 = .int .i64 k ∧ k ≤ n1 ∧ Hid (gk + k = n1) ∧ v8 = A8 ∧ (∃ A c m, A8 = .slice A m c) ∧ Hid (CInv wr.heap.size W0 wr n1 (T.form 0) k A8 u))
    case atStart => exact ⟨0, _, _, rfl, Nat.zero_le _, rfl, rfl, ⟨_, _, _, rfl⟩, (CInv.start W0 n1 (T.form 0)).mono (by simp) (Nat.le_refl _)⟩
    case round =>
      obtain ⟨k, u, A8, rfl, hk, HG, rfl, ⟨A8, c8, m8, rfl⟩, HI⟩ := hrel
      clear hmk
      by_cases hkn : k < n1
      · obtain ⟨x, hx⟩ : ∃ x, (T.form 0)[k]? = some x := ⟨_, List.getElem?_eq_getElem (by have := HLN.out; omega)⟩
        have hcase := HOK.out.at hx
        have hbr := HOK.out.ok k x hx
        obtain ⟨ad, he, d0, d1, d2⟩ := HRD.out.below HI.out.below k x hx
        subst he
        have hadl := World.block_lt_of_cell? wr _ d0
        have hkI : (k : Int) < (n1 : Int) := by omega
        obtain ⟨f, r1, r2, r3⟩ := HI.out.row
        have s1 := HI.out.size
        have gz := HZ.out
        have HBB := Lib.hid (below_alloc wr (.cells #[.int .i64 x.leaf, .int .i64 x.a, .int .i64 x.b] 64))
        have q0 := new_cell wr #[.int .i64 x.leaf, .int .i64 x.a, .int .i64 x.b] 64 0
        have q1 := new_cell wr #[.int .i64 x.leaf, .int .i64 x.a, .int .i64 x.b] 64 1
        have q2 := new_cell wr #[.int .i64 x.leaf, .int .i64 x.a, .int .i64 x.b] 64 2
        have rk := cell_below HBB.out (by omega) (r1.cell (i := k) hkn)
        have rf := frozen_below HBB.out (by omega) (r1.frozen k)
        have HI2 := Lib.hid (HI.out.beside HBB.out)
        have zz : w1.heap.size + 1 < wr.heap.size := by omega
        rw [gz] at rk rf
        have HX := Lib.hid hx
        rcases hcase with ⟨h1, h2, h3, h4⟩ | ⟨h0, p0, p1, p2, p3, h4⟩
        · have f0 : (x.a == x.b) = true := by rw [h1, h2]; rfl
          have HC : Hid ((rawAt (T.form 0) k).cl = [] ∧ sortI (rawAt (T.form 0) k).lv = [x.leaf] ∧ k < (T.form 0).length) := by
            refine ⟨by rw [h4]; rfl, ?_, by have := HLN.out; omega⟩
            rw [h4, NT.lv, NT.leaves, List.map_cons, List.map_nil, sortI_one]
            congr 1
            omega
          have hb2 := below_alloc (wr.alloc (.cells #[.int .i64 x.leaf, .int .i64 x.a, .int .i64 x.b] 64)) (.cells #[.int .i64 x.leaf] 3)
          have rk2 := cell_below hb2 (by simp; omega) rk
          have rf2 := frozen_below hb2 (by simp; omega) rf
          have HI3 := Lib.hid ((HI2.out.beside hb2).set (.slice (some ⟨wr.heap.size + 1, 0, none⟩) 1 1))
          have HL : Hid (∃ u', CInv (wr.heap.size + 2) W0 (((wr.alloc (.cells #[.int .i64 x.leaf, .int .i64 x.a, .int .i64 x.b] 64)).alloc (.cells #[.int .i64 x.leaf] 3)).setCell ⟨W0.heap.size, k, none⟩ (.slice (some ⟨wr.heap.size + 1, 0, none⟩) 1 1)) n1 (T.form 0) (k + 1) (.slice A8 m8 c8) u') := by
            refine Lib.hid (CInv.leaf (HI3.out.mono (by omega) (by simp)) HC.out.2.2 HC.out.1 ?_)
            rw [HC.out.2.1]
            have ho := own_new (wr.alloc (.cells #[.int .i64 x.leaf, .int .i64 x.a, .int .i64 x.b] 64)) #[.int .i64 x.leaf] 3 1 1 wr.heap.size (by simp) rfl (by omega)
            rw [World.size_alloc] at ho
            have := RowAt.new (l := [x.leaf]) (ownsRow_setCell_below ho (a := ⟨W0.heap.size, k, none⟩) (show W0.heap.size < wr.heap.size by omega) (.slice (some ⟨wr.heap.size + 1, 0, none⟩) 1 1))
            exact this.mono (by simp) (by omega)
          rw [gz] at HL
          clear h1 h2 h3 h4 hbr r1 r2 r3 gz rk rf hx hb2
          go_wp2_with fail
          go_roundg (gk - 1)
          case measure => have := HG.out; omega
          case rel =>
            obtain ⟨u', hu'⟩ := HL.out
            exact ⟨k + 1, u', _, by go_num, by omega, by have := HG.out; show gk - 1 + (k + 1) = n1; omega, rfl, ⟨_, _, _, rfl⟩, hu'.mono (by simp) (Nat.le_refl _)⟩
        · have f0 : (x.a == x.b) = false := by
            rw [beq_eq_false_iff_ne]
            rcases hbr with h | h
            · exact absurd ⟨h.1, h.2.1⟩ h0
            · exact h.2.1
          obtain ⟨Aa, ca, ea, oa, -⟩ := r3 x.a.toNat (by omega)
          obtain ⟨Ab, cb, eb, ob, -⟩ := r3 x.b.toNat (by omega)
          have sa := HOK.out.small (i := x.a.toNat) (by omega)
          have sb := HOK.out.small (i := x.b.toNat) (by omega)
          obtain ⟨la, hla⟩ : ∃ la, sortI (rawAt (T.form 0) x.a.toNat).lv = la := ⟨_, rfl⟩
          obtain ⟨lb, hlb⟩ : ∃ lb, sortI (rawAt (T.form 0) x.b.toNat).lv = lb := ⟨_, rfl⟩
          have ra := cell_below HBB.out (by omega) (r1.cell (i := x.a.toNat) (by omega))
          have rb := cell_below HBB.out (by omega) (r1.cell (i := x.b.toNat) (by omega))
          rw [hla] at ea oa
          rw [hlb] at eb ob
          rw [ea, gz] at ra
          rw [eb, gz] at rb
          have HC : Hid ((rawAt (T.form 0) k).cl = [sortI (la ++ lb)] ∧ sortI (rawAt (T.form 0) k).lv = sortI (la ++ lb) ∧ k < (T.form 0).length) := by
            refine ⟨?_, ?_, by have := HLN.out; omega⟩
            · rw [h4, NT.cl, ← hla, ← hlb, sortI_two]
            · rw [h4, lv_fork, ← hla, ← hlb, sortI_two]
          have hna : 0 < la.length ∧ la.length ≤ 100000000 := by
            have := leaves_pos (rawAt (T.form 0) x.a.toNat)
            rw [← hla, sortI_length, lv_length] at *
            omega
          have hnb : 0 < lb.length ∧ lb.length ≤ 100000000 := by
            have := leaves_pos (rawAt (T.form 0) x.b.toNat)
            rw [← hlb, sortI_length, lv_length] at *
            omega
          have HOA := Lib.hid (own_below oa HBB.out)
          have HOB := Lib.hid (own_below ob HBB.out)
          obtain ⟨na, hna'⟩ : ∃ na, na = la.length := ⟨_, rfl⟩
          obtain ⟨nb, hnb'⟩ : ∃ nb, nb = lb.length := ⟨_, rfl⟩
          rw [← hna'] at ra hna HOA
          rw [← hnb'] at rb hnb HOB
          have HLL : Hid (na = la.length ∧ nb = lb.length) := ⟨hna', hnb'⟩
          clear h0 h4 hbr r1 r2 r3 gz hx hla hlb ea eb oa ob sa sb hna' hnb'
          go_wp2_with fail
          have hz2 : wr.heap.size < (wr.alloc (.cells #[.int .i64 x.leaf, .int .i64 x.a, .int .i64 x.b] 64)).heap.size := by simp
          generalize wr.alloc (.cells #[.int .i64 x.leaf, .int .i64 x.a, .int .i64 x.b] 64) = W2 at *
          have p4 : x.a < (n1 : Int) := by omega
          have p5 : x.b < (n1 : Int) := by omega
          have HK : Hid (∀ W' : World, Below W2.heap.size W2 W' → W'.cell? ⟨wr.heap.size, 1, none⟩ = some (.int .i64 x.a) ∧ W'.cell? ⟨wr.heap.size, 2, none⟩ = some (.int .i64 x.b) ∧ W'.cell? ⟨w1.heap.size + 1, x.a.toNat, none⟩ = some (.slice Aa na ca) ∧ W'.cell? ⟨w1.heap.size + 1, x.b.toNat, none⟩ = some (.slice Ab nb cb)) :=
            Lib.hid fun W' h => ⟨cell_below h hz2 q1, cell_below h hz2 q2, cell_below h (by omega) ra, cell_below h (by omega) rb⟩
          have HCC : Hid (∀ (W : World) (g : Nat), Below W2.heap.size W2 W → W.cell? ⟨g, 0, none⟩ = some (.slice Aa na ca) → W.cell? ⟨g, 1, none⟩ = some (.slice Ab nb cb) → Calls Try.prog 82 #[.slice (some ⟨g, 0, none⟩) 2 2] W (RetInts W (na + nb) (la ++ lb))) :=
            Lib.hid fun W g h h0 h1 => concat_calls g 2 Aa Ab na nb ca cb _ _ la lb W h0 h1 (own_below HOA.out h) (own_below HOB.out h) hna.1 hnb.1 (by omega) (by omega)
          have hd2 := (below_alloc W2 (.cells #[.slice Aa na ca, .slice Ab nb cb] 43)).drew
          have e0 := new_cell W2 #[.slice Aa na ca, .slice Ab nb cb] 43 0
          have e1 := new_cell W2 #[.slice Aa na ca, .slice Ab nb cb] 43 1
          go_region_held3 (fun w' => w'.cell? ⟨wr.heap.size, 1, none⟩ = some (.int .i64 x.a) ∧ w'.cell? ⟨wr.heap.size, 2, none⟩ = some (.int .i64 x.b) ∧ w'.cell? ⟨w1.heap.size + 1, x.a.toNat, none⟩ = some (.slice Aa na ca) ∧ w'.cell? ⟨w1.heap.size + 1, x.b.toNat, none⟩ = some (.slice Ab nb cb))
            (first
              | exact ⟨q1, q2, ra, rb⟩
              | exact HK.out _ hd2
              | exact HK.out _ HB5.out
              | (go_split_ands; exact ⟨mem_ne (.inl (by omega)) (by assumption), mem_ne (.inl (by omega)) (by assumption), mem_ne (.inr (by omega)) (by assumption), mem_ne (.inr (by omega)) (by assumption)⟩))
            (first
              | (go_at_call 82; refine (HCC.out _ _ hd2 e0 e1).mono ?_; rintro e w5 ⟨A5, c5, rfl, ho5, hb5⟩; have HB5 := Lib.hid (Below.then hd2 hd2.size hb5); have rk5 := cell_below HB5.out (by omega) rk; have rf5 := frozen_below HB5.out (by omega) rf))
          have HI5 := Lib.hid ((HI2.out.beside HB5.out).set (.slice A5 (na + nb) c5))
          have ct7 := set_cell_eq rk5 (.slice A5 (na + nb) c5)
          have z5 := HB5.out.size
          have hdz : W2.heap.size < (W2.alloc (.cells #[.slice Aa na ca, .slice Ab nb cb] 43)).drew.heap.size := by simp
          have o7 := ownsRow_setCell_below ho5 (a := ⟨w1.heap.size + 1, k, none⟩) (show w1.heap.size + 1 < _ by omega) (.slice A5 (na + nb) c5)
          have z7 : (w5.setCell ⟨w1.heap.size + 1, k, none⟩ (.slice A5 (na + nb) c5)).heap.size = w5.heap.size := by simp
          rw [HZ.out] at HI5
          generalize (w5.setCell ⟨w1.heap.size + 1, k, none⟩ (.slice A5 (na + nb) c5)) = W7 at *
          have HSRT := Lib.hid (sort_calls A5 (na + nb) c5 _ (la ++ lb) W7 o7 (by omega) (by omega))
          have HE7 := Lib.hid (own_elem o7)
          have HO7 := Lib.hid (own_base o7)
          clear o7 ho5 hb5 rk5 rf5 q1 q2 ra rb rk rf e0 e1 hd2 HK HCC
          go_wp2_with fail
          refine HSRT.out.mono ?_
          rintro e w8 ⟨rfl, ho8, hu8⟩
          have hb8 : Below W2.heap.size W7 w8 := hu8.below (by omega) (fun g hg => by have := HO7.out g hg; omega)
          have ct8 := cell_below hb8 (by omega) ct7
          have z8 := hb8.size
          have HI8 := Lib.hid (HI5.out.written hu8.1 (fun g hg => ⟨by have := HO7.out g hg; omega, by have := HO7.out g hg; have := HZ.out; omega, HE7.out g hg⟩))
          have HCL := Lib.hid (clone_calls A5 (na + nb) c5 _ (sortI (la ++ lb)) w8 ho8 (by omega) (by omega))
          have HO8 := Lib.hid ho8
          clear ho8 hu8 hb8 ct7
          go_wp2_with fail
          refine HCL.out.mono ?_
          rintro e w9 ⟨A9, c9, rfl, ho9, hb9⟩
          have HI9 := Lib.hid (HI8.out.beside hb9)
          have HO9 := Lib.hid ((RowAt.new (own_below HO8.out hb9)).mono (B' := w9.heap.size) (base' := W0.heap.size) (Nat.le_refl _) (by have := HZ.out; omega))
          have HX9 := Lib.hid ((RowAt.new ho9).mono (B' := w9.heap.size) (base' := W0.heap.size) (Nat.le_refl _) (by have := HZ.out; omega))
          obtain ⟨vs, hov, hrv⟩ := HI9.out.out
          have HOV := Lib.hid hov
          have HRV := Lib.hid hrv
          have z9 := hb9.size
          have hle := clUp_le (T.form 0) k (by have := HLN.out; omega)
          clear hov hrv ho9 hb9
          go_wp2_with (at_builtin; refine walk_append1 HOV.out (by have := HZ.out; omega) (by omega) 34 Try.underlying34 info_row ⟨rfl, by decide, by decide⟩ _ (oneSl _ _ _) (by exact ⟨rfl, rfl, rfl, rfl, rfl⟩) ?_; intro v10 w10 ho10 hu10)
          obtain ⟨A10, c10, rfl, _⟩ := own_slice ho10
          go_roundg (gk - 1)
          case measure => have := HG.out; omega
          case rel =>
            obtain ⟨u', hu'⟩ := CInv.fork HI9.out HC.out.2.2 HC.out.2.1 HC.out.1 HOV.out HRV.out HO9.out HX9.out ho10 hu10
            exact ⟨k + 1, u', _, by go_num, by omega, by have := HG.out; show gk - 1 + (k + 1) = n1; omega, rfl, ⟨_, _, _, rfl⟩, hu'⟩
      · have HKN : Hid (k = n1) := Lib.hid (by omega)
        obtain ⟨vs, hov, hrv⟩ := HI.out.out
        have HOV := Lib.hid hov
        have HRV := Lib.hid hrv
        clear hov hrv
        go_wp2_with fail
        go_ret2
        have hcl := clUp_all T
        rw [← HN1.out, ← HKN.out] at hcl
        have ho := HOV.out
        have hr := HRV.out
        rw [hcl] at ho hr
        obtain ⟨A', c', he, _⟩ := own_slice ho
        obtain ⟨rfl, rfl, rfl⟩ : A8 = A' ∧ m8 = T.clades.length ∧ c8 = c' := by simpa using he
        have hzz : w.heap.size ≤ W0.heap.size := HB1.out.size
        exact ⟨Below.then HB1.out hzz HI.out.below, _, _, vs, rfl, own_mono ho (by omega), hr.mono (Nat.le_refl _) hzz⟩
end Go.Proofs.Ytbmlkomfelkckaa
