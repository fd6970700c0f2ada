/- fitch.check, fitch.Site, fitch.Changes. -/
import Derived.Test.YtbmlkomfelkckaaFitch
import Derived.Test.YtbmlkomfelkckaaTree
namespace Go.Proofs.Ytbmlkomfelkckaa
open Go Go.RowKit
set_option maxRecDepth 100000

/-- The error of a tree and a matrix. -/
def errBoth (bs : List Br) (rows : List (List Int)) : Int := if matOk rows then okTree (rows.length : Int) bs else 190

theorem errBoth_zero {bs : List Br} {rows : List (List Int)} (h : errBoth bs rows = 0) : matOk rows = true ∧ (rdTree (rows.length : Int) bs).isSome = true := by
  unfold errBoth at h
  split at h
  · rename_i hm
    unfold okTree at h
    split at h
    · rename_i ht
      exact ⟨hm, ht⟩
    · cases h
  · cases h

theorem errBoth_cases (bs : List Br) (rows : List (List Int)) : errBoth bs rows = 0 ∨ errBoth bs rows = 190 ∨ errBoth bs rows = 200 := by
  unfold errBoth okTree
  split
  · split
    · exact .inl rfl
    · exact .inr (.inr rfl)
  · exact .inr (.inl rfl)

/-- A tree and a matrix as arguments. -/
structure TM (w : World) (A : Option Addr) (n : Nat) (bs : List Br) (A2 : Option Addr) (n2 : Nat) (rows : List (List Int)) : Prop where
  tree : RdBr w A bs
  len : bs.length = n
  cap : n ≤ 9223372036854775807
  mat : RdRows w A2 rows
  rlen : rows.length = n2
  rcap : n2 ≤ 9223372036854775807

theorem TM.below {w w' : World} {A A2 : Option Addr} {n n2 : Nat} {bs : List Br} {rows : List (List Int)} (h : TM w A n bs A2 n2 rows) (hb : Below w.heap.size w w') : TM w' A n bs A2 n2 rows :=
  ⟨h.tree.below hb, h.len, h.cap, h.mat.below hb, h.rlen, h.rcap⟩

theorem matOk_few' {rows : List (List Int)} (h : matOk rows = true) : 0 < rows.length ∧ rows.length ≤ 12 ∧ wid rows ≤ 4096 := by
  unfold matOk at h
  simp only [Bool.and_eq_true, decide_eq_true_eq] at h
  refine ⟨h.1, h.2.1, ?_⟩
  have hr := List.all_eq_true.1 h.2.2 _ (List.getElem_mem h.1)
  unfold rowOk at hr
  simp only [Bool.and_eq_true, decide_eq_true_eq] at hr
  omega

theorem two_below (w : World) (v1 v2 : Value) (e1 e2 : TypeId) : Below w.heap.size w ((w.alloc (.cells #[v1] e1)).alloc (.cells #[v2] e2)) :=
  Below.trans (below_alloc w _) ((below_alloc (w.alloc _) _).mono (by simp))

/-- Behind two boxes of the call's own. -/
theorem two_boxes {w w1 : World} {v1 v2 : Value} {e1 e2 : TypeId} (hb1 : Below ((w.alloc (.cells #[v1] e1)).alloc (.cells #[v2] e2)).heap.size ((w.alloc (.cells #[v1] e1)).alloc (.cells #[v2] e2)) w1) :
    Hid (Below w.heap.size w w1) ∧ w.heap.size + 1 < w1.heap.size ∧ w1.cell? ⟨w.heap.size, 0, none⟩ = some v1 ∧ w1.cell? ⟨w.heap.size + 1, 0, none⟩ = some v2 := by
  have h1 := new_cell w #[v1] e1 0
  have h2 := new_cell (w.alloc (.cells #[v1] e1)) #[v2] e2 0
  rw [World.size_alloc] at h2
  refine ⟨Below.trans (two_below w v1 v2 e1 e2) (hb1.mono (by simp; omega)), by have := hb1.size; simp at this; omega, cell_below hb1 (by simp; omega) ?_, cell_below hb1 (by simp) h2⟩
  exact (World.cell?_of_block (a := ⟨w.heap.size, 0, none⟩) (heap_alloc_old _ _ (by simp))).trans h1

set_option maxHeartbeats 400000 in
theorem both_calls (A : Option Addr) (n c : Nat) (bs : List Br) (A2 : Option Addr) (n2 c2 : Nat) (rows : List (List Int)) (w : World) (h : TM w A n bs A2 n2 rows) :
    Calls Try.prog 68 #[.agg #[.slice A n c], .agg #[.slice A2 n2 c2]] w fun e w' => e = .returned (.int .i64 (errBoth bs rows)) ∧ Below w.heap.size w w' := by
  have H := Lib.hid h
  have h0 : n2 ≤ 9223372036854775807 := h.rcap
  have HM := Lib.hid (fun (W : World) (hb : Below w.heap.size w W) => mcheck_calls A2 n2 c2 rows W (h.below hb).mat h.rlen h.rcap)
  clear h
  by_cases hm : matOk rows = true
  · have he : errMat rows = 0 := by unfold errMat; rw [if_pos hm]
    have HE : Hid (errMat rows = 0) := he
    have hf := matOk_few' hm
    have hn2 := H.out.rlen
    have HC := Lib.hid (fun (W : World) (hb : Below w.heap.size w W) => check_calls A n c bs (n2 : Int) W (H.out.below hb).tree H.out.len H.out.cap (by omega) (by omega))
    rw [show errBoth bs rows = okTree (n2 : Int) bs by unfold errBoth; rw [if_pos hm, hn2]]
    clear he hf hn2 hm
    go_enter Try.func68, Try.ntmps68
    go_wp2_with fail
    refine (HM.out _ (two_below _ _ _ _ _)).mono ?_
    rintro e w1 ⟨he, hb1⟩
    rw [HE.out] at he
    subst he
    obtain ⟨HB, hz, c0, c1⟩ := two_boxes hb1
    clear hb1
    go_wp2_with fail
    refine (HC.out _ HB.out).mono ?_
    rintro e w2 ⟨rfl, hb2⟩
    have HB2 := Lib.hid (Below.then HB.out (HB.out.size) hb2)
    clear hb2 c0 c1
    go_wp2_with fail
    go_ret
    exact ⟨rfl, HB2.out⟩
  · have HE : Hid (errMat rows = 190) := by show errMat rows = 190; unfold errMat; rw [if_neg hm]
    rw [show errBoth bs rows = 190 by unfold errBoth; rw [if_neg hm]]
    clear hm
    go_enter Try.func68, Try.ntmps68
    go_wp2_with fail
    refine (HM.out _ (two_below _ _ _ _ _)).mono ?_
    rintro e w1 ⟨he, hb1⟩
    rw [HE.out] at he
    subst he
    obtain ⟨HB, hz, c0, c1⟩ := two_boxes hb1
    clear hb1
    go_wp2_with fail
    go_ret
    exact ⟨rfl, HB.out⟩

/-- What fitch.Site answers. -/
def siteErr (bs : List Br) (rows : List (List Int)) (site : Int) : Int := if errBoth bs rows ≠ 0 then errBoth bs rows else if site < 0 ∨ (wid rows : Int) ≤ site then 2 else 0
def siteNum (bs : List Br) (rows : List (List Int)) (site : Int) : Nat := if siteErr bs rows site = 0 then (fall rows site.toNat bs).n else 0

theorem siteErr_zero {bs : List Br} {rows : List (List Int)} {site : Int} (h : siteErr bs rows site = 0) : matOk rows = true ∧ (rdTree (rows.length : Int) bs).isSome = true ∧ 0 ≤ site ∧ site < wid rows := by
  unfold siteErr at h
  split at h
  · rename_i h1
    exact absurd h h1
  · rename_i h1
    obtain ⟨h2, h3⟩ := errBoth_zero (Decidable.by_contra h1)
    split at h
    · cases h
    · rename_i h4
      exact ⟨h2, h3, by omega, by omega⟩


/-- The changes of the first sites together. -/
def fsum (rows : List (List Int)) (bs : List Br) : Nat → Nat
  | 0 => 0
  | k + 1 => fsum rows bs k + (fall rows k bs).n

theorem fall_few (rows : List (List Int)) (site : Nat) (bs : List Br) : (fall rows site bs).n ≤ bs.length := by
  have h : ∀ (bs : List Br) (s : FS), (bs.foldl (fstep rows site) s).n ≤ s.n + bs.length := by
    intro bs
    induction bs with
    | nil => intro s; simp
    | cons b bs ih =>
      intro s
      have h1 := ih (fstep rows site s b)
      have h2 := (fstep_length rows site s b).2
      simp only [List.foldl_cons, List.length_cons]
      omega
  have := h bs ⟨[], 0⟩
  simpa [fall] using this

theorem fsum_few (rows : List (List Int)) (bs : List Br) : ∀ k, fsum rows bs k ≤ k * bs.length
  | 0 => by simp [fsum]
  | k + 1 => by
    have h1 := fsum_few rows bs k
    have h2 := fall_few rows k bs
    rw [Nat.add_mul, Nat.one_mul]
    simp only [fsum]
    omega

/-- What fitch.Changes answers. -/
def sumNum (bs : List Br) (rows : List (List Int)) : Nat := if errBoth bs rows = 0 then fsum rows bs (wid rows) else 0

set_option maxHeartbeats 1000000 in
theorem sum_calls (A : Option Addr) (n c : Nat) (bs : List Br) (A2 : Option Addr) (n2 c2 : Nat) (rows : List (List Int)) (w : World) (h : TM w A n bs A2 n2 rows) :
    Calls Try.prog 30 #[.agg #[.slice A n c], .agg #[.slice A2 n2 c2]] w fun e w' => e = .returned (.tuple #[.int .i64 (sumNum bs rows : Int), .int .i64 (errBoth bs rows)]) ∧ Below w.heap.size w w' := by
  have H := Lib.hid h
  have HM := Lib.hid (fun (W : World) (hb : Below w.heap.size w W) => both_calls A n c bs A2 n2 c2 rows W (h.below hb))
  clear h
  by_cases h1 : errBoth bs rows = 0
  · obtain ⟨hm, ht⟩ := errBoth_zero h1
    have hf := matOk_few' hm
    have hl := H.out.rlen
    have hlen := H.out.len
    have hn : n ≤ 23 := by
      obtain ⟨l, hl'⟩ := Option.isSome_iff_exists.1 ht
      have := (rdTree_some hl').2.2.1
      omega
    have HC := Lib.hid (fun (W : World) (hb : Below w.heap.size w W) (site : Nat) (hs : site < wid rows) => changes_calls A n c bs A2 n2 c2 rows site W (H.out.below hb).tree (H.out.below hb).mat hlen hl (by omega) hm (by rw [← hl]; exact brOk_of ht) (by omega) (by omega))
    rw [h1, show sumNum bs rows = fsum rows bs (wid rows) by unfold sumNum; rw [if_pos h1]]
    have HE : Hid (errBoth bs rows = 0) := h1
    obtain ⟨r0, hr0, hw0⟩ := wid_at (rows := rows) hf.1
    obtain ⟨ad, A3, c3, hA, d0, -, hc0, hc1⟩ := H.out.mat 0 r0 hr0
    subst hA
    rw [show ad.add 0 = ad by simp [Addr.add], hw0] at d0
    have hlt0 := World.block_lt_of_cell? w _ d0
    rw [hw0] at hc0
    have hn2 : 0 < n2 := by omega
    have HF := Lib.hid (fsum_few rows bs)
    obtain ⟨m, hwm⟩ : ∃ m, wid rows = m := ⟨_, rfl⟩
    rw [hwm] at hf d0 hc0 HC ⊢
    have hm2 := hf.2.2
    clear h1 hm ht hf hr0 hw0 hwm
    go_enter Try.func30, Try.ntmps30
    go_wp2_with fail
    refine (HM.out _ (two_below _ _ _ _ _)).mono ?_
    rintro e w1 ⟨he, hb1⟩
    rw [HE.out] at he
    subst he
    obtain ⟨HB, hz, c0, c1⟩ := two_boxes hb1
    have d1 := (HB.out.cell hlt0).trans d0
    clear hb1
    go_wp2_with fail
    go_loopg [7, 20] m (fun gk v7 v20 wr => ∃ k : Nat, v7 = .int .i64 (fsum rows bs k : Int) ∧ v20 = .int .i64 k ∧ k ≤ m ∧ Hid (gk + k = m) ∧ Below w.heap.size w wr ∧ w1.heap.size ≤ wr.heap.size ∧ wr.cell? ⟨w.heap.size, 0, none⟩ = some (.slice A n c) ∧ wr.cell? ⟨w.heap.size + 1, 0, none⟩ = some (.slice (some ad) n2 c2))
    case atStart => exact ⟨0, rfl, rfl, Nat.zero_le _, rfl, HB.out, Nat.le_refl _, c0, c1⟩
    case round =>
      obtain ⟨k, rfl, rfl, hk, HG, hbw, hwz, k0, k1⟩ := hrel
      have HBW := Lib.hid hbw
      clear hbw c0 c1 d1
      have hfk := HF.out k
      have hlen2 := hlen
      have hfk2 : fsum rows bs k ≤ 4096 * 23 := Nat.le_trans hfk (Nat.mul_le_mul (by omega) (by omega))
      clear hfk hlen2
      by_cases hkm : k < m
      · have hfk3 := fall_few rows k bs
        have hfk4 : (fall rows k bs).n ≤ 23 := by omega
        clear hfk3 
        have HLEN := Lib.hid hlen
        clear hlen
        go_wp2_with fail
        refine (HC.out _ HBW.out k hkm).mono ?_
        rintro e w2 ⟨rfl, hb2⟩
        have HB2 := Lib.hid (Below.then HBW.out HBW.out.size hb2)
        have k0' := cell_below hb2 (by omega) k0
        have k1' := cell_below hb2 (by omega) k1
        have hwz' := Nat.le_trans hwz hb2.size
        clear hb2 k0 k1
        rw [Int.toNat_natCast]
        go_wp2_with fail
        go_roundg (gk - 1)
        case measure => have := HG.out; omega
        case rel => exact ⟨k + 1, by go_num, by go_num, by omega, by have := HG.out; show gk - 1 + (k + 1) = m; omega, HB2.out, hwz', k0', k1'⟩
      · have hkm' : k = m := by omega
        have HK := Lib.hid hkm'
        clear hkm'
        go_wp2_with fail
        go_ret2
        exact ⟨by rw [← HK.out]; rfl, HBW.out⟩
  · obtain ⟨er, her⟩ : ∃ er, errBoth bs rows = er := ⟨_, rfl⟩
    rw [show sumNum bs rows = 0 by unfold sumNum; rw [if_neg h1]]
    rw [her] at h1 ⊢
    have b1 : (er != 0) = true := by rw [bne_iff_ne]; exact h1
    have HE : Hid (errBoth bs rows = er) := her
    clear h1 her
    go_enter Try.func30, Try.ntmps30
    go_wp2_with fail
    refine (HM.out _ (two_below _ _ _ _ _)).mono ?_
    rintro e w1 ⟨he, hb1⟩
    rw [HE.out] at he
    subst he
    obtain ⟨HB, hz, c0, c1⟩ := two_boxes hb1
    clear hb1
    go_wp2_with fail
    go_ret2
    exact ⟨rfl, HB.out⟩
end Go.Proofs.Ytbmlkomfelkckaa
