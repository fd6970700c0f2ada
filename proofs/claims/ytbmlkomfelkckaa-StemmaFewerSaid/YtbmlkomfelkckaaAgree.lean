/- stemma.Agreed. -/
import Derived.Test.YtbmlkomfelkckaaAgreeM
import Derived.Test.YtbmlkomfelkckaaAgreeP
import Derived.Test.YtbmlkomfelkckaaOpenTs
import Derived.Test.YtbmlkomfelkckaaClade
namespace Go.Proofs.Ytbmlkomfelkckaa
open Go Go.RowKit Go.Lib
set_option maxRecDepth 100000

/-- A list of rows that a call owns. -/
def LsAt (w : World) (base : Nat) (v : Value) (L : List (List Int)) : Prop :=
  ∃ A c vs, v = .slice A L.length c ∧ w.ownsRow base 43 1 (.slice A L.length c) L.length vs ∧ RowsAt w.heap.size w base vs L

theorem LsAt.nil (w : World) (base : Nat) : LsAt w base (.slice none 0 0) [] := ⟨none, 0, [], rfl, World.ownsRow_nil _ _ _ _, RowsAt.nil _ _ _⟩

theorem LsAt.below {w w' : World} {base : Nat} {v : Value} {L : List (List Int)} (h : LsAt w base v L) (k : Below w.heap.size w w') : LsAt w' base v L := by
  obtain ⟨A, c, vs, rfl, h1, h2⟩ := h
  exact ⟨A, c, vs, rfl, own_below h1 k, (h2.ki (KI.below k (Nat.le_refl _))).mono k.size (Nat.le_refl _)⟩

theorem LsAt.mono {w : World} {base base' : Nat} {v : Value} {L : List (List Int)} (h : LsAt w base v L) (k : base' ≤ base) : LsAt w base' v L := by
  obtain ⟨A, c, vs, rfl, h1, h2⟩ := h
  exact ⟨A, c, vs, rfl, own_mono h1 k, h2.mono (Nat.le_refl _) k⟩

theorem own_max {w : World} {base n : Nat} {e : TypeId} {size : Nat} {v : Value} {xs : List Value} (h : w.ownsRow base e size v n xs) : n ≤ 9223372036854775807 := by
  rcases h.2 with ⟨_, rfl⟩ | ⟨_, _, _, _, _, _, h1, h2, _⟩
  · omega
  · unfold maxLen at h2; omega

theorem RowAt.max {B : Nat} {w : World} {base : Nat} {v : Value} {l : List Int} (h : RowAt B w base v l) : l.length ≤ 9223372036854775807 := by
  obtain ⟨A, c, rfl, h1, _⟩ := h
  exact own_max h1

theorem rows_kept {B : Nat} {w : World} {base n : Nat} {vs : List Value} {L : List (List Int)} (h : RowsAt B w base vs L) (hn : L.length = n) (q : List Int → Bool) : RowsAt B w base (keptUpTo (fun j => q (L.getD j [])) vs.toArray n) (L.filter q) := by
  subst hn
  have e : L.filter q = ((List.range L.length).filter fun j => q (L.getD j [])).map fun j => L.getD j [] := by
    have e1 : L = (List.range L.length).map fun j => L.getD j [] := by
      apply List.ext_getElem?
      intro i
      rw [List.getElem?_map]
      by_cases hi : i < L.length
      · rw [List.getElem?_range hi, List.getElem?_eq_getElem hi, Option.map_some, List.getD_eq_getElem?_getD, List.getElem?_eq_getElem hi]; rfl
      · rw [List.getElem?_eq_none (by omega), List.getElem?_eq_none (by rw [List.length_range]; omega)]; rfl
    conv => lhs; rw [e1]
    rw [List.filter_map]
    rfl
  rw [e]
  unfold keptUpTo
  refine ⟨by simp, fun i l hi => ?_⟩
  rw [List.getElem?_map] at hi
  obtain ⟨j, hj, rfl⟩ := Option.map_eq_some_iff.1 hi
  have hjm := (List.mem_filter.1 (List.mem_of_getElem? hj)).1
  have hjl := List.mem_range.1 hjm
  obtain ⟨v, hv, hr⟩ := h.2 j (L.getD j []) (by rw [List.getD_eq_getElem?_getD, List.getElem?_eq_getElem hjl]; rfl)
  exact ⟨v, by rw [List.getElem?_map, hj, Option.map_some, get_bang hv], hr⟩

theorem enter_same : ∀ args w, (callFunc 91 args).run Try.prog w = .ok (.enter 91 args) w := Go.Proofs.enters_of Try.func91 (by kernel_rfl) rfl
theorem enter_lacks : ∀ args w, (callFunc 89 args).run Try.prog w = .ok (.enter 89 args) w := Go.Proofs.enters_of Try.func89 (by kernel_rfl) rfl

theorem samex_calls (bx : Nat) (A B : Option Addr) (n m c d : Nat) (xs ys : List Int) (w : World) (hb : w.cell? ⟨bx, 0, none⟩ = some (.slice A n c)) (hx : RdInt w A xs) (hy : RdInt w B ys) (hn : xs.length = n) (hm : ys.length = m) (hcn : n ≤ 9223372036854775807) (hcm : m ≤ 9223372036854775807) :
    Calls Try.prog 91 #[.slice B m d, .pointer (some ⟨bx, 0, none⟩)] w fun e w' => e = .returned (.bool (xs == ys)) ∧ Below w.heap.size w w' := by
  have HE := Lib.hid (equal_calls A B n m c d xs ys w hx hy hn hm hcn hcm)
  clear hx hy hn hm
  go_enter Try.func91, Try.ntmps91
  go_wp2_with fail
  (with_reducible refine HE.out.mono ?_)
  rintro e w1 ⟨rfl, k, rfl⟩
  go_wp2_with fail
  go_ret
  exact ⟨rfl, below_drewN _ _⟩

theorem contains_calls (bx base : Nat) (A B : Option Addr) (n m c d : Nat) (x : List Int) (C : List (List Int)) (vs : List Value) (b2 : Nat) (w : World) (hb : w.cell? ⟨bx, 0, none⟩ = some (.slice A n c)) (hx : RdInt w A x) (hn : x.length = n) (hcn : n ≤ 9223372036854775807)
    (ho : w.ownsRow base 43 1 (.slice B m d) m vs) (hr : RowsAt w.heap.size w b2 vs C) (hm : C.length = m) :
    Calls Try.prog 90 #[.slice B m d, .func (.func 91) #[] #[.pointer (some ⟨bx, 0, none⟩)]] w fun e w' => e = .returned (.bool (C.contains x)) ∧ Below w.heap.size w w' := by
  have hlt := World.block_lt_of_cell? w _ hb
  have HI := Lib.hid (index_calls 91 #[.pointer (some ⟨bx, 0, none⟩)] enter_same B m d base vs C (fun y => x == y) w ho hm (own_max ho) (fun W i y v hW hi hv => by
    obtain ⟨v', hv', hra⟩ := hr.2 i y hi
    obtain rfl : v = v' := by rw [hv] at hv'; simpa using hv'
    have hra' := (hra.ki (KI.below hW (Nat.le_refl _)))
    have hmx := hra'.max
    obtain ⟨Ay, cy, rfl, -, -⟩ := hra
    obtain ⟨h1, _, _⟩ := hra'.rd
    exact samex_calls bx A Ay n y.length c cy x y W (cell_below hW hlt hb) (hx.below hW) h1 hn rfl hcn hmx))
  have HM := Lib.hid hm
  clear hb hx ho hr hm hlt
  go_enter Try.func90, Try.ntmps90
  go_wp2_with fail
  (with_reducible refine HI.out.mono ?_)
  rintro e w1 ⟨hb1, ⟨rfl, hall⟩ | ⟨k, rfl, hk, -, hhit⟩⟩
  · have HF : Hid (C.contains x = false) := by
      show C.contains x = false
      rw [List.contains_eq_any_beq, List.any_eq_false]
      intro y hy
      rw [hall y hy]
      decide
    clear hall
    go_wp2_with fail
    go_ret
    exact ⟨by rw [HF.out]; rfl, hb1⟩
  · have HF : Hid (C.contains x = true) := by
      show C.contains x = true
      rw [List.contains_eq_any_beq, List.any_eq_true]
      rw [List.getD_eq_getElem?_getD] at hhit
      cases hc : C[k]? with
      | none => rw [List.getElem?_eq_none_iff] at hc; have := HM.out; omega
      | some y => rw [hc] at hhit; exact ⟨y, List.mem_of_getElem? hc, hhit⟩
    have hk0 : (0 : Int) ≤ (k : Int) := by omega
    clear hhit
    go_wp2_with fail
    go_ret
    exact ⟨by rw [HF.out]; rfl, hb1⟩

theorem lacks_calls (cb base b2 : Nat) (A B : Option Addr) (n m c d : Nat) (x : List Int) (C : List (List Int)) (vs : List Value) (w : World) (hc : w.cell? ⟨cb, 0, none⟩ = some (.slice B m d)) (hx : RdInt w A x) (hn : x.length = n) (hcn : n ≤ 9223372036854775807)
    (ho : w.ownsRow base 43 1 (.slice B m d) m vs) (hr : RowsAt w.heap.size w b2 vs C) (hm : C.length = m) :
    Calls Try.prog 89 #[.slice A n c, .pointer (some ⟨cb, 0, none⟩)] w fun e w' => e = .returned (.bool (!C.contains x)) ∧ Below w.heap.size w w' := by
  have hlt := World.block_lt_of_cell? w _ hc
  have hb := below_alloc w (.cells #[.slice A n c] 43)
  have HC := Lib.hid (contains_calls w.heap.size base A B n m c d x C vs b2 (w.alloc (.cells #[.slice A n c] 43)) (new_cell w #[.slice A n c] 43 0) (hx.below hb) hn hcn (own_below ho hb) ((hr.ki (KI.below hb (Nat.le_refl _))).mono hb.size (Nat.le_refl _)) hm)
  have HB := Lib.hid hb
  have hc := cell_below hb hlt hc
  obtain ⟨b, hbb⟩ : ∃ b, C.contains x = b := ⟨_, rfl⟩
  rw [hbb] at HC ⊢
  clear hb hx ho hr hm hlt hbb
  go_enter Try.func89, Try.ntmps89
  go_wp2_with fail
  (with_reducible refine HC.out.mono ?_)
  rintro e w1 ⟨rfl, hb1⟩
  go_wp2_with fail
  go_ret
  exact ⟨rfl, Below.then HB.out HB.out.size hb1⟩

/-- What is left behind an agreement. -/
def RetAgree (w : World) (r : Int × List (List Int)) (e : Ending) (w' : World) : Prop :=
  Below w.heap.size w w' ∧ ∃ A c, e = .returned (.tuple #[.slice A r.2.length c, .int .i64 r.1]) ∧ LsAt w' w.heap.size (.slice A r.2.length c) r.2

theorem okUp_succ {leaves : Int} {l : List (List Br)} {k : Nat} (h : okUp leaves l k) (hk : (clOf leaves (l.getD k [])).isSome = true) : okUp leaves l (k + 1) := fun i hi => by
  by_cases e : i = k
  · subst e; exact hk
  · exact h i (by omega)

theorem agree_none {leaves : Int} {l : List (List Br)} (h : l.length = 0) : agreeOf leaves l = (2, []) := if_pos h
theorem agree_bad {leaves : Int} {l : List (List Br)} {k : Nat} (hk : k < l.length) (h : clOf leaves (l.getD k []) = none) : agreeOf leaves l = (200, []) := by
  unfold agreeOf
  rw [if_neg (by omega), if_neg (fun hh => by have := hh k hk; rw [h] at this; cases this)]
theorem agree_good {leaves : Int} {l : List (List Br)} (h0 : 0 < l.length) (h : okUp leaves l l.length) : agreeOf leaves l = (0, agUp (clAt leaves l) (l.length - 1)) := by
  unfold agreeOf
  rw [if_neg (by omega), if_pos h]

set_option maxHeartbeats 4000000 in
theorem agree_calls (A : Option Addr) (n c : Nat) (l : List (List Br)) (leaves : Int) (w : World) (hr : RdTrees w A l) (hn : l.length = n) (hcap : n ≤ 9223372036854775807) (hl1 : -9223372036854775808 ≤ leaves) (hl2 : leaves ≤ 9223372036854775807) :
    Calls Try.prog 51 #[.slice A n c, .int .i64 leaves] w (RetAgree w (agreeOf leaves l)) := by
  have HR := Lib.hid hr
  have HN := Lib.hid hn
  by_cases h0 : n = 0
  · subst h0
    rw [agree_none hn]
    clear hr hn
    go_enter Try.func51, Try.ntmps51
    go_wp2_with fail
    go_ret2
    exact ⟨Below.refl _ _, none, 0, rfl, LsAt.nil _ _⟩
  · have f0 : ((n : Int) == 0) = false := by rw [beq_eq_false_iff_ne]; omega
    clear hr hn
    go_enter Try.func51, Try.ntmps51
    go_wp2_with fail
    go_loopg [6, 16] n (fun gk v6 v16 wr => ∃ k : Nat, v16 = .int .i64 k ∧ k ≤ n ∧ Hid (n - k ≤ gk) ∧ Hid (Below w.heap.size w wr) ∧ Hid (okUp leaves l k) ∧ Hid (LsAt wr w.heap.size v6 (if k = 0 then [] else agUp (clAt leaves l) (k - 1))))
    case atStart => exact ⟨0, rfl, Nat.zero_le _, by show n - 0 ≤ n; omega, Below.refl _ _, (fun i hi => by omega), LsAt.nil _ _⟩
    case round =>
      obtain ⟨k, rfl, hk, HG, HB, HOK, HLS⟩ := hrel
      by_cases hkn : k < n
      · have k1 : (k : Int) < (n : Int) := by omega
        have hbs : l[k]? = some (l.getD k []) := by rw [List.getD_eq_getElem?_getD, List.getElem?_eq_getElem (by have := HN.out; omega)]; rfl
        obtain ⟨bs, hbse⟩ : ∃ bs, l.getD k [] = bs := ⟨_, rfl⟩
        rw [hbse] at hbs
        obtain ⟨ad, A', c', rfl, e1, hrb, hbl⟩ := HR.out.below HB.out k bs hbs
        obtain ⟨m, hm⟩ : ∃ m, bs.length = m := ⟨_, rfl⟩
        rw [hm] at e1 hbl
        have HC := Lib.hid (clades_calls A' m c' bs leaves (wr.alloc (.cells #[.slice A' m c'] 26)) (hrb.below (below_alloc _ _)) hm hbl hl1 hl2)
        have HB1 := Lib.hid (Below.then HB.out HB.out.size (below_alloc wr (.cells #[.slice A' m c'] 26)))
        have HBW := Lib.hid (below_alloc wr (.cells #[.slice A' m c'] 26))
        have q0 := new_cell wr #[.slice A' m c'] 26 0
        have HBS := Lib.hid hbse
        clear hbs hbse hrb hm
        cases hcl : clOf leaves bs with
        | none =>
          have HC : Hid (Calls Try.prog 46 #[.agg #[.slice A' m c'], .int .i64 leaves] (wr.alloc (.cells #[.slice A' m c'] 26)) (RetClades (wr.alloc (.cells #[.slice A' m c'] 26)) none)) := by rw [← hcl]; exact HC.out
          have HCL := Lib.hid hcl
          clear hcl
          go_wp2_with fail
          (with_reducible refine HC.out.mono ?_)
          rintro e w2 ⟨hb2, rfl⟩
          have HB2 := Lib.hid (Below.then (Below.then HB1.out (Nat.le_trans HB.out.size HBW.out.size) hb2) (Nat.le_trans (Nat.le_trans HB.out.size HBW.out.size) hb2.size) (below_alloc w2 (.cells #[.slice none 0 0] 34)))
          clear hb2
          go_wp2_with fail
          go_ret2
          rw [agree_bad (by have := HN.out; omega : k < l.length) (by rw [HBS.out]; exact HCL.out)]
          exact ⟨HB2.out, none, 0, rfl, LsAt.nil _ _⟩
        | some C =>
          have HC : Hid (Calls Try.prog 46 #[.agg #[.slice A' m c'], .int .i64 leaves] (wr.alloc (.cells #[.slice A' m c'] 26)) (RetClades (wr.alloc (.cells #[.slice A' m c'] 26)) (some C))) := by rw [← hcl]; exact HC.out
          have HOK2 : Hid (okUp leaves l (k + 1)) := okUp_succ HOK.out (by rw [HBS.out, hcl]; rfl)
          have HCA : Hid (clAt leaves l k = C) := by show clAt leaves l k = C; unfold clAt; rw [HBS.out, hcl]; rfl
          clear hcl
          go_wp2_with fail
          (with_reducible refine HC.out.mono ?_)
          rintro e w2 ⟨hb2, A2, c2, vs2, rfl, ho2, hr2⟩
          obtain ⟨m2, hm2⟩ : ∃ m2, C.length = m2 := ⟨_, rfl⟩
          rw [hm2] at ho2
          rw [hm2]
          have HM2 := Lib.hid hm2
          have hbx := below_alloc w2 (.cells #[.slice A2 m2 c2] 34)
          have q2 := new_cell w2 #[.slice A2 m2 c2] 34 0
          have HB2 := Lib.hid (Below.then (Below.then HB1.out (Nat.le_trans HB.out.size HBW.out.size) hb2) (Nat.le_trans (Nat.le_trans HB.out.size HBW.out.size) hb2.size) hbx)
          have HBW2 := Lib.hid (Below.then (Below.then HBW.out HBW.out.size hb2) (Nat.le_trans HBW.out.size hb2.size) hbx)
          have HO2 := Lib.hid (own_below ho2 hbx)
          have HR2 := Lib.hid ((hr2.ki (KI.below hbx (Nat.le_refl _))).mono hbx.size (Nat.le_refl _))
          have HZ : Hid (w.heap.size ≤ wr.heap.size ∧ wr.heap.size + 1 ≤ w2.heap.size) := ⟨HB.out.size, by have := hb2.size; simpa using this⟩
          clear hb2 hbx ho2 hr2 hm2
          cases k with
          | zero =>
            clear HC HR
            go_wp2_with fail
            go_roundg (gk - 1)
            case measure => have := HG.out; omega
            case rel =>
              refine ⟨1, by go_num, by omega, by have := HG.out; show n - 1 ≤ gk - 1; omega, HB2.out, HOK2.out, ?_⟩
              show LsAt _ _ _ (agUp (clAt leaves l) 0)
              rw [agUp, HCA.out]
              exact ⟨A2, c2, vs2, by rw [HM2.out], by rw [HM2.out]; exact own_mono HO2.out (by have := HZ.out.1; simp; omega), HR2.out.mono (Nat.le_refl _) (by have := HZ.out.1; simp; omega)⟩
          | succ k =>
            have f1 : (((k + 1 : Nat) : Int) == 0) = false := by rw [beq_eq_false_iff_ne]; omega
            obtain ⟨A6, c6, vs6, rfl, ho6, hr6⟩ := HLS.out.below HBW2.out
            have e6 : (if k + 1 = 0 then [] else agUp (clAt leaves l) (k + 1 - 1)) = agUp (clAt leaves l) k := by rw [if_neg (by omega)]; rfl
            rw [e6] at ho6 hr6 ⊢
            obtain ⟨L, hL⟩ : ∃ L, agUp (clAt leaves l) k = L := ⟨_, rfl⟩
            rw [hL] at ho6 hr6 ⊢
            obtain ⟨m6, hm6⟩ : ∃ m6, L.length = m6 := ⟨_, rfl⟩
            rw [hm6] at ho6 ⊢
            have HM6 := Lib.hid hm6
            have HAG : Hid (agUp (clAt leaves l) (k + 1) = L.filter fun x => C.contains x) := by show agUp _ _ = _; rw [agUp, HCA.out, hL]
            have hblk : ∀ g, (Value.slice A6 m6 c6).ownBlock = some g → w.heap.size ≤ g ∧ g < wr.heap.size := by
              intro g hg
              obtain ⟨A6', c6', vs6', he, ho6', hr6'⟩ := HLS.out
              rw [e6, hL, hm6] at he ho6'
              obtain ⟨rfl, rfl⟩ : A6 = A6' ∧ c6 = c6' := by simpa using he
              exact ho6'.lt g hg
            have HBL := Lib.hid hblk
            have HE6 := Lib.hid (own_elem ho6)
            have HR6 := Lib.hid hr6
            have HD := Lib.hid (delete_calls 89 #[.pointer (some ⟨w2.heap.size, 0, none⟩)] enter_lacks A6 m6 c6 w.heap.size vs6 L (fun x => !C.contains x) _ ho6 hm6 (own_max ho6) (fun j v hv => by
              obtain ⟨x, hx⟩ : ∃ x, L[j]? = some x := by
                have := (List.getElem?_eq_some_iff.1 hv).1
                rw [HR6.out.1] at this
                exact ⟨_, List.getElem?_eq_getElem this⟩
              obtain ⟨v', hv', hra⟩ := HR6.out.2 j x hx
              obtain rfl : v = v' := by rw [hv] at hv'; simpa using hv'
              obtain ⟨Ax, cx, rfl, -, -⟩ := hra
              exact ⟨_, _, _, rfl⟩) (fun W i x v hW hi hv => by
              obtain ⟨v', hv', hra⟩ := HR6.out.2 i x hi
              obtain rfl : v = v' := by rw [hv] at hv'; simpa using hv'
              have hki := KI.grown hW (Nat.le_refl _) (fun g hg => .inr (by rw [HE6.out g hg]; simp))
              have hra' := hra.ki hki
              have hmx := hra'.max
              obtain ⟨Ax, cx, rfl, -, -⟩ := hra
              have hq2 : W.cell? ⟨w2.heap.size, 0, none⟩ = some (.slice A2 m2 c2) := hW.cell q2 (fun e => by have h1 := (HBL.out _ e.symm).2; have h2 := HZ.out.2; have h3 : w2.heap.size < wr.heap.size := h1; omega)
              have ho2' := HO2.out.kept hW (by
                cases hb : (Value.slice A2 m2 c2).ownBlock with
                | none => exact .inl rfl
                | some g2 => exact .inr (fun e => by have h1 := HBL.out _ e.symm; have h2 := (HO2.out.lt g2 hb).1; simp at h2; omega))
              exact lacks_calls w2.heap.size _ _ Ax A2 x.length m2 cx c2 x C vs2 W hq2 hra'.rd.1 rfl hmx ho2' ((HR2.out.ki hki).mono hW.size (Nat.le_refl _)) HM2.out))
            clear ho6 hr6 hblk hL hm6 HC HR
            go_wp2_with fail
            (with_reducible refine HD.out.mono ?_)
            rintro e w4 ⟨m4, rfl, ho4, hg4⟩
            simp only [Bool.not_not] at ho4
            go_wp2_with fail
            go_roundg (gk - 1)
            case measure => have := HG.out; omega
            case rel =>
              refine ⟨k + 1 + 1, by go_num, by omega, by have := HG.out; show n - (k + 1 + 1) ≤ gk - 1; omega, ?_, HOK2.out, ?_⟩
              · exact HB2.out.trans ⟨hg4.os, hg4.tape, hg4.output, hg4.size, fun i hi => hg4.block i (Nat.lt_of_lt_of_le hi HB2.out.size) (fun e => by have := (HBL.out _ e.symm).1; omega)⟩
              · rw [if_neg (by omega)]
                show LsAt _ _ _ (agUp (clAt leaves l) (k + 1))
                rw [HAG.out]
                have hk := rows_kept HR6.out HM6.out (fun x => C.contains x)
                have hlen : (L.filter fun x => C.contains x).length = m4 := by rw [← hk.1]; have := ho4.1; omega
                exact ⟨A6, c6, _, by rw [hlen], by rw [hlen]; exact ho4, (hk.ki (KI.grown hg4 (Nat.le_refl _) (fun g hg => .inr (by rw [HE6.out g hg]; simp)))).mono hg4.size (Nat.le_refl _)⟩
      · obtain rfl : k = n := by omega
        have k1 : ¬ (k : Int) < (k : Int) := by omega
        obtain ⟨A6, c6, vs6, rfl, ho6, hr6⟩ := HLS.out
        go_wp2_with fail
        go_ret2
        rw [agree_good (by have := HN.out; omega) (by rw [HN.out]; exact HOK.out), HN.out]
        rw [if_neg h0] at ho6 hr6
        exact ⟨HB.out, A6, c6, rfl, A6, c6, vs6, rfl, ho6, hr6⟩
end Go.Proofs.Ytbmlkomfelkckaa
