/- siglumref22.Agreed and siglumlaw22.same. -/
import Derived.Test.YtbmlkomfelkckaaAgree
import Derived.Test.YtbmlkomfelkckaaRClade
import Derived.Test.YtbmlkomfelkckaaChk
import Derived.BigQuiet
namespace Go.Proofs.Ytbmlkomfelkckaa
open Go Go.RowKit Go.Lib
set_option maxRecDepth 100000

theorem clOf_isSome (leaves : Int) (bs : List Br) : (clOf leaves bs).isSome = (rdTree leaves bs).isSome := by
  unfold clOf rdRoot
  cases rdTree leaves bs <;> rfl

theorem okTree_cl (leaves : Int) (bs : List Br) : okTree leaves bs = if (clOf leaves bs).isSome then 0 else 200 := by
  rw [clOf_isSome]
  rfl

theorem cl_len {leaves : Int} {bs : List Br} {C : List (List Int)} (h : clOf leaves bs = some C) : C.length ≤ 100 := by
  unfold clOf at h
  obtain ⟨T, hT, rfl⟩ := Option.map_eq_some_iff.1 h
  obtain ⟨h1, h2, h3, h4⟩ := rdRoot_size hT
  have := clUp_le (T.form 0) T.size (by rw [NT.form_length]; exact Nat.le_refl _)
  rw [clUp_all] at this
  omega

/-- Is x in each of the trees 1 .. i-1? -/
def inAll (f : Nat → List (List Int)) (i : Nat) (x : List Int) : Bool := (List.range (i - 1)).all fun t => (f (t + 1)).contains x

theorem inAll_succ (f : Nat → List (List Int)) (i : Nat) (x : List Int) (h : 1 ≤ i) : inAll f (i + 1) x = (inAll f i x && (f i).contains x) := by
  obtain ⟨j, rfl⟩ : ∃ j, i = j + 1 := ⟨i - 1, by omega⟩
  unfold inAll
  rw [Nat.add_sub_cancel, Nat.add_sub_cancel, List.range_succ, List.all_append]
  simp

theorem agUp_inAll (f : Nat → List (List Int)) (n : Nat) : agUp f (n - 1) = (f 0).filter (inAll f n) := by
  rw [agUp_all]
  rfl

theorem take_filter_succ {f : List Int → Bool} {C : List (List Int)} {k : Nat} (hk : k < C.length) : (C.take (k + 1)).filter f = (C.take k).filter f ++ if f (C.getD k []) then [C.getD k []] else [] := by
  rw [List.take_succ_eq_append_getElem hk, List.filter_append]
  congr 1
  rw [List.getD_eq_getElem?_getD, List.getElem?_eq_getElem hk, Option.getD_some]
  by_cases h : f C[k] <;> simp [h]

theorem take_contains {C : List (List Int)} {k : Nat} (hk : k < C.length) (x : List Int) : (C.take (k + 1)).contains x = ((C.take k).contains x || (C.getD k [] == x)) := by
  rw [List.take_succ_eq_append_getElem hk, List.getD_eq_getElem?_getD, List.getElem?_eq_getElem hk, Option.getD_some]
  rw [Bool.eq_iff_iff]
  simp only [List.contains_iff_mem, List.mem_append, List.mem_singleton, Bool.or_eq_true, beq_iff_eq]
  exact or_congr Iff.rfl ⟨Eq.symm, Eq.symm⟩

set_option maxHeartbeats 8000000 in
theorem ragree_calls (A : Option Addr) (n c : Nat) (l : List (List Br)) (leaves : Int) (w : World) (hr : RdTrees w A l) (hn : l.length = n) (hcap : n ≤ 9223372036854775807) :
    Calls Try.prog 52 #[.slice A n c, .int .i64 leaves] w (RetAgree w (agreeOf leaves l)) := by
  have HR := Lib.hid hr
  have HN := Lib.hid hn
  by_cases h0 : n = 0
  · subst h0
    rw [agree_none hn]
    clear hr hn
    go_enter Try.func52, Try.ntmps52
    go_wp2_with fail
    go_ret2
    exact ⟨Below.refl _ _, none, 0, rfl, LsAt.nil _ _⟩
  have f0 : ((n : Int) == 0) = false := by rw [beq_eq_false_iff_ne]; omega
  obtain ⟨ad, rfl⟩ : ∃ ad, A = some ad := by
    obtain ⟨ad, _, _, h, _⟩ := hr 0 l[0] (List.getElem?_eq_getElem (by omega))
    exact ⟨ad, h⟩
  clear hr hn
  go_enter Try.func52, Try.ntmps52
  go_wp2_with fail
  go_loopg [6] n (fun gk v6 wr => ∃ k : Nat, v6 = .int .i64 k ∧ k ≤ n ∧ Hid (n - k ≤ gk) ∧ Hid (Below w.heap.size w wr) ∧ Hid (okUp leaves l k))
  case atStart => exact ⟨0, rfl, Nat.zero_le _, by show n - 0 ≤ n; omega, Below.refl _ _, (fun i hi => by omega)⟩
  case round =>
    obtain ⟨k, rfl, hk, HG, HB, HOK⟩ := hrel
    by_cases hkn : k < n
    · have k1 : (k : Int) < (n : Int) := by omega
      have hbs : l[k]? = some (l.getD k []) := by rw [List.getD_eq_getElem?_getD, List.getElem?_eq_getElem (by have := HN.out; omega)]; rfl
      obtain ⟨bs, hbse⟩ : ∃ bs, l.getD k [] = bs := ⟨_, rfl⟩
      rw [hbse] at hbs
      obtain ⟨ad', A', c', he, e1, hrb, hbl⟩ := HR.out.below HB.out k bs hbs
      obtain rfl : ad = ad' := by simpa using he
      obtain ⟨m, hm⟩ : ∃ m, bs.length = m := ⟨_, rfl⟩
      rw [hm] at e1 hbl
      have HC := Lib.hid (rcheck_calls A' m c' bs leaves wr hrb hm hbl)
      rw [okTree_cl] at HC
      have HBS := Lib.hid hbse
      clear hbs hbse hrb hm he
      cases hcl : clOf leaves bs with
      | none =>
        rw [hcl] at HC
        have HCL := Lib.hid hcl
        clear hcl
        go_wp2_with fail
        (with_reducible refine HC.out.mono ?_)
        rintro e w2 ⟨rfl, hb2⟩
        go_wp2_with fail
        go_ret2
        rw [agree_bad (by have := HN.out; omega : k < l.length) (by rw [HBS.out]; exact HCL.out)]
        exact ⟨Below.then HB.out HB.out.size hb2, none, 0, rfl, LsAt.nil _ _⟩
      | some C =>
        rw [hcl] at HC
        have HOK2 : Hid (okUp leaves l (k + 1)) := okUp_succ HOK.out (by rw [HBS.out, hcl]; rfl)
        clear hcl
        go_wp2_with fail
        (with_reducible refine HC.out.mono ?_)
        rintro e w2 ⟨rfl, hb2⟩
        go_wp2_with fail
        go_roundg (gk - 1)
        case measure => have := HG.out; omega
        case rel => exact ⟨k + 1, by go_num, by omega, by have := HG.out; show n - (k + 1) ≤ gk - 1; omega, Below.then HB.out HB.out.size hb2, HOK2.out⟩
    · obtain rfl : k = n := by omega
      have k1 : ¬ (k : Int) < (k : Int) := by omega
      have HRES : Hid (agreeOf leaves l = (0, agUp (clAt leaves l) (k - 1))) := by
        have := agree_good (leaves := leaves) (l := l) (by have := HN.out; omega) (by rw [HN.out]; exact HOK.out)
        rwa [HN.out] at this
      have HCL : Hid (∀ i, i < k → ∃ (bs : List Br) (A' : Option Addr) (c' : Nat), (∀ W : World, Below wr.heap.size wr W → W.cell? (ad.add i) = some (.slice A' bs.length c') ∧ RdBr W A' bs) ∧ bs.length ≤ 9223372036854775807 ∧ clOf leaves bs = some (clAt leaves l i)) := by
        intro i hi
        have hbs : l[i]? = some (l.getD i []) := by rw [List.getD_eq_getElem?_getD, List.getElem?_eq_getElem (by have := HN.out; omega)]; rfl
        obtain ⟨ad', A', c', he, e1, hrb, hbl⟩ := HR.out.below HB.out i _ hbs
        obtain rfl : ad = ad' := by simpa using he
        refine ⟨_, A', c', fun W hW => ⟨(hW.cell (World.block_lt_of_cell? wr _ e1)).trans e1, hrb.below hW⟩, hbl, ?_⟩
        have := HOK.out i hi
        obtain ⟨C, hC⟩ := Option.isSome_iff_exists.1 this
        unfold clAt
        rw [hC]
        rfl
      obtain ⟨bs0, A0, c0, hb0, hm0, hcl0⟩ := HCL.out 0 (by omega)
      obtain ⟨e0, r0⟩ := hb0 wr (Below.refl _ _)
      have e0 : wr.cell? ⟨ad.block, ad.off, ad.spot⟩ = some (.slice A0 bs0.length c0) := by
        have h : ad.add 0 = ⟨ad.block, ad.off, ad.spot⟩ := by cases ad; unfold Addr.add; split <;> simp_all
        rwa [h] at e0
      obtain ⟨m0, hme⟩ : ∃ m0, bs0.length = m0 := ⟨_, rfl⟩
      rw [hme] at e0 hm0
      obtain ⟨C0, hC0⟩ : ∃ C0, clAt leaves l 0 = C0 := ⟨_, rfl⟩
      rw [hC0] at hcl0
      have HC := Lib.hid (rclades_calls A0 m0 c0 bs0 leaves wr r0 hme hm0)
      have HC : Hid (Calls Try.prog 49 #[.agg #[.slice A0 m0 c0], .int .i64 leaves] wr (RetClades wr (some C0))) := by rw [← hcl0]; exact HC.out
      have HLEN := Lib.hid (cl_len hcl0)
      have HC0 := Lib.hid hC0
      clear hb0 r0 hme hcl0 hC0
      go_wp2_with fail
      (with_reducible refine HC.out.mono ?_)
      rintro e w1 ⟨hb1, A1, c1, vs1, rfl, ho1, hr1⟩
      obtain ⟨n1, hn1⟩ : ∃ n1, C0.length = n1 := ⟨_, rfl⟩
      have hlen := HLEN.out
      rw [hn1] at ho1 hlen ⊢
      have HO1 := Lib.hid ho1
      have HR1 := Lib.hid hr1
      have HN1 := Lib.hid hn1
      have HB1 := Lib.hid hb1
      clear ho1 hr1 hn1 hb1 HC
      obtain ⟨w0, rfl⟩ : ∃ w0 : World, w0 = wr := ⟨_, rfl⟩
      have HG0 := HG
      clear HG
      go_wp2_with fail
      go_loopg [9, 10] n1 (fun gk v9 v10 wr => ∃ j : Nat, v10 = .int .i64 j ∧ j ≤ n1 ∧ Hid (n1 - j ≤ gk) ∧ Hid (Below w1.heap.size w1 wr) ∧ Hid (∃ vs9 : List Value, wr.ownsRow w1.heap.size 43 1 v9 ((C0.take j).filter (inAll (clAt leaves l) k)).length vs9 ∧ RowsAt wr.heap.size wr w.heap.size vs9 ((C0.take j).filter (inAll (clAt leaves l) k))))
      case atStart => exact ⟨0, rfl, Nat.zero_le _, by show n1 - 0 ≤ n1; omega, Below.refl _ _, [], World.ownsRow_nil _ _ _ _, RowsAt.nil _ _ _⟩
      case round =>
        obtain ⟨j, rfl, hj, HG, HB2, HOUT⟩ := hrel
        by_cases hjn : j < n1
        · have j1 : (j : Int) < (n1 : Int) := by omega
          have hx : C0[j]? = some (C0.getD j []) := by rw [List.getD_eq_getElem?_getD, List.getElem?_eq_getElem (by have := HN1.out; omega)]; rfl
          obtain ⟨x, hxe⟩ : ∃ x, C0.getD j [] = x := ⟨_, rfl⟩
          rw [hxe] at hx
          obtain ⟨v, hv, hra⟩ := HR1.out.2 j x hx
          have hmx := hra.max
          have HRA := Lib.hid hra
          obtain ⟨Ax, cx, rfl, -, -⟩ := hra
          have HRX := Lib.hid (HRA.out.rd.1)
          obtain ⟨nx, hnx⟩ : ∃ nx, x.length = nx := ⟨_, rfl⟩
          rw [hnx] at hv hmx
          obtain ⟨g1, he1, hg1, _, hc1⟩ := own_at HO1.out (by omega)
          subst he1
          have e1 := hc1 j _ hv
          rw [add_plain] at e1
          have HE1 := Lib.hid e1
          have HNX := Lib.hid hnx
          have HTK : Hid ((C0.take (j + 1)).filter (inAll (clAt leaves l) k) = (C0.take j).filter (inAll (clAt leaves l) k) ++ if inAll (clAt leaves l) k x then [x] else []) := by
            have := take_filter_succ (f := inAll (clAt leaves l) k) (C := C0) (k := j) (by have := HN1.out; omega)
            rwa [hxe] at this
          clear hx hv hc1 e1 hnx hxe
          obtain ⟨wo, rfl⟩ : ∃ wo : World, wo = wr := ⟨_, rfl⟩
          obtain ⟨gk1, rfl⟩ : ∃ gk1 : Nat, gk1 = gk := ⟨_, rfl⟩
          go_wp2_with fail
          go_loopg [11, 12] k (fun gk v11 v12 wr => ∃ i : Nat, v12 = .int .i64 i ∧ 1 ≤ i ∧ i ≤ k ∧ Hid (k - i ≤ gk) ∧ v11 = .bool (inAll (clAt leaves l) i x) ∧ Hid (Below wo.heap.size wo wr))
          case atStart => exact ⟨1, rfl, Nat.le_refl _, by omega, by show k - 1 ≤ k; omega, rfl, Below.refl _ _⟩
          case round =>
            obtain ⟨i, rfl, hi1, hik, HGI, rfl, HBI⟩ := hrel
            obtain ⟨wi, rfl⟩ : ∃ wi : World, wi = wr := ⟨_, rfl⟩
            obtain ⟨gk2, rfl⟩ : ∃ gk2 : Nat, gk2 = gk := ⟨_, rfl⟩
            obtain ⟨a, ha⟩ : ∃ a, inAll (clAt leaves l) i x = a := ⟨_, rfl⟩
            rw [ha]
            have HA := Lib.hid ha
            have hz : wo.heap.size ≤ wi.heap.size ∧ w1.heap.size ≤ wo.heap.size ∧ w0.heap.size ≤ w1.heap.size := ⟨HBI.out.size, HB2.out.size, HB1.out.size⟩
            clear ha
            by_cases hikn : i < k
            · have i1 : (i : Int) < (k : Int) := by omega
              have HBA := Lib.hid (Below.then (Below.then HB1.out hz.2.2 HB2.out) (by omega) HBI.out)
              obtain ⟨bs, A', c', hbw, hbl, hcl⟩ := HCL.out i hikn
              obtain ⟨e2, r2⟩ := hbw wi HBA.out
              obtain ⟨m, hm⟩ : ∃ m, bs.length = m := ⟨_, rfl⟩
              rw [hm] at e2 hbl
              obtain ⟨C, hC⟩ : ∃ C, clAt leaves l i = C := ⟨_, rfl⟩
              rw [hC] at hcl
              have HC := Lib.hid (rclades_calls A' m c' bs leaves wi r2 hm hbl)
              have HC : Hid (Calls Try.prog 49 #[.agg #[.slice A' m c'], .int .i64 leaves] wi (RetClades wi (some C))) := by rw [← hcl]; exact HC.out
              have HCI := Lib.hid hC
              clear hbw r2 hm hC hcl
              go_wp2_with fail
              (with_reducible refine HC.out.mono ?_)
              rintro e w5 ⟨hb5, A5, c5, vs5, rfl, ho5, hr5⟩
              obtain ⟨m5, hm5⟩ : ∃ m5, C.length = m5 := ⟨_, rfl⟩
              rw [hm5] at ho5 ⊢
              have hmx5 := own_max ho5
              have HO5 := Lib.hid ho5
              have HR5 := Lib.hid hr5
              have HM5 := Lib.hid hm5
              have HB5 := Lib.hid hb5
              have hz5 := hb5.size
              clear ho5 hr5 hm5 hb5 HC
              go_wp2_with fail
              go_loopg [15, 16] m5 (fun gk v15 v16 wr => ∃ t : Nat, v16 = .int .i64 t ∧ t ≤ m5 ∧ Hid (m5 - t ≤ gk) ∧ v15 = .bool ((C.take t).contains x) ∧ Hid (Below w5.heap.size w5 wr))
              case atStart => exact ⟨0, rfl, Nat.zero_le _, by show m5 - 0 ≤ m5; omega, rfl, Below.refl _ _⟩
              case round =>
                obtain ⟨t, rfl, ht, HGT, rfl, HBT⟩ := hrel
                obtain ⟨b, hb⟩ : ∃ b, (C.take t).contains x = b := ⟨_, rfl⟩
                rw [hb]
                have HBB := Lib.hid hb
                clear hb
                by_cases htm : t < m5
                · have t1 : (t : Int) < (m5 : Int) := by omega
                  have hst := take_contains (C := C) (k := t) (by have := HM5.out; omega) x
                  obtain ⟨y, hy⟩ : ∃ y, C[t]? = some y := ⟨_, List.getElem?_eq_getElem (by have := HM5.out; omega)⟩
                  rw [HBB.out, List.getD_eq_getElem?_getD, hy] at hst
                  obtain ⟨u, hu, hra⟩ := HR5.out.2 t y hy
                  have hmy := hra.max
                  have hry := ((hra.ki (KI.below HBT.out (Nat.le_refl _))).mono HBT.out.size (Nat.le_refl _))
                  obtain ⟨Ay, cy, rfl, -, -⟩ := hra
                  obtain ⟨g5, he5, hg5, _, hc5⟩ := own_at HO5.out (by omega)
                  subst he5
                  have e5 := hc5 t _ hu
                  rw [add_plain] at e5
                  obtain ⟨ny, hny⟩ : ∃ ny, y.length = ny := ⟨_, rfl⟩
                  rw [hny] at e5 hmy
                  have hb15 := Below.then (Below.then (Below.then HB2.out hz.2.1 HBI.out) (by omega) HB5.out) (by omega) HBT.out
                  have j5 : ∀ s : Later wr, s.W.cell? ⟨g5, t, none⟩ = some (.slice Ay ny cy) := fun s => cell_below s.below (Nat.lt_of_lt_of_le hg5 HBT.out.size) (cell_below HBT.out hg5 e5)
                  have j1 : ∀ s : Later wr, s.W.cell? ⟨g1, j, none⟩ = some (.slice Ax nx cx) := fun s => cell_below (Below.then hb15 hb15.size s.below) hg1 HE1.out
                  obtain ⟨b2, hb2⟩ : ∃ b2, (y == x) = b2 := ⟨_, rfl⟩
                  have HIN := Lib.hid (fun s : Later wr => (ints_calls Ay Ax ny nx cy cx y x s.W (hry.rd.1.below s.below) (HRX.out.below (Below.then hb15 hb15.size s.below)) hny HNX.out hmy hmx).mono (R' := fun e w' => e = .returned (.bool b2) ∧ ∃ s : Later wr, w' = s.W) (fun e w' ⟨he, k, hb⟩ => ⟨by rw [he, hb2], ⟨w', Below.then s.below s.below.size (by rw [hb]; exact below_drewN _ _)⟩, rfl⟩))
                  have HST : Hid ((C.take (t + 1)).contains x = (b || b2)) := by rw [← hb2]; exact hst
                  clear hst hy hu hry hc5 e5 hny hb15 hb2
                  cases b with
                  | true =>
                    go_wp2_with fail
                    refine wp_quiet_below (w := wr) (by kernel_rfl) (by kernel_rfl) ?_
                    repeat (go_big_quiet_step (exact HIN.out _))
                    refine wpQuiet_nil ?_
                    rintro w9 ⟨⟨_, hb9⟩, rfl⟩
                    go_wp2_with fail
                    go_roundg (gk - 1)
                    case measure => have := HGT.out; omega
                    case rel => exact ⟨t + 1, by go_num, by omega, by have := HGT.out; show m5 - (t + 1) ≤ gk - 1; omega, by rw [HST.out]; rfl, Below.then HBT.out HBT.out.size hb9⟩
                  | false =>
                    go_wp2_with fail
                    refine wp_quiet_below (w := wr) (by kernel_rfl) (by kernel_rfl) ?_
                    repeat (go_big_quiet_step (exact HIN.out _))
                    refine wpQuiet_nil ?_
                    rintro w9 ⟨⟨_, hb9⟩, rfl⟩
                    go_wp2_with fail
                    go_roundg (gk - 1)
                    case measure => have := HGT.out; omega
                    case rel => exact ⟨t + 1, by go_num, by omega, by have := HGT.out; show m5 - (t + 1) ≤ gk - 1; omega, by rw [HST.out]; rfl, Below.then HBT.out HBT.out.size hb9⟩
                · obtain rfl : t = m5 := by omega
                  have t1 : ¬ (t : Int) < (t : Int) := by omega
                  have HFD : Hid (inAll (clAt leaves l) (i + 1) x = (a && b)) := by
                    show _ = _
                    rw [inAll_succ _ _ _ hi1, HA.out, HCI.out, ← HBB.out, List.take_of_length_le (by have := HM5.out; omega)]
                  have HBN := Lib.hid (Below.then (Below.then HBI.out HBI.out.size HB5.out) (by omega) HBT.out)
                  cases a <;> cases b <;> (
                    go_wp2_with fail
                    go_roundg (gk2 - 1)
                    case measure => have := HGI.out; omega
                    case rel => exact ⟨i + 1, by go_num, by omega, by omega, by have := HGI.out; show k - (i + 1) ≤ gk2 - 1; omega, by rw [HFD.out]; rfl, HBN.out⟩)
            · obtain rfl : i = k := by omega
              have i1 : ¬ (i : Int) < (i : Int) := by omega
              obtain ⟨vs9, ho9, hr9⟩ := HOUT.out
              have ho9 := own_below ho9 HBI.out
              have hr9 := (hr9.ki (KI.below HBI.out (Nat.le_refl _))).mono HBI.out.size (Nat.le_refl _)
              have HBX := Lib.hid (Below.then HB2.out hz.2.1 HBI.out)
              have HRX2 := Lib.hid ((HRA.out.ki (KI.below HBX.out (Nat.le_refl _))).mono HBX.out.size HB.out.size)
              rw [HNX.out] at HRX2
              have htk := HTK.out
              rw [HA.out] at htk
              have HLF : Hid (((C0.take j).filter (inAll (clAt leaves l) i)).length ≤ 100) := by
                have h1 := List.length_filter_le (inAll (clAt leaves l) i) (C0.take j)
                have h2 := HLEN.out
                rw [List.length_take] at h1
                show _ ≤ _
                omega
              have e1 := cell_below HBX.out hg1 HE1.out
              have HO9 := Lib.hid ho9
              have HR9 := Lib.hid hr9
              cases a with
              | false =>
                have HTF : Hid ((C0.take (j + 1)).filter (inAll (clAt leaves l) i) = (C0.take j).filter (inAll (clAt leaves l) i)) := by show _ = _; rw [htk]; simp
                clear htk ho9 hr9
                go_wp2_with fail
                go_roundg (gk1 - 1)
                case measure => have := HG.out; omega
                case rel => exact ⟨j + 1, by go_num, by omega, by have := HG.out; show n1 - (j + 1) ≤ gk1 - 1; omega, HBX.out, vs9, by rw [HTF.out]; exact HO9.out, by rw [HTF.out]; exact HR9.out⟩
              | true =>
                have HTF : Hid ((C0.take (j + 1)).filter (inAll (clAt leaves l) i) = (C0.take j).filter (inAll (clAt leaves l) i) ++ [x]) := by show _ = _; rw [htk]; simp
                obtain ⟨O, hO⟩ : ∃ O, (C0.take j).filter (inAll (clAt leaves l) i) = O := ⟨_, rfl⟩
                rw [hO] at HLF HTF HO9 HR9
                have HOO := Lib.hid hO
                obtain ⟨A9, c9, rfl, -⟩ := own_slice HO9.out
                have hl9 := HLF.out
                clear htk ho9 hr9 hO
                go_wp2_with (at_builtin; refine walk_append1 HO9.out (by omega) (by omega) 34 Try.underlying34 info_row ⟨rfl, by decide, by decide⟩ _ (oneSl _ _ _) (by exact ⟨rfl, rfl, rfl, rfl, rfl⟩) ?_; intro v10 w10 ho10 hu10)
                go_roundg (gk1 - 1)
                case measure => have := HG.out; omega
                case rel =>
                  have hki := KI.grown hu10.1 (Nat.le_refl _) (fun g e => .inr (by rw [own_elem HO9.out g e]; simp))
                  refine ⟨j + 1, by go_num, by omega, by have := HG.out; show n1 - (j + 1) ≤ gk1 - 1; omega, HBX.out.trans (hu10.below (by omega) (own_base HO9.out)), vs9 ++ [.slice Ax nx cx], ?_, ?_⟩
                  · rw [HTF.out, List.length_append]; exact ho10
                  · rw [HTF.out]; exact ((HR9.out.snoc HRX2.out).ki hki).mono hu10.1.size (Nat.le_refl _)
        · obtain rfl : j = n1 := by omega
          have j1 : ¬ (j : Int) < (j : Int) := by omega
          obtain ⟨vs9, ho9, hr9⟩ := HOUT.out
          have HFIN : Hid ((C0.take j).filter (inAll (clAt leaves l) k) = agUp (clAt leaves l) (k - 1)) := by
            show _ = _
            rw [agUp_inAll, HC0.out, List.take_of_length_le (by have := HN1.out; omega)]
          rw [HFIN.out] at ho9 hr9
          obtain ⟨A9, c9, rfl, -⟩ := own_slice ho9
          have HO9 := Lib.hid ho9
          have HR9 := Lib.hid hr9
          clear ho9 hr9
          go_wp2_with fail
          go_ret2
          rw [HRES.out]
          have hz1 := HB.out.size
          have hz2 := HB1.out.size
          exact ⟨Below.then (Below.then HB.out hz1 HB1.out) (by omega) HB2.out, A9, c9, rfl, A9, c9, vs9, rfl, own_mono HO9.out (by omega), HR9.out⟩
end Go.Proofs.Ytbmlkomfelkckaa
