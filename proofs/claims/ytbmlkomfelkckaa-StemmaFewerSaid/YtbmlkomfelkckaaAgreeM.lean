/- slices.Equal, IndexFunc and DeleteFunc over rows of numbers. -/
import Derived.Test.YtbmlkomfelkckaaCladeM
import Derived.Test.YtbmlkomfelkckaaInts
import Derived.Test.YtbmlkomfelkckaaAppRow
import Derived.Shelf.Abstract
import Derived.Lib.SlKept
import Derived.Lib.SliceRun
namespace Go.Proofs.Ytbmlkomfelkckaa
open Go Go.RowKit Go.Lib
set_option maxRecDepth 100000

set_option maxHeartbeats 1000000 in
theorem equal_calls (A B : Option Addr) (n m c d : Nat) (xs ys : List Int) (w : World) (hx : RdInt w A xs) (hy : RdInt w B ys) (hn : xs.length = n) (hm : ys.length = m) (hcn : n ≤ 9223372036854775807) (hcm : m ≤ 9223372036854775807) :
    Calls Try.prog 92 #[.slice A n c, .slice B m d] w fun e w' => e = .returned (.bool (xs == ys)) ∧ ∃ k, w' = w.drewN k := by
  have HX := Lib.hid hx
  have HY := Lib.hid hy
  have HN := Lib.hid hn
  have HM := Lib.hid hm
  by_cases hnm : n = m
  · subst hnm
    have f0 : ((n : Int) != (n : Int)) = false := by simp
    clear hx hy hn hm
    go_enter Try.func92, Try.ntmps92
    go_wp2_with fail
    go_loopg [13] n (fun gk v13 wr => ∃ k : Nat, v13 = .int .i64 k ∧ k ≤ n ∧ Hid (gk + k = n) ∧ (∃ q, wr = w.drewN q) ∧ Hid (xs.take k = ys.take k))
    case atStart => exact ⟨0, rfl, Nat.zero_le _, rfl, ⟨0, rfl⟩, rfl⟩
    case round =>
      obtain ⟨k, rfl, hk, HG, ⟨q, hq⟩, HT⟩ := hrel
      have HQ := Lib.hid hq
      have HXR : Hid (RdInt wr A xs) := by show RdInt wr A xs; rw [hq]; exact HX.out
      have HYR : Hid (RdInt wr B ys) := by show RdInt wr B ys; rw [hq]; exact HY.out
      clear hq
      by_cases hkn : k < n
      · have h1 : k < xs.length := by have := HN.out; omega
        have h2 : k < ys.length := by have := HM.out; omega
        obtain ⟨ad1, rfl, e1⟩ := HXR.out k xs[k] (by simp [h1])
        obtain ⟨ad2, rfl, e2⟩ := HYR.out k ys[k] (by simp [h2])
        obtain ⟨x, hx⟩ : ∃ x, xs[k] = x := ⟨_, rfl⟩
        obtain ⟨y, hy⟩ : ∃ y, ys[k] = y := ⟨_, rfl⟩
        rw [hx] at e1
        rw [hy] at e2
        have k1 : (k : Int) < (n : Int) := by omega
        by_cases hxy : x = y
        · have HNX : Hid (xs.take (k + 1) = ys.take (k + 1)) := take_succ_eq HT.out h1 h2 (by rw [hx, hy, hxy])
          have f1 : (x != y) = false := by rw [bne_eq_false_iff_eq]; exact hxy
          clear hx hy hxy h1 h2
          go_wp2_with fail
          go_quiet (fail)
          go_wp2_with fail
          go_roundg (gk - 1)
          case measure => have := HG.out; omega
          case rel => exact ⟨k + 1, by go_num, by omega, by have := HG.out; show gk - 1 + (k + 1) = n; omega, ⟨_, by rw [HQ.out, World.drewN_drewN]⟩, HNX.out⟩
        · have HF : Hid ((xs == ys) = false) := by
            show (xs == ys) = false
            rw [beq_eq_false_iff_ne]
            intro e
            apply hxy
            rw [← hx, ← hy]
            simp only [e]
          have f1 : (x != y) = true := by rw [bne_iff_ne]; exact hxy
          clear hx hy hxy h1 h2
          go_wp2_with fail
          go_quiet (fail)
          go_wp2_with fail
          go_ret
          exact ⟨by rw [HF.out]; rfl, _, by rw [HQ.out, World.drewN_drewN]⟩
      · have HF : Hid ((xs == ys) = true) := by
          show (xs == ys) = true
          rw [beq_iff_eq]
          have h1 := HT.out
          have h2 := HN.out
          have h3 := HM.out
          rw [List.take_of_length_le (by omega), List.take_of_length_le (by omega)] at h1
          exact h1
        have k1 : ¬ (k : Int) < (n : Int) := by omega
        go_wp2_with fail
        go_ret
        exact ⟨by rw [HF.out]; rfl, q, HQ.out⟩
  · have HF : Hid ((xs == ys) = false) := by
      show (xs == ys) = false
      rw [beq_eq_false_iff_ne]
      intro e
      apply hnm
      rw [← hn, ← hm, e]
    have f0 : ((n : Int) != (m : Int)) = true := by rw [bne_iff_ne]; omega
    clear hx hy hn hm hnm
    go_enter Try.func92, Try.ntmps92
    go_wp2_with fail
    go_ret
    exact ⟨by rw [HF.out]; rfl, 0, rfl⟩

/-- What a predicate answers: for each row of a list, in every later world. -/
def Tells (g : Nat) (lb : Array Value) (vs : List Value) (L : List (List Int)) (p : List Int → Bool) (S : World → Prop) : Prop :=
  ∀ (W : World) (i : Nat) (x : List Int) (v : Value), S W → L[i]? = some x → vs[i]? = some v → Calls Try.prog g (#[v] ++ lb) W fun e W' => e = .returned (.bool (p x)) ∧ Below W.heap.size W W'

theorem own_cell {w : World} {base n c g : Nat} {e : TypeId} {xs : List Value} (h : w.ownsRow base e 1 (.slice (some ⟨g, 0, none⟩) n c) n xs) (j : Nat) (hj : j < n) : ∃ v, xs[j]? = some v ∧ w.cell? ⟨g, j, none⟩ = some v := by
  have hl := h.1
  refine ⟨xs[j]'(by omega), List.getElem?_eq_getElem _, ?_⟩
  rw [h.cellAt j (by omega), List.getElem?_eq_getElem]

theorem own_none {w : World} {base n c : Nat} {e : TypeId} {xs : List Value} (h : w.ownsRow base e 1 (.slice none n c) n xs) : n = 0 := by
  rcases h.2 with ⟨_, h⟩ | ⟨_, _, _, h, _⟩
  · exact h
  · cases h

set_option maxHeartbeats 1000000 in
theorem index_calls (g : Nat) (lb : Array Value) (eg : ∀ args w, (callFunc g args).run Try.prog w = .ok (.enter g args) w) (A : Option Addr) (n c base : Nat) (vs : List Value) (L : List (List Int)) (p : List Int → Bool) (w : World)
    (ho : w.ownsRow base 43 1 (.slice A n c) n vs) (hl : L.length = n) (hcap : n ≤ 9223372036854775807) (hp : Tells g lb vs L p (Below w.heap.size w)) :
    Calls Try.prog 113 #[.slice A n c, .func (.func g) #[] lb] w fun e w' => Below w.heap.size w w' ∧ ((e = .returned (.int .i64 (-1)) ∧ ∀ x ∈ L, p x = false) ∨ ∃ k : Nat, e = .returned (.int .i64 k) ∧ k < n ∧ (∀ j, j < k → p (L.getD j []) = false) ∧ p (L.getD k []) = true) := by
  have HP := Lib.hid hp
  have HO := Lib.hid ho
  have HL := Lib.hid hl
  clear hp ho hl
  go_enter Try.func113, Try.ntmps113
  go_wp2_with fail
  go_loopg [8] n (fun gk v8 wr => ∃ k : Nat, v8 = .int .i64 k ∧ k ≤ n ∧ Hid (gk + k = n) ∧ Hid (Below w.heap.size w wr) ∧ Hid (∀ j, j < k → p (L.getD j []) = false))
  case atStart => exact ⟨0, rfl, Nat.zero_le _, rfl, Below.refl _ _, fun j hj => by omega⟩
  case round =>
    obtain ⟨k, rfl, hk, HG, HB, HT⟩ := hrel
    by_cases hkn : k < n
    · obtain ⟨gb, rfl⟩ : ∃ gb, A = some ⟨gb, 0, none⟩ := by
        obtain ⟨gb, rfl, -⟩ := own_at HO.out (by omega)
        exact ⟨gb, rfl⟩
      obtain ⟨v, hv, hc⟩ := own_cell (own_below HO.out HB.out) k hkn
      have hx : L[k]? = some (L.getD k []) := by rw [List.getD_eq_getElem?_getD, List.getElem?_eq_getElem (by have := HL.out; omega)]; rfl
      have hcall := HP.out wr k _ v HB.out hx hv
      have k1 : (k : Int) < (n : Int) := by omega
      obtain ⟨x, hxe⟩ : ∃ x, L.getD k [] = x := ⟨_, rfl⟩
      rw [hxe] at hcall
      have HXE := Lib.hid hxe
      clear hx hv hxe
      cases hq : p x with
      | true =>
        rw [hq] at hcall
        go_wp2_with (go_at_fn g; refine hcall.mono ?_; rintro e w' ⟨rfl, hb'⟩)
        go_ret
        exact ⟨Below.then HB.out HB.out.size hb', .inr ⟨k, rfl, hkn, HT.out, by rw [HXE.out]; exact hq⟩⟩
      | false =>
        rw [hq] at hcall
        have HNX : Hid (∀ j, j < k + 1 → p (L.getD j []) = false) := fun j hj => by
          by_cases e : j = k
          · subst e; rw [HXE.out]; exact hq
          · exact HT.out j (by omega)
        clear hq
        go_wp2_with (go_at_fn g; refine hcall.mono ?_; rintro e w' ⟨rfl, hb'⟩)
        go_roundg (gk - 1)
        case measure => have := HG.out; omega
        case rel => exact ⟨k + 1, by go_num, by omega, by have := HG.out; show gk - 1 + (k + 1) = n; omega, Below.then HB.out HB.out.size hb', HNX.out⟩
    · have k1 : ¬ (k : Int) < (n : Int) := by omega
      go_wp2_with fail
      go_ret
      refine ⟨HB.out, .inl ⟨rfl, fun x hx => ?_⟩⟩
      obtain ⟨j, hj⟩ := List.mem_iff_getElem?.1 hx
      have hjl := (List.getElem?_eq_some_iff.1 hj).1
      have := HT.out j (by have := HL.out; omega)
      rwa [List.getD_eq_getElem?_getD, hj] at this

theorem below_grown {w w' : World} (h : Below w.heap.size w w') (row : Option Nat) : w.grownBy w' row := ⟨h.os, h.tape, h.output, h.size, fun k hk _ => h.block k hk⟩
theorem grown_below {w w1 w2 : World} {row : Option Nat} (h : w.grownBy w1 row) (k : Below w1.heap.size w1 w2) : w.grownBy w2 row :=
  ⟨k.os.trans h.os, k.tape.trans h.tape, k.output.trans h.output, Nat.le_trans h.size k.size, fun i hi hr => (k.block i (Nat.lt_of_lt_of_le hi h.size)).trans (h.block i hi hr)⟩
theorem grown_grown {w w1 w2 : World} {row : Option Nat} (h : w.grownBy w1 row) (k : w1.grownBy w2 row) : w.grownBy w2 row :=
  ⟨k.os.trans h.os, k.tape.trans h.tape, k.output.trans h.output, Nat.le_trans h.size k.size, fun i hi hr => (k.block i (Nat.lt_of_lt_of_le hi h.size) hr).trans (h.block i hi hr)⟩

/-- The first m of an own row. -/
theorem own_take {w : World} {base n m c g : Nat} {e : TypeId} {xs : List Value} (h : w.ownsRow base e 1 (.slice (some ⟨g, 0, none⟩) n c) n xs) (hm : m ≤ n) : w.ownsRow base e 1 (.slice (some ⟨g, 0, none⟩) m c) m (xs.take m) := by
  obtain ⟨h1, h2⟩ := h
  rcases h2 with ⟨h0, _⟩ | ⟨g', cap, cur, hv, hg, hh, hn, hcap, hsz, ht⟩
  · cases h0
  · cases hv
    refine ⟨by rw [List.length_take]; omega, .inr ⟨g, c, cur, rfl, hg, hh, by omega, hcap, hsz, ?_⟩⟩
    rw [← ht, List.take_take]
    congr 1
    omega

/-- Cells of an own row are set, from place o on: what stands ahead of o stays. -/
theorem ag_setCells {base n c g : Nat} {e : TypeId} : ∀ (l : List Value) (o : Nat) (w : World) (xs : List Value), w.ownsRow base e 1 (.slice (some ⟨g, 0, none⟩) n c) n xs →
    ∃ ys, (w.setCells g o l).ownsRow base e 1 (.slice (some ⟨g, 0, none⟩) n c) n ys ∧ ys.take o = xs.take o ∧ w.grownBy (w.setCells g o l) (some g)
  | [], o, w, xs, h => ⟨xs, h, rfl, below_grown (Below.refl _ _) _⟩
  | v :: l, o, w, xs, h => by
    obtain ⟨h1, h2⟩ := h.stored o v
    obtain ⟨ys, k1, k2, k3⟩ := ag_setCells l (o + 1) _ _ h1
    refine ⟨ys, k1, ?_, grown_grown h2 k3⟩
    have := congrArg (List.take o) k2
    rw [List.take_take, List.take_take, Nat.min_eq_left (by omega), List.take_set_of_le (by omega)] at this
    exact this

theorem get_bang {vs : List Value} {j : Nat} {v : Value} (h : vs[j]? = some v) : vs.toArray[j]! = v := by
  rw [getElem!_def, List.getElem?_toArray, h]

set_option maxHeartbeats 4000000 in
theorem delete_calls (g : Nat) (lb : Array Value) (eg : ∀ args w, (callFunc g args).run Try.prog w = .ok (.enter g args) w) (A : Option Addr) (n c base : Nat) (vs : List Value) (L : List (List Int)) (p : List Int → Bool) (w : World)
    (ho : w.ownsRow base 43 1 (.slice A n c) n vs) (hl : L.length = n) (hcap : n ≤ 9223372036854775807) (hsl : ∀ (j : Nat) v, vs[j]? = some v → ∃ a m k, v = .slice a m k) (hp : Tells g lb vs L p (fun W => w.grownBy W (Value.slice A n c).ownBlock)) :
    Calls Try.prog 88 #[.slice A n c, .func (.func g) #[] lb] w fun e w' => ∃ m, e = .returned (.slice A m c) ∧ w'.ownsRow base 43 1 (.slice A m c) m (keptUpTo (fun j => !p (L.getD j [])) vs.toArray n) ∧ w.grownBy w' (Value.slice A n c).ownBlock := by
  have HP := Lib.hid hp
  have HO := Lib.hid ho
  have HL := Lib.hid hl
  have HSL := Lib.hid hsl
  have HV : Hid (vs.length = n) := by have := ho.1; show vs.length = n; omega
  have HI := Lib.hid (index_calls g lb eg A n c base vs L p w ho hl hcap (fun W i x v hW => hp W i x v (below_grown hW _)))
  obtain ⟨kp, HK⟩ : ∃ kp : Nat → Bool, Hid ((fun j => !p (L.getD j [])) = kp) := ⟨_, rfl⟩
  rw [HK.out]
  clear hp ho hl hsl
  go_enter Try.func88, Try.ntmps88
  go_wp2_with fail
  (with_reducible refine (HI.out).mono ?_)
  rintro e w1 ⟨hb1, ⟨rfl, hall⟩ | ⟨k0, rfl, hk0, hall, hhit⟩⟩
  · have HB1 := Lib.hid hb1
    have HA := Lib.hid hall
    clear hall hb1
    go_wp2_with fail
    go_ret
    refine ⟨n, rfl, ?_, below_grown HB1.out _⟩
    have e := keptUpTo_all kp vs.toArray n (fun j hj => by rw [← HK.out]; show (!p (L.getD j [])) = true; rw [HA.out _ (by rw [List.getD_eq_getElem?_getD, List.getElem?_eq_getElem (by have := HL.out; omega)]; exact List.getElem_mem _)]; rfl)
    have e2 := range_map_get vs.toArray
    rw [List.size_toArray, HV.out] at e2
    rw [e, e2]
    exact own_below HO.out HB1.out
  · obtain ⟨gb, rfl⟩ : ∃ gb, A = some ⟨gb, 0, none⟩ := by
      obtain ⟨gb, rfl, -⟩ := own_at HO.out (by omega)
      exact ⟨gb, rfl⟩
    have hne1 : ((k0 : Int) == -1) = false := beq_eq_false_iff_ne.2 (by omega)
    have HS : Hid (KeptInv kp vs.toArray (k0 + 1) k0 vs.toArray) := KeptInv.start (fun j hj => by rw [← HK.out]; show (!p (L.getD j [])) = true; rw [hall j hj]; rfl) (by rw [← HK.out]; show (!p (L.getD k0 [])) = false; rw [hhit]; rfl)
    have HG1 : Hid (w.grownBy w1 (some gb)) := below_grown hb1 _
    have HO1 : Hid (w1.ownsRow base 43 1 (.slice (some ⟨gb, 0, none⟩) n c) n vs.toArray.toList) := own_below HO.out hb1
    have HC : Hid (n ≤ c ∧ c ≤ 9223372036854775807) := by
      rcases HO.out.2 with ⟨h, _⟩ | ⟨_, _, _, h, _, _, h1, h2, _⟩
      · cases h
      · cases h; exact ⟨h1, h2⟩
    obtain ⟨hc1, hc2⟩ := HC.out
    clear hall hhit hb1
    go_wp2_with fail
    go_loopg [5, 6] n (fun gk v5 v6 wr => ∃ (i j : Nat) (dk : Array Value), v5 = .int .i64 i ∧ v6 = .int .i64 j ∧ j ≤ n ∧ i < j ∧ Hid (n - j ≤ gk) ∧ Hid (w.grownBy wr (some gb)) ∧ Hid (wr.ownsRow base 43 1 (.slice (some ⟨gb, 0, none⟩) n c) n dk.toList) ∧ Hid (KeptInv kp vs.toArray j i dk))
    case atStart => exact ⟨k0, k0 + 1, vs.toArray, rfl, by go_num, by omega, by omega, by show n - (k0 + 1) ≤ n; omega, HG1.out, HO1.out, HS.out⟩
    case round =>
      obtain ⟨i, j, dk, rfl, rfl, hjn, hij, HG, HW, HR, HKI⟩ := hrel
      by_cases hlt : j < n
      · have hltz : (j : Int) < (n : Int) := by omega
        obtain ⟨v, hv, cj⟩ := own_cell HR.out j hlt
        have hvs : vs[j]? = some v := by
          have h1 := HKI.out.high j (by omega)
          have h2 : dk[j]! = v := by rw [getElem!_def, ← Array.getElem?_toList, hv]
          rw [h2] at h1
          have hj : j < vs.length := by have := HV.out; omega
          rw [getElem!_def, List.getElem?_toArray, List.getElem?_eq_getElem hj] at h1
          rw [List.getElem?_eq_getElem hj]
          exact congrArg some h1.symm
        have hx : L[j]? = some (L.getD j []) := by rw [List.getD_eq_getElem?_getD, List.getElem?_eq_getElem (by have := HL.out; omega)]; rfl
        have hcall := HP.out wr j _ v HW.out hx hvs
        obtain ⟨u, _, ci⟩ := own_cell HR.out i (by omega)
        have fi := HR.out.frozenAt i
        have hgl := World.block_lt_of_cell? wr _ ci
        have HKJ : Hid (kp j = !p (L.getD j [])) := by rw [← HK.out]; rfl
        generalize L.getD j [] = x at hcall HKJ
        obtain ⟨a1, m1, k1, rfl⟩ := HSL.out j v hvs
        have HVS := Lib.hid hvs
        clear hx hv hvs
        cases hq : p x with
        | false =>
          rw [hq] at hcall HKJ
          clear hq
          go_wp2_with (go_at_fn g; refine hcall.mono ?_; rintro e w5 ⟨rfl, hb5⟩; have ci5 := cell_below hb5 hgl ci; have fi5 := frozen_below hb5 hgl fi)
          obtain ⟨h1, h2⟩ := (own_below HR.out hb5).stored i (.slice a1 m1 k1)
          go_roundg (n - (j + 1))
          case measure => have := HG.out; omega
          case rel =>
            refine ⟨i + 1, j + 1, dk.setIfInBounds i (.slice a1 m1 k1), by go_num, by go_num, by omega, by omega, Nat.le_refl _, grown_grown (grown_below HW.out hb5) h2, by rw [Array.toList_setIfInBounds]; exact h1, ?_⟩
            have := HKI.out.keep (by rw [List.size_toArray, HV.out]; exact hlt) (by rw [HKJ.out]; rfl)
            rwa [get_bang HVS.out] at this
        | true =>
          rw [hq] at hcall HKJ
          clear hq
          go_wp2_with (go_at_fn g; refine hcall.mono ?_; rintro e w5 ⟨rfl, hb5⟩)
          go_roundg (n - (j + 1))
          case measure => have := HG.out; omega
          case rel => exact ⟨i, j + 1, dk, rfl, by go_num, by omega, by omega, Nat.le_refl _, grown_below HW.out hb5, own_below HR.out hb5, HKI.out.skip (by rw [HKJ.out]; rfl)⟩
      · obtain rfl : j = n := by omega
        have hltz : ¬ (j : Int) < (j : Int) := by omega
        have hcl : ∀ ty, (Builtin.clear_ #[34] ty #[.slice (some ⟨gb, i, none⟩) (j - i) (c - i)]).run Try.prog wr = .ok (.tuple #[]) (wr.setCells gb i (List.replicate (j - i) (.slice none 0 0))) :=
          fun ty => Lib.run_clear_slice wr _ _ ty _ Try.underlying34 (fun w => by rfl) rfl rfl gb i _ _ (by omega) (fun t ht => by obtain ⟨u, _, hu⟩ := own_cell HR.out (i + t) (by omega); rw [hu]; rfl) (fun t ht => HR.out.frozenAt (i + t))
        go_wp2_with fail
        go_ret
        obtain ⟨ys, h1, h2, h3⟩ := ag_setCells (List.replicate (j - i) (Value.slice none 0 0)) i wr _ HR.out
        refine ⟨i, rfl, ?_, grown_grown HW.out h3⟩
        have h4 := own_take h1 (Nat.le_of_lt hij)
        rw [h2] at h4
        have hI := HKI.out
        have e : keptUpTo kp vs.toArray j = dk.toList.take i := by
          apply List.ext_getElem?
          intro t
          have hds : dk.size = j := by rw [hI.size, List.size_toArray, HV.out]
          by_cases ht : t < i
          · rw [hI.low t ht, List.getElem?_take, if_pos ht, Array.getElem?_toList, getElem!_pos dk t (by omega), Array.getElem?_eq_getElem]
          · rw [List.getElem?_eq_none (by rw [hI.len]; omega), List.getElem?_eq_none (by rw [List.length_take]; omega)]
        rw [e]
        exact h4
end Go.Proofs.Ytbmlkomfelkckaa
