/- siglumref15.Ranks; siglumlaw15.same, few. -/
import Derived.Test.YteonpfomlmfkjaaRkRef
import Derived.BigQuiet
import Derived.Deep.QuietTactic
namespace Go.Proofs.Yteonpfomlmfkjaa
open Go Go.RowKit
set_option maxRecDepth 100000

/-- The ranks while those of v are looked for. -/
def rrMid (F : Int → Int) (arcs : List (Int × Int)) (S : List Int) (v : Int) (i : Nat) (x : Int) : Int := if x = v then sup0 (((arcs.take i).filter fun a => a.2 == v).map fun a => F a.1 + 1) else if x ∈ S then F x else 0

theorem rrMid_zero {F : Int → Int} {arcs : List (Int × Int)} {S : List Int} {v : Int} (hv : v ∉ S) (x : Int) : rrMid F arcs S v 0 x = if x ∈ S then F x else 0 := by
  unfold rrMid
  by_cases e : x = v
  · subst e; rw [if_pos rfl, if_neg hv]; rfl
  · rw [if_neg e]

theorem rrMid_all {n : Nat} {arcs : List (Int × Int)} {L S : List Int} {v : Int} (h : Order n arcs L) (hv : v ∈ L) {i : Nat} (hi : arcs.length ≤ i) (x : Int) : rrMid (rank n arcs) arcs S v i x = if x ∈ S ++ [v] then rank n arcs x else 0 := by
  unfold rrMid
  by_cases e : x = v
  · subst e
    rw [if_pos rfl, if_pos (by simp), List.take_of_length_le hi, ← rank_eq h hv]
  · rw [if_neg e]
    have : x ∈ S ++ [v] ↔ x ∈ S := by simp [e]
    simp only [this]

theorem rrMid_hit {F : Int → Int} {arcs : List (Int × Int)} {S : List Int} {v a : Int} {i : Nat} (h : arcs[i]? = some (a, v)) (x : Int) : rrMid F arcs S v (i + 1) x = if x = v then max (rrMid F arcs S v i x) (F a + 1) else rrMid F arcs S v i x := by
  obtain ⟨hi, he⟩ := List.getElem?_eq_some_iff.1 h
  unfold rrMid
  by_cases e : x = v
  · rw [if_pos e, if_pos e, if_pos e, List.take_succ_eq_append_getElem hi, he, List.filter_append, List.map_append]
    have : ([(a, v)].filter fun a => a.2 == v) = [(a, v)] := by simp
    rw [this]
    exact sup0_snoc _ _
  · rw [if_neg e, if_neg e, if_neg e]

theorem rrMid_miss {F : Int → Int} {arcs : List (Int × Int)} {S : List Int} {v a b : Int} {i : Nat} (h : arcs[i]? = some (a, b)) (hb : b ≠ v) (x : Int) : rrMid F arcs S v (i + 1) x = rrMid F arcs S v i x := by
  obtain ⟨hi, he⟩ := List.getElem?_eq_some_iff.1 h
  unfold rrMid
  rw [List.take_succ_eq_append_getElem hi, he, List.filter_append]
  have : ([(a, b)].filter fun a => a.2 == v) = [] := by simp [hb]
  rw [this, List.append_nil]

theorem nodup_take {l : List Int} (h : l.Nodup) {k : Nat} {v : Int} (hv : l[k]? = some v) : v ∉ l.take k := by
  intro hm
  obtain ⟨j, hj⟩ := List.mem_iff_getElem?.1 hm
  rw [List.getElem?_take] at hj
  split at hj
  · obtain ⟨hk1, hk2⟩ := List.getElem?_eq_some_iff.1 hv
    obtain ⟨hj1, hj2⟩ := List.getElem?_eq_some_iff.1 hj
    exact List.pairwise_iff_getElem.1 h j k hj1 hk1 (by assumption) (by rw [hj2]; exact hk2.symm)
  · cases hj

set_option maxHeartbeats 8000000 in
theorem rranks_calls (A : Option Addr) (n c : Nat) (arcs : List (Int × Int)) (z : Int) (w : World) (hr : RdArcs w A arcs) (hn : arcs.length = n) (hcap : n ≤ 9223372036854775807) (hz1 : -9223372036854775808 ≤ z) (hz2 : z ≤ 9223372036854775807) :
    Calls Try.prog 16 #[.int .i64 z, .slice A n c] w (RetList w (ranksOf z arcs)) := by
  have HO := Lib.hid (rorder_calls A n c arcs z w hr hn hcap hz1 hz2)
  have HR := Lib.hid hr
  have HN := Lib.hid hn
  clear hr hn
  by_cases hok : arcsOk z arcs
  rotate_left
  · have HE : Hid (ranksOf z arcs = (2, []) ∧ orderOf z arcs = (2, [])) := by refine ⟨?_, ?_⟩ <;> (first | unfold ranksOf | unfold orderOf) <;> rw [if_neg hok]
    rw [HE.out.2] at HO
    clear hok
    go_enter Try.func16, Try.ntmps16
    go_wp2_with fail
    (with_reducible refine HO.out.mono ?_)
    rintro e w1 ⟨hb1, A1, c1, rfl, -⟩
    go_wp2_with fail
    go_ret2
    rw [HE.out.1]
    exact RetList.nil hb1
  obtain ⟨m, rfl⟩ : ∃ m : Nat, z = (m : Int) := ⟨z.toNat, by have := hok.1; omega⟩
  have hm : m ≤ 4096 := by have := hok.2.1; omega
  have HOK := Lib.hid hok
  have hmk := run_make_row' (P := Try.prog) 25 3 (.int .i64 0) 8 Try.underlying25 info_intK rfl .i64 .i64 m (by omega) (by omega)
  by_cases hf : (kahn m arcs m).length = m
  rotate_left
  · have HE : Hid (ranksOf (m : Int) arcs = (150, []) ∧ orderOf (m : Int) arcs = (150, [])) := by refine ⟨?_, ?_⟩ <;> (first | unfold ranksOf | unfold orderOf) <;> rw [if_pos hok] <;> exact if_neg hf
    rw [HE.out.2] at HO
    clear hok hf
    go_enter Try.func16, Try.ntmps16
    go_wp2_with fail
    (with_reducible refine HO.out.mono ?_)
    rintro e w1 ⟨hb1, A1, c1, rfl, -⟩
    go_wp2_with fail
    go_ret2
    rw [HE.out.1]
    exact RetList.nil hb1
  have HE : Hid (ranksOf (m : Int) arcs = (0, (nodes m).map (rank m arcs)) ∧ orderOf (m : Int) arcs = (0, kahn m arcs m)) := by refine ⟨?_, ?_⟩ <;> (first | unfold ranksOf | unfold orderOf) <;> rw [if_pos hok] <;> exact if_pos hf
  have HOR := Lib.hid (full_order hf)
  have HF := Lib.hid hf
  rw [HE.out.2] at HO
  generalize kahn m arcs m = L at *
  clear hok hf
  go_enter Try.func16, Try.ntmps16
  go_wp2_with fail
  (with_reducible refine HO.out.mono ?_)
  rintro e w2 ⟨hb2, A2, c2, rfl, ho2⟩
  simp only [HF.out] at ho2 ⊢
  have HB2 := Lib.hid hb2
  have HO2 := Lib.hid ho2
  clear hb2 ho2 HO
  have hb3 := below_alloc w2 (.cells (madeCells #[.int .i64 0] m) 3)
  have HR0 := Lib.hid (World.rowIs_made w2 (.int .i64 0) m 3)
  have HB3 := Lib.hid hb3
  clear hb3
  go_wp2_with fail
  go_loopg [9] m (fun gk v9 wr => ∃ k : Nat, v9 = .int .i64 k ∧ k ≤ m ∧ m - k ≤ gk ∧ Hid (Below w2.heap.size w2 wr) ∧ Hid (wr.rowIs w2.heap.size 3 m fun x => .int .i64 (if (x : Int) ∈ L.take k then rank m arcs x else 0)))
  case atStart => exact ⟨0, rfl, Nat.zero_le _, by omega, HB3.out, HR0.out.congr fun x _ => by simp⟩
  case round =>
    clear HR0 HB3 hmk
    obtain ⟨k, rfl, hk, hgk, HB, HRW⟩ := hrel
    by_cases hkm : k < m
    · have k1 : (k : Int) < (m : Int) := by omega
      obtain ⟨v, hv⟩ : ∃ v, L[k]? = some v := ⟨_, List.getElem?_eq_getElem (by have := HF.out; omega)⟩
      have hvm := List.mem_of_getElem? hv
      have hvr := (HOR.out.mem v).1 hvm
      obtain ⟨a, rfl⟩ : ∃ a : Nat, v = (a : Int) := ⟨v.toNat, by omega⟩
      have han : a < m := by omega
      have aI : (a : Int) < (m : Int) := by omega
      have HVM := Lib.hid hvm
      have HNT := Lib.hid (nodup_take HOR.out.nodup hv)
      have HTP := Lib.hid (HOR.out.topo k _ hv)
      have HTS : Hid (L.take (k + 1) = L.take k ++ [(a : Int)]) := by
        obtain ⟨h1, h2⟩ := List.getElem?_eq_some_iff.1 hv
        show _ = _
        rw [List.take_succ_eq_append_getElem h1, h2]
      obtain ⟨g2, rfl, hg2l, _, hc2⟩ := own_at HO2.out (by omega)
      have e2 := hc2 k (.int .i64 (a : Int)) (by simp [intCells, hv])
      rw [add_plain] at e2
      have HE2 := Lib.hid e2
      have HRM : Hid (wr.rowIs w2.heap.size 3 m fun x => .int .i64 (rrMid (rank m arcs) arcs (L.take k) (a : Int) 0 x)) := HRW.out.congr fun x _ => by rw [rrMid_zero HNT.out]
      clear hv hvm hvr hc2 e2 HRW
      obtain ⟨gk1, rfl⟩ : ∃ gk1 : Nat, gk1 = gk := ⟨_, rfl⟩
      go_wp2_with fail
      go_loopg [10] n (fun gk v10 wr => ∃ i : Nat, v10 = .int .i64 i ∧ i ≤ n ∧ n - i ≤ gk ∧ Hid (Below w2.heap.size w2 wr) ∧ Hid (wr.rowIs w2.heap.size 3 m fun x => .int .i64 (rrMid (rank m arcs) arcs (L.take k) (a : Int) i x)))
      case atStart => exact ⟨0, rfl, Nat.zero_le _, by omega, HB.out, HRM.out⟩
      case round =>
        clear HB HRM
        obtain ⟨i, rfl, hi, hgi, HB, HRM⟩ := hrel
        by_cases hin : i < n
        · have i1 : (i : Int) < (n : Int) := by omega
          obtain ⟨s, b, ad, hab, rfl, e0, e1⟩ := arc_get (HR.out.below (Below.then HB2.out HB2.out.size HB.out)) (k := i) (by have := HN.out; omega)
          have hmem := List.mem_of_getElem? hab
          obtain ⟨s0, s1, b0, b1⟩ := HOK.out.2.2.2 _ hmem
          have e2 := cell_below HB.out hg2l HE2.out
          obtain ⟨s, rfl⟩ : ∃ s' : Nat, s = (s' : Int) := ⟨s.toNat, by simp only at s0; omega⟩
          have hsm : s < m := by simp only at s1; omega
          have sI : (s : Int) < (m : Int) := by omega
          by_cases hba : b = (a : Int)
          · subst hba
            have f1 : ((a : Int) == (a : Int)) = true := by simp
            have hsS := HTP.out _ hmem rfl
            have hsa : s ≠ a := fun e => by subst e; exact HNT.out hsS
            have c1 := HRM.out.cell han
            have c2 := HRM.out.cell hsm
            have c3 := HRM.out.frozen a
            have hsv : rrMid (rank m arcs) arcs (L.take k) (a : Int) i (s : Int) = rank m arcs (s : Int) := by
              unfold rrMid
              rw [if_neg (by omega), if_pos hsS]
            simp only [hsv] at c2
            have hrb := rk_le arcs m (s : Int)
            have hrn := rk_nonneg arcs m (s : Int)
            obtain ⟨ra, hra⟩ : ∃ ra, rank m arcs (s : Int) = ra := ⟨_, rfl⟩
            have hrb : ra ≤ 4096 := by rw [← hra]; exact Int.le_trans hrb (by omega)
            have hrn : 0 ≤ ra := by rw [← hra]; exact hrn
            simp only [hra] at c2
            obtain ⟨y, hy⟩ : ∃ y, rrMid (rank m arcs) arcs (L.take k) (a : Int) i (a : Int) = y := ⟨_, rfl⟩
            simp only [hy] at c1
            have HSET : Hid ((wr.setCell ⟨w2.heap.size, a, none⟩ (.int .i64 (max y (ra + 1)))).rowIs w2.heap.size 3 m fun u => .int .i64 (rrMid (rank m arcs) arcs (L.take k) (a : Int) (i + 1) u)) := (HRM.out.set a _).congr fun u _ => by
              rw [rrMid_hit hab]
              by_cases e : u = a
              · subst e; rw [if_pos rfl, if_pos rfl, hy, hra]
              · rw [if_neg e, if_neg (by omega)]
            have ri : -9223372036854775808 ≤ ra + 1 ∧ ra + 1 ≤ 9223372036854775807 := by omega
            clear hab hmem hsS hsv hy hra s0 s1 b0 b1
            go_wp2_with fail
            go_quiet (fail)
            have hd := below_drewN wr nq
            have e0 := (hd.cell (World.block_lt_of_cell? wr _ e0)).trans e0
            have e2 := cell_below hd (World.block_lt_of_cell? wr _ e2) e2
            have c1 : (wr.drewN nq).cell? ⟨w2.heap.size, a, none⟩ = some (.int .i64 y) := c1
            have c2 : (wr.drewN nq).cell? ⟨w2.heap.size, s, none⟩ = some (.int .i64 ra) := c2
            have c3 : (wr.drewN nq).frozen? ⟨w2.heap.size, a, none⟩ = false := c3
            have HSET : Hid (((wr.drewN nq).setCell ⟨w2.heap.size, a, none⟩ (.int .i64 (max y (ra + 1)))).rowIs w2.heap.size 3 m fun u => .int .i64 (rrMid (rank m arcs) arcs (L.take k) (a : Int) (i + 1) u)) := HSET.out
            have HBS := Lib.hid ((below_set (Below.then HB.out HB.out.size hd) (Nat.le_refl _) a (.int .i64 (max y (ra + 1)))).drew)
            clear hd
            generalize wr.drewN nq = W5 at *
            go_wp2_with fail
            go_region
            all_goals
              go_wp2_with fail
              go_roundg (gk - 1)
              case measure => omega
              case rel => exact ⟨i + 1, by go_num, by omega, by omega, HBS.out, HSET.out.drew⟩
          · have f1 : (b == (a : Int)) = false := by rw [beq_eq_false_iff_ne]; exact hba
            have HRM2 : Hid (wr.rowIs w2.heap.size 3 m fun x => .int .i64 (rrMid (rank m arcs) arcs (L.take k) (a : Int) (i + 1) x)) := HRM.out.congr fun x _ => by rw [rrMid_miss hab hba]
            clear hab hmem s0 s1 b0 b1 HRM
            go_wp2_with fail
            go_quiet (fail)
            go_wp2_with fail
            go_roundg (gk - 1)
            case measure => omega
            case rel => exact ⟨i + 1, by go_num, by omega, by omega, Below.then HB.out HB.out.size (below_drewN wr nq), HRM2.out⟩
        · obtain rfl : i = n := by omega
          have i1 : ¬ (i : Int) < (i : Int) := by omega
          have HR2 : Hid (wr.rowIs w2.heap.size 3 m fun x => .int .i64 (if (x : Int) ∈ L.take (k + 1) then rank m arcs x else 0)) := HRM.out.congr fun x _ => by rw [rrMid_all HOR.out HVM.out (by have := HN.out; omega), HTS.out]
          clear HRM
          go_wp2_with fail
          go_roundg (gk1 - 1)
          case measure => omega
          case rel => exact ⟨k + 1, by go_num, by omega, by omega, HB.out, HR2.out⟩
    · obtain rfl : k = m := by omega
      have k1 : ¬ (k : Int) < (k : Int) := by omega
      have HFI : Hid (wr.rowIs w2.heap.size 3 k fun x => .int .i64 (rank k arcs x)) := HRW.out.congr fun x hx => by
        rw [List.take_of_length_le (by have := HF.out; omega), if_pos ((HOR.out.mem x).2 ⟨by omega, by omega⟩)]
      clear HRW
      have hsz := HB2.out.size
      go_wp2_with fail
      go_ret2
      rw [HE.out.1]
      have hlen : ((nodes k).map (rank k arcs)).length = k := by rw [List.length_map, nodes_length]
      exact ⟨Below.then HB2.out hsz HB.out, some ⟨w2.heap.size, 0, none⟩, k, by rw [hlen]; rfl, by show World.ownsRow wr _ _ _ (.slice _ ((nodes k).map (rank k arcs)).length k) ((nodes k).map (rank k arcs)).length _; rw [hlen]; exact own_of_row (h := rank k arcs) HFI.out hsz (by omega)⟩

set_option maxHeartbeats 1000000 in
theorem list_same (A B : Option Addr) (n c d b1 b2 : Nat) (xs : List Int) (w : World) (hx : w.ownsRow b1 3 1 (.slice A n c) n (intCells xs)) (hy : w.ownsRow b2 3 1 (.slice B n d) n (intCells xs)) :
    Calls Try.prog 12 #[.slice A n c, .slice B n d] w fun e w' => e = .returned (.bool true) ∧ ∃ k, w' = w.drewN k := by
  have HX := Lib.hid hx
  have HY := Lib.hid hy
  have HN : Hid (xs.length = n) := by have := hx.1; rw [intCells_length] at this; show xs.length = n; omega
  have hcap := own_max hx
  have f0 : ((n : Int) != (n : Int)) = false := by simp
  clear hx hy
  go_enter Try.func12, Try.ntmps12
  go_wp2_with fail
  go_loopg [13] n (fun gk v13 wr => ∃ k : Nat, v13 = .int .i64 k ∧ k ≤ n ∧ n - k ≤ gk ∧ (∃ q, wr = w.drewN q))
  case atStart => exact ⟨0, rfl, Nat.zero_le _, by omega, ⟨0, rfl⟩⟩
  case round =>
    obtain ⟨k, rfl, hk, hg, ⟨q, rfl⟩⟩ := hrel
    by_cases hkn : k < n
    · have k1 : (k : Int) < (n : Int) := by omega
      obtain ⟨x, hxe⟩ : ∃ x, xs[k]? = some x := ⟨_, List.getElem?_eq_getElem (by have := HN.out; omega)⟩
      obtain ⟨g1, rfl, _, _, h1⟩ := own_at HX.out (by omega)
      obtain ⟨g2, rfl, _, _, h2⟩ := own_at HY.out (by omega)
      have e1 := h1 k (.int .i64 x) (by simp [intCells, hxe])
      have e2 := h2 k (.int .i64 x) (by simp [intCells, hxe])
      rw [add_plain] at e1 e2
      have e1 : (w.drewN q).cell? ⟨g1, k, none⟩ = some (.int .i64 x) := e1
      have e2 : (w.drewN q).cell? ⟨g2, k, none⟩ = some (.int .i64 x) := e2
      have f1 : (x != x) = false := by simp
      clear h1 h2 hxe
      go_wp2_with fail
      go_quiet (fail)
      go_wp2_with fail
      go_roundg (gk - 1)
      case measure => omega
      case rel => exact ⟨k + 1, by go_num, by omega, by omega, ⟨_, rfl⟩⟩
    · have k1 : ¬ (k : Int) < (n : Int) := by omega
      go_wp2_with fail
      go_ret
      exact ⟨rfl, q, rfl⟩

/-- Few nodes and arcs, or more than there may be. -/
def fewB (z : Int) (n : Nat) : Bool := (decide (z ≤ 200) && decide ((n : Int) ≤ 600)) || decide (4096 < z) || decide (16384 < (n : Int))

theorem few_calls (A : Option Addr) (n c : Nat) (z : Int) (w : World) (hcap : n ≤ 9223372036854775807) :
    Calls Try.prog 9 #[.int .i64 z, .slice A n c] w fun e w' => e = .returned (.bool (fewB z n)) ∧ w' = w := by
  by_cases h1 : z ≤ 200 <;> by_cases h2 : (n : Int) ≤ 600 <;> by_cases h3 : 4096 < z <;> by_cases h4 : 16384 < (n : Int) <;> first
    | omega
    | (have hf : fewB z n = true := (by simp [fewB, h1, h2, h3, h4])
       rw [hf]
       clear hf
       go_enter Try.func9, Try.ntmps9
       go_wp2_with fail
       go_ret
       exact ⟨rfl, rfl⟩)
    | (have hf : fewB z n = false := (by simp [fewB, h1, h2, h3, h4])
       rw [hf]
       clear hf
       go_enter Try.func9, Try.ntmps9
       go_wp2_with fail
       go_ret
       exact ⟨rfl, rfl⟩)
end Go.Proofs.Yteonpfomlmfkjaa
