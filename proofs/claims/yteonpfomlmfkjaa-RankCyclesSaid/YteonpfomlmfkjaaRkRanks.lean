/- rank.Order and rank.Ranks. -/
import Derived.Test.YteonpfomlmfkjaaRkOrd
namespace Go.Proofs.Yteonpfomlmfkjaa
open Go Go.RowKit
set_option maxRecDepth 100000

/-- What Order answers. -/
noncomputable def orderOf (z : Int) (arcs : List (Int × Int)) : Int × List Int :=
  open Classical in if arcsOk z arcs then (if (kahn z.toNat arcs z.toNat).length = z.toNat then (0, kahn z.toNat arcs z.toNat) else (150, [])) else (2, [])

/-- A row of numbers that a call leaves. -/
def RetList (w : World) (r : Int × List Int) (e : Ending) (w' : World) : Prop :=
  Below w.heap.size w w' ∧ ∃ A c, e = .returned (.tuple #[.slice A r.2.length c, .int .i64 r.1]) ∧ w'.ownsRow w.heap.size 3 1 (.slice A r.2.length c) r.2.length (intCells r.2)

theorem RetList.nil {w w' : World} {z : Int} (h : Below w.heap.size w w') : RetList w (z, []) (.returned (.tuple #[.slice none 0 0, .int .i64 z])) w' := ⟨h, none, 0, rfl, World.ownsRow_nil _ _ _ _⟩

theorem below_of_grown {B g : Nat} {w w1 w2 : World} (h : Below B w w1) (hB : B ≤ w1.heap.size) (k : w1.grownBy w2 (some g)) (hg : B ≤ g) : Below B w w2 :=
  h.trans ⟨k.os, k.tape, k.output, k.size, fun i hi => k.block i (by omega) (fun e => by have := Option.some.inj e; omega)⟩

set_option maxHeartbeats 2000000 in
theorem orderf_calls (A : Option Addr) (n c : Nat) (arcs : List (Int × Int)) (z : Int) (w : World) (hr : RdArcs w A arcs) (hn : arcs.length = n) (hcap : n ≤ 9223372036854775807) (hz1 : -9223372036854775808 ≤ z) (hz2 : z ≤ 9223372036854775807) :
    Calls Try.prog 13 #[.int .i64 z, .slice A n c] w (RetList w (orderOf z arcs)) := by
  have HRD := Lib.hid (read_calls A n c arcs z w hr hn hcap hz1 hz2)
  clear hr hn
  go_enter Try.func13, Try.ntmps13
  go_wp2_with fail
  (with_reducible refine HRD.out.mono ?_)
  rintro e w1 ⟨hb1, hyes, hno⟩
  by_cases hok : arcsOk z arcs
  · obtain ⟨p, gT, gW, f, rfl, hW⟩ := hyes hok
    have hO := order_calls w.heap.size p gT gW z.toNat arcs f w1 hW (by have := hok.2.1; omega) hok.2.2.1 (fun a ha => by have := hok.2.2.2 a ha; have := hok.1; omega)
    have HO := Lib.hid hO
    have HB1 := Lib.hid hb1
    have HPW := Lib.hid hW.pW
    have HE : Hid (orderOf z arcs = if (kahn z.toNat arcs z.toNat).length = z.toNat then (0, kahn z.toNat arcs z.toNat) else (150, [])) := by show _ = _; unfold orderOf; rw [if_pos hok]
    clear hyes hno hW hb1 hO
    go_wp2_with fail
    (with_reducible refine HO.out.mono ?_)
    rintro e w2 ⟨hg2, A2, c2, rfl, ho2⟩
    have HB2 := Lib.hid (below_of_grown HB1.out HB1.out.size hg2 HPW.out)
    have HO2 := Lib.hid (own_mono ho2 HB1.out.size)
    clear hg2 ho2
    by_cases hf : (kahn z.toNat arcs z.toNat).length = z.toNat
    · have HE2 : Hid (orderOf z arcs = (0, kahn z.toNat arcs z.toNat)) := by show _ = _; rw [HE.out, if_pos hf]
      rw [decide_eq_true hf]
      clear hf HE
      generalize kahn z.toNat arcs z.toNat = L at *
      obtain ⟨m, hm⟩ : ∃ m, L.length = m := ⟨_, rfl⟩
      have HM := Lib.hid hm
      rw [hm] at HO2 ⊢
      clear hm
      go_wp2_with fail
      go_ret2
      rw [HE2.out]
      exact ⟨HB2.out, A2, c2, by rw [HM.out]; rfl, by show World.ownsRow w2 _ _ _ (.slice A2 L.length c2) L.length _; rw [HM.out]; exact HO2.out⟩
    · have HE2 : Hid (orderOf z arcs = (150, [])) := by show _ = _; rw [HE.out, if_neg hf]
      rw [decide_eq_false hf]
      clear hf HE
      go_wp2_with fail
      go_ret2
      rw [HE2.out]
      exact RetList.nil HB2.out
  · obtain rfl := hno hok
    have HE : Hid (orderOf z arcs = (2, [])) := by show _ = _; unfold orderOf; rw [if_neg hok]
    clear hyes hno hok
    go_wp2_with fail
    go_ret2
    rw [HE.out]
    exact RetList.nil hb1

/-- What Ranks answers. -/
noncomputable def ranksOf (z : Int) (arcs : List (Int × Int)) : Int × List Int :=
  open Classical in if arcsOk z arcs then (if (kahn z.toNat arcs z.toNat).length = z.toNat then (0, (nodes z.toNat).map (rank z.toNat arcs)) else (150, [])) else (2, [])

theorem own_of_row {w : World} {base g n : Nat} {h : Int → Int} (hr : w.rowIs g 3 n fun x => .int .i64 (h x)) (hb : base ≤ g) (hn : n ≤ 1000000) : w.ownsRow base 3 1 (.slice (some ⟨g, 0, none⟩) n n) n (intCells ((nodes n).map h)) := by
  obtain ⟨c, hc, hs, hf⟩ := hr
  refine ⟨by rw [intCells_length, List.length_map, nodes_length, Nat.mul_one], .inr ⟨g, n, c, rfl, hb, hc, Nat.le_refl _, by unfold maxLen; omega, by omega, ?_⟩⟩
  rw [Nat.mul_one, List.take_of_length_le (by rw [Array.length_toList]; omega)]
  apply List.ext_getElem?
  intro i
  by_cases hi : i < n
  · rw [Array.getElem?_toList, hf i hi]
    simp [intCells, nodes, hi]
  · rw [List.getElem?_eq_none (by rw [Array.length_toList]; omega), List.getElem?_eq_none (by rw [intCells_length, List.length_map, nodes_length]; omega)]

/-- A row read in a web: the nodes that v leads to. -/
theorem web_row {W : World} {base p gT gW n : Nat} {arcs : List (Int × Int)} {wt : Nat → Int} {f : Nat → Value} (hw : Web W base p gT gW n (fun v => outs arcs v) wt f) (hok : ∀ a ∈ arcs, 0 ≤ a.1 ∧ a.1 < (n : Int) ∧ 0 ≤ a.2 ∧ a.2 < (n : Int)) {a : Nat} (ha : a < n) :
    ∃ A c, W.cell? ⟨gT, a, none⟩ = some (.slice A (outs arcs (a : Int)).length c) ∧ (outs arcs (a : Int)).length ≤ 9223372036854775807 ∧ W.ownsRow base 3 1 (.slice A (outs arcs (a : Int)).length c) (outs arcs (a : Int)).length (intCells (outs arcs (a : Int))) ∧
      ∀ j, j < (outs arcs (a : Int)).length → ∃ g x, A = some ⟨g, 0, none⟩ ∧ (outs arcs (a : Int))[j]? = some ((x : Nat) : Int) ∧ x < n ∧ g ≠ gW ∧ W.cell? ⟨g, j, none⟩ = some (.int .i64 (x : Int)) := by
  obtain ⟨hro, hrn⟩ := hw.row a ha
  obtain ⟨A, c, he, -⟩ := own_slice hro
  have hc := hw.to.cell ha
  rw [he] at hc hro
  refine ⟨A, c, hc, own_max hro, hro, fun j hj => ?_⟩
  obtain ⟨g6, rfl, hg6, _, hc6⟩ := own_at hro (by omega)
  have hx : (outs arcs (a : Int))[j]? = some ((outs arcs (a : Int))[j]'(by omega)) := List.getElem?_eq_getElem _
  have hmem := List.mem_of_getElem? hx
  generalize (outs arcs (a : Int))[j]'(by omega) = x at hx hmem
  obtain ⟨_, _, h3, h4⟩ := hok _ (mem_outs.1 hmem)
  obtain ⟨b, rfl⟩ : ∃ b : Nat, x = (b : Int) := ⟨x.toNat, by omega⟩
  refine ⟨g6, b, rfl, hx, by omega, (hrn g6 (by rw [he]; rfl)).1, ?_⟩
  have := hc6 j (.int .i64 (b : Int)) (by simp [intCells, hx])
  rwa [add_plain] at this

theorem info_intK : (Try.prog.info? 3).map (fun i => (i.zero, i.size, i.bytes)) = some (some (.int .i64 0), 1, 8) := by kernel_rfl

set_option maxHeartbeats 8000000 in
theorem ranks_calls (A : Option Addr) (n c : Nat) (arcs : List (Int × Int)) (z : Int) (w : World) (hr : RdArcs w A arcs) (hn : arcs.length = n) (hcap : n ≤ 9223372036854775807) (hz1 : -9223372036854775808 ≤ z) (hz2 : z ≤ 9223372036854775807) :
    Calls Try.prog 15 #[.int .i64 z, .slice A n c] w (RetList w (ranksOf z arcs)) := by
  have HRD := Lib.hid (read_calls A n c arcs z w hr hn hcap hz1 hz2)
  clear hr hn
  by_cases hok : arcsOk z arcs
  rotate_left
  · have HE : Hid (ranksOf z arcs = (2, [])) := by show _ = _; unfold ranksOf; rw [if_neg hok]
    go_enter Try.func15, Try.ntmps15
    go_wp2_with fail
    (with_reducible refine HRD.out.mono ?_)
    rintro e w1 ⟨hb1, hyes, hno⟩
    obtain rfl := hno hok
    clear hyes hno hok
    go_wp2_with fail
    go_ret2
    rw [HE.out]
    exact RetList.nil hb1
  obtain ⟨m, rfl⟩ : ∃ m : Nat, z = (m : Int) := ⟨z.toNat, by have := hok.1; omega⟩
  have hm : m ≤ 4096 := by have := hok.2.1; omega
  have HOK := Lib.hid hok
  have hmk := run_make_row' (P := Try.prog) 25 3 (.int .i64 0) 8 Try.underlying25 info_intK rfl .i64 .i64 m (by omega) (by omega)
  have HE : Hid (ranksOf (m : Int) arcs = if (kahn m arcs m).length = m then (0, (nodes m).map (rank m arcs)) else (150, [])) := by show _ = _; unfold ranksOf; rw [if_pos hok]; rfl
  clear hok
  go_enter Try.func15, Try.ntmps15
  go_wp2_with fail
  (with_reducible refine HRD.out.mono ?_)
  rintro e w1 ⟨hb1, hyes, hno⟩
  obtain ⟨p, gT, gW, f, rfl, hW⟩ := hyes HOK.out
  have hW : Web w1 w.heap.size p gT gW m (fun v => outs arcs v) (fun v => into arcs v) f := hW
  have HO := Lib.hid (order_calls w.heap.size p gT gW m arcs f w1 hW hm HOK.out.2.2.1 HOK.out.2.2.2)
  have HB1 := Lib.hid hb1
  have HWW := Lib.hid hW
  clear hyes hno hW hb1 HRD
  go_wp2_with fail
  (with_reducible refine HO.out.mono ?_)
  rintro e w2 ⟨hg2, A2, c2, rfl, ho2⟩
  have HB2 := Lib.hid (below_of_grown HB1.out HB1.out.size hg2 HWW.out.pW)
  have HO2 := Lib.hid (own_mono ho2 HB1.out.size)
  have HG2 := Lib.hid hg2
  clear hg2 ho2 HO
  by_cases hf : (kahn m arcs m).length = m
  rotate_left
  · have HE2 : Hid (ranksOf (m : Int) arcs = (150, [])) := by show _ = _; rw [HE.out, if_neg hf]
    rw [decide_eq_false hf]
    clear hf HE
    go_wp2_with fail
    go_ret2
    rw [HE2.out]
    exact RetList.nil HB2.out
  have HE2 : Hid (ranksOf (m : Int) arcs = (0, (nodes m).map (rank m arcs))) := by show _ = _; rw [HE.out, if_pos hf]
  have HOR := Lib.hid (full_order hf)
  rw [decide_eq_true hf]
  rw [hf] at HO2 ⊢
  have HF := Lib.hid hf
  generalize kahn m arcs m = L at *
  clear hf HE
  -- what is read behind order
  have HK : Hid (∀ (W : World), Below w2.heap.size w2 W → ∀ (g j : Nat) v, g ≠ gW → w1.cell? ⟨g, j, none⟩ = some v → W.cell? ⟨g, j, none⟩ = some v) := by
    intro W hWb g j v hne hc
    have h1 : w2.cell? ⟨g, j, none⟩ = some v := HG2.out.cell hc (fun e => hne (Option.some.inj e))
    exact cell_below hWb (World.block_lt_of_cell? w2 _ h1) h1
  have hb3 := below_alloc w2 (.cells (madeCells #[.int .i64 0] m) 3)
  have HR0 := Lib.hid (World.rowIs_made w2 (.int .i64 0) m 3)
  have HB3 := Lib.hid hb3
  clear hb3
  go_wp2_with fail
  go_loopg [35] m (fun gk v35 wr => ∃ k : Nat, v35 = .int .i64 k ∧ k ≤ m ∧ m - k ≤ gk ∧ Hid (Below w2.heap.size w2 wr) ∧ Hid (wr.rowIs w2.heap.size 3 m fun x => .int .i64 (rkUp (rank m arcs) arcs (L.take k) x)))
  case atStart => exact ⟨0, rfl, Nat.zero_le _, by omega, HB3.out, HR0.out.congr fun x _ => by rw [List.take_zero, rkUp_nil]⟩
  case round =>
    clear HR0 HB3 hmk
    obtain ⟨k, rfl, hk, hgk, HB, HR⟩ := hrel
    by_cases hkm : k < m
    · have k1 : (k : Int) < (m : Int) := by omega
      obtain ⟨v, hv⟩ : ∃ v, L[k]? = some v := ⟨_, List.getElem?_eq_getElem (by have := HF.out; omega)⟩
      have hvm := List.mem_of_getElem? hv
      have hvr := (HOR.out.mem v).1 hvm
      obtain ⟨a, rfl⟩ : ∃ a : Nat, v = (a : Int) := ⟨v.toNat, by omega⟩
      have han : a < m := by omega
      have aI : (a : Int) < (m : Int) := by omega
      have HNL := Lib.hid (HOR.out.no_loop hv)
      have HTS : Hid (L.take (k + 1) = L.take k ++ [(a : Int)]) := by
        obtain ⟨h1, h2⟩ := List.getElem?_eq_some_iff.1 hv
        show _ = _
        rw [List.take_succ_eq_append_getElem h1, h2]
      have HRA : Hid (rkUp (rank m arcs) arcs (L.take k) (a : Int) = rank m arcs (a : Int)) := rkUp_at HOR.out hvm (fun y hy e => HOR.out.topo k _ hv y hy e)
      obtain ⟨g2, rfl, hg2l, _, hc2⟩ := own_at HO2.out (by omega)
      have e2 := hc2 k (.int .i64 (a : Int)) (by simp [intCells, hv])
      rw [add_plain] at e2
      have e2 := cell_below HB.out hg2l e2
      have s0 := HK.out wr HB.out p 0 _ (Ne.symm HWW.out.neWP) HWW.out.b0
      obtain ⟨A6, c6, hT, hl6, hro, hce⟩ := web_row HWW.out HOK.out.2.2.2 han
      have sT := HK.out wr HB.out gT a _ HWW.out.neTW hT
      have HCE := Lib.hid hce
      obtain ⟨l6, hl6e⟩ : ∃ l6, (outs arcs (a : Int)).length = l6 := ⟨_, rfl⟩
      rw [hl6e] at sT hl6 HCE
      have HL6 := Lib.hid hl6e
      have hrb := rk_le arcs m (a : Int)
      have hrn := rk_nonneg arcs m (a : Int)
      obtain ⟨ra, hra⟩ : ∃ ra, rank m arcs (a : Int) = ra := ⟨_, rfl⟩
      have hrb : ra ≤ 4096 := by rw [← hra]; exact Int.le_trans hrb (by omega)
      have hrn : 0 ≤ ra := by rw [← hra]; exact hrn
      rw [hra] at HRA
      have HRV := Lib.hid hra
      clear hv hvm hvr hc2 hT hro hce hl6e hra
      obtain ⟨gk1, rfl⟩ : ∃ gk1 : Nat, gk1 = gk := ⟨_, rfl⟩
      go_wp2_with fail
      go_loopg [47] l6 (fun gk v47 wr => ∃ j : Nat, v47 = .int .i64 j ∧ j ≤ l6 ∧ l6 - j ≤ gk ∧ Hid (Below w2.heap.size w2 wr) ∧ Hid (wr.rowIs w2.heap.size 3 m fun x => .int .i64 (rkMid (rank m arcs) arcs (L.take k) (a : Int) j x)))
      case atStart => exact ⟨0, rfl, Nat.zero_le _, by omega, HB.out, HR.out.congr fun x _ => by rw [rkMid_zero]⟩
      case round =>
        clear HB HR e2 s0 sT
        obtain ⟨j, rfl, hj, hgj, HB, HR⟩ := hrel
        by_cases hjl : j < l6
        · have j1 : (j : Int) < (l6 : Int) := by omega
          obtain ⟨g6, x, rfl, hx, hxn, hg6, e6⟩ := HCE.out j hjl
          have e6 := HK.out wr HB.out g6 j _ hg6 e6
          have xI : (x : Int) < (m : Int) := by omega
          have c1 := HR.out.cell hxn
          have c2 := HR.out.cell han
          have c3 := HR.out.frozen x
          have hnv : rkMid (rank m arcs) arcs (L.take k) (a : Int) j (a : Int) = ra := by
            unfold rkMid
            rw [if_neg (fun h => HNL.out (List.mem_of_mem_take h)), HRA.out]
          simp only [hnv] at c2
          obtain ⟨y, hy⟩ : ∃ y, rkMid (rank m arcs) arcs (L.take k) (a : Int) j (x : Int) = y := ⟨_, rfl⟩
          simp only [hy] at c1
          have HSET : Hid ((wr.setCell ⟨w2.heap.size, x, none⟩ (.int .i64 (max y (ra + 1)))).rowIs w2.heap.size 3 m fun u => .int .i64 (rkMid (rank m arcs) arcs (L.take k) (a : Int) (j + 1) u)) := (HR.out.set x _).congr fun u _ => by
            rw [rkMid_succ hx]
            by_cases e : u = x
            · subst e; rw [if_pos rfl, if_pos rfl, hy, HRV.out]
            · rw [if_neg e, if_neg (by omega)]
          have HBS := Lib.hid ((below_set HB.out (Nat.le_refl _) x (.int .i64 (max y (ra + 1)))).drew)
          have ri : -9223372036854775808 ≤ ra + 1 ∧ ra + 1 ≤ 9223372036854775807 := by omega
          clear hx hnv hy
          go_wp2_with fail
          go_region
          all_goals
            go_wp2_with fail
            go_roundg (gk - 1)
            case measure => omega
            case rel => exact ⟨j + 1, by go_num, by omega, by omega, HBS.out, HSET.out.drew⟩
        · obtain rfl : j = l6 := by omega
          have j1 : ¬ (j : Int) < (j : Int) := by omega
          have HR2 : Hid (wr.rowIs w2.heap.size 3 m fun x => .int .i64 (rkUp (rank m arcs) arcs (L.take (k + 1)) x)) := HR.out.congr fun x _ => by rw [rkMid_all _ _ _ _ _ (by have := HL6.out; omega), HTS.out]
          clear HR
          go_wp2_with fail
          go_roundg (gk1 - 1)
          case measure => omega
          case rel => exact ⟨k + 1, by go_num, by omega, by omega, HB.out, HR2.out⟩
    · obtain rfl : k = m := by omega
      have k1 : ¬ (k : Int) < (k : Int) := by omega
      have HFI : Hid (wr.rowIs w2.heap.size 3 k fun x => .int .i64 (rank k arcs x)) := HR.out.congr fun x hx => by
        rw [List.take_of_length_le (by have := HF.out; omega), rkUp_at HOR.out ((HOR.out.mem x).2 ⟨by omega, by omega⟩) (fun y hy _ => (HOR.out.mem y.1).2 ⟨(HOK.out.2.2.2 y hy).1, (HOK.out.2.2.2 y hy).2.1⟩)]
      clear HR
      have hsz := HB2.out.size
      go_wp2_with fail
      go_ret2
      rw [HE2.out]
      have hlen : ((nodes k).map (rank k arcs)).length = k := by rw [List.length_map, nodes_length]
      exact ⟨Below.then HB2.out hsz HB.out, some ⟨w2.heap.size, 0, none⟩, k, by rw [hlen]; rfl, by show World.ownsRow wr _ _ _ (.slice _ ((nodes k).map (rank k arcs)).length k) ((nodes k).map (rank k arcs)).length _; rw [hlen]; exact own_of_row (h := rank k arcs) HFI.out hsz (by omega)⟩
end Go.Proofs.Yteonpfomlmfkjaa
