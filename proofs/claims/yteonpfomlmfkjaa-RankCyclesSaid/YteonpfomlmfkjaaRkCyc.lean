/- rank.Cycle. -/
import Derived.Test.YteonpfomlmfkjaaRkRound
import Derived.Test.YteonpfomlmfkjaaCycR
namespace Go.Proofs.Yteonpfomlmfkjaa
open Go Go.RowKit
set_option maxRecDepth 100000

/-- What Cycle answers. -/
noncomputable def cycleOf (z : Int) (arcs : List (Int × Int)) : Int × List Int :=
  open Classical in if arcsOk z arcs then (0, (cycUp z.toNat arcs z.toNat).getD []) else (2, [])

/-- The best so far: none, or a row. -/
def BestAt (w : World) (base : Nat) (v : Value) : Option (List Int) → Prop
  | none => v = .slice none 0 0
  | some l => ∃ g c, v = .slice (some ⟨g, 0, none⟩) l.length c ∧ w.ownsRow base 3 1 (.slice (some ⟨g, 0, none⟩) l.length c) l.length (intCells l)

theorem BestAt.below {w w' : World} {base : Nat} {v : Value} {r : Option (List Int)} (h : BestAt w base v r) (k : Below w.heap.size w w') : BestAt w' base v r := by
  cases r with
  | none => exact h
  | some l =>
    obtain ⟨g, c, h1, h2⟩ := h
    exact ⟨g, c, h1, own_below h2 k⟩

theorem run_neq_slice_nil (w : World) (t e : TypeId) (a : Option Addr) (n c n' c' : Nat) (h : Try.prog.underlying t = some (.slice e)) : (binOp .neq t (.slice a n c) (.slice none n' c')).run Try.prog w = .ok (.bool (!a.isNone)) w := by
  simp only [binOp]
  simp [Op.equal, Op.maxDepth, Lib.run_equalIn_slice_nil w 9999 t e a n c n' c' h]

set_option maxHeartbeats 4000000 in
theorem cycle_calls (A : Option Addr) (n c : Nat) (arcs : List (Int × Int)) (z : Int) (w : World) (hr : RdArcs w A arcs) (hn : arcs.length = n) (hcap : n ≤ 9223372036854775807) (hz1 : -9223372036854775808 ≤ z) (hz2 : z ≤ 9223372036854775807) :
    Calls Try.prog 10 #[.int .i64 z, .slice A n c] w (RetList w (cycleOf z arcs)) := by
  have HRD := Lib.hid (read_calls A n c arcs z w hr hn hcap hz1 hz2)
  clear hr hn
  by_cases hok : arcsOk z arcs
  rotate_left
  · have HE : Hid (cycleOf z arcs = (2, [])) := by show _ = _; unfold cycleOf; rw [if_neg hok]
    go_enter Try.func10, Try.ntmps10
    go_wp2_with fail
    (with_reducible refine HRD.out.mono ?_)
    rintro e w1 ⟨hb1, hyes, hno⟩
    obtain rfl := hno hok
    clear hyes hno hok
    go_wp2_with fail
    go_ret2
    rw [HE.out]
    exact RetList.nil hb1
  obtain ⟨m, rfl⟩ : ∃ m : Nat, z = (m : Int) := ⟨z.toNat, by have := hok.1; omega⟩
  have hm : m ≤ 4096 := by have := hok.2.1; omega
  have HOK := Lib.hid hok
  have HE : Hid (cycleOf (m : Int) arcs = (0, (cycUp m arcs m).getD [])) := by show _ = _; unfold cycleOf; rw [if_pos hok]; rfl
  have hnq0 := fun (W : World) (k q : Nat) => run_neq_slice_nil W 25 3 none k q 0 0 Try.underlying25
  have hnq1 := fun (W : World) (a : Addr) (k q : Nat) => run_neq_slice_nil W 25 3 (some a) k q 0 0 Try.underlying25
  simp only [Option.isNone_none, Option.isNone_some, Bool.not_true, Bool.not_false] at hnq0 hnq1
  clear hok
  go_enter Try.func10, Try.ntmps10
  go_wp2_with fail
  (with_reducible refine HRD.out.mono ?_)
  rintro e w1 ⟨hb1, hyes, hno⟩
  obtain ⟨p, gT, gW, f, rfl, hW⟩ := hyes HOK.out
  have hW : Web w1 w.heap.size p gT gW m (fun v => outs arcs v) (fun v => into arcs v) f := hW
  have HB1 := Lib.hid hb1
  have HRO := Lib.hid (fun (W : World) (h : Below w1.heap.size w1 W) (s most : Nat) (hs : s < m) (hmo : most ≤ 9223372036854775807) => round_calls w.heap.size p gT gW m arcs (fun v => into arcs v) f s most W (hW.below h) hm HOK.out.2.2.2 HOK.out.2.2.1 hs hmo)
  clear hyes hno hW hb1 HRD
  go_wp2_with fail
  go_loopg [8, 22] m (fun gk v8 v22 wr => ∃ k : Nat, v22 = .int .i64 k ∧ k ≤ m ∧ m - k ≤ gk ∧ Hid (Below w1.heap.size w1 wr) ∧ Hid (BestAt wr w.heap.size v8 (cycUp m arcs k)))
  case atStart => exact ⟨0, rfl, Nat.zero_le _, by omega, Below.refl _ _, rfl⟩
  case round =>
    obtain ⟨k, rfl, hk, hg, HB, HBE⟩ := hrel
    by_cases hkm : k < m
    · have k1 : (k : Int) < (m : Int) := by omega
      have hsz := HB1.out.size
      have hszr := HB.out.size
      cases hc : cycUp m arcs k with
      | none =>
        have hb := HBE.out
        rw [hc] at hb
        obtain rfl : u8 = Value.slice none 0 0 := hb
        have HCU : Hid (cycUp m arcs (k + 1) = (roundOf arcs (k : Int) m).or none) := by show _ = _; rw [cycUp_succ, hc]
        have hrc := HRO.out wr HB.out k m hkm (by omega)
        obtain ⟨r, hrr⟩ : ∃ r, roundOf arcs (k : Int) m = r := ⟨_, rfl⟩
        rw [hrr] at hrc HCU
        have HRC := Lib.hid hrc
        clear hc hrc hrr
        cases r with
        | none =>
          go_wp2_with fail
          (with_reducible refine HRC.out.mono ?_)
          rintro e w2 ⟨hb2, rfl⟩
          go_wp2_with fail
          go_roundg (gk - 1)
          case measure => omega
          case rel => exact ⟨k + 1, by go_num, by omega, by omega, Below.then HB.out HB.out.size hb2, by rw [HCU.out]; rfl⟩
        | some l =>
          go_wp2_with fail
          (with_reducible refine HRC.out.mono ?_)
          rintro e w2 ⟨hb2, g, c2, rfl, ho2⟩
          have HO2 := Lib.hid ho2
          clear ho2
          go_wp2_with fail
          go_roundg (gk - 1)
          case measure => omega
          case rel => exact ⟨k + 1, by go_num, by omega, by omega, Below.then HB.out HB.out.size hb2, by rw [HCU.out]; exact ⟨g, c2, rfl, own_mono HO2.out (by omega)⟩⟩
      | some l0 =>
        have hb := HBE.out
        rw [hc] at hb
        obtain ⟨g0, c0, rfl, ho0⟩ := hb
        have HCU : Hid (cycUp m arcs (k + 1) = (roundOf arcs (k : Int) (l0.length - 1)).or (some l0)) := by show _ = _; rw [cycUp_succ, hc]
        have hmx := own_max ho0
        have hrc := HRO.out wr HB.out k (l0.length - 1) hkm (by omega)
        obtain ⟨r, hrr⟩ : ∃ r, roundOf arcs (k : Int) (l0.length - 1) = r := ⟨_, rfl⟩
        rw [hrr] at hrc HCU
        have hl0 : 0 < l0.length := cycUp_pos (n := m) (fun a ha => HOK.out.2.2.2 a ha) hk hc
        have hli : ((l0.length - 1 : Nat) : Int) = (l0.length : Int) - 1 := by omega
        rw [hli] at hrc
        have HRC := Lib.hid hrc
        have HO0 := Lib.hid ho0
        clear hc hrc hrr ho0 hli
        cases r with
        | none =>
          go_wp2_with fail
          (with_reducible refine HRC.out.mono ?_)
          rintro e w2 ⟨hb2, rfl⟩
          go_wp2_with fail
          go_roundg (gk - 1)
          case measure => omega
          case rel => exact ⟨k + 1, by go_num, by omega, by omega, Below.then HB.out HB.out.size hb2, by rw [HCU.out]; exact ⟨g0, c0, rfl, own_below HO0.out hb2⟩⟩
        | some l =>
          go_wp2_with fail
          (with_reducible refine HRC.out.mono ?_)
          rintro e w2 ⟨hb2, g, c2, rfl, ho2⟩
          have HO2 := Lib.hid ho2
          clear ho2
          go_wp2_with fail
          go_roundg (gk - 1)
          case measure => omega
          case rel => exact ⟨k + 1, by go_num, by omega, by omega, Below.then HB.out HB.out.size hb2, by rw [HCU.out]; exact ⟨g, c2, rfl, own_mono HO2.out (by omega)⟩⟩
    · obtain rfl : k = m := by omega
      have k1 : ¬ (k : Int) < (k : Int) := by omega
      have hbb := Below.then HB1.out HB1.out.size HB.out
      obtain ⟨r, hrr⟩ : ∃ r, cycUp k arcs k = r := ⟨_, rfl⟩
      rw [hrr] at HBE HE
      have HBB := Lib.hid hbb
      clear hrr hbb
      cases r with
      | none =>
        obtain rfl : u8 = Value.slice none 0 0 := HBE.out
        go_wp2_with fail
        go_ret2
        rw [HE.out]
        exact RetList.nil HBB.out
      | some l =>
        obtain ⟨g, c, rfl, ho⟩ := HBE.out
        have HO := Lib.hid ho
        clear ho
        go_wp2_with fail
        go_ret2
        rw [HE.out]
        exact ⟨HBB.out, _, c, rfl, HO.out⟩
end Go.Proofs.Yteonpfomlmfkjaa
