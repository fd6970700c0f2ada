/- (*rank.web).round: the least of the shortest circles through a node. -/
import Derived.Test.YteonpfomlmfkjaaRkRanks
import Derived.Test.YteonpfomlmfkjaaCycP
import Derived.Test.YteonpfomlmfkjaaRkNil
import Derived.Deep.RegionHeld3
namespace Go.Proofs.Yteonpfomlmfkjaa
open Go Go.RowKit
set_option maxRecDepth 100000

/-- The line's cells. -/
def stopCells (nf : List (Int × Int)) : List Value := nf.flatMap fun a => [.int .i64 a.1, .int .i64 a.2]

theorem stopCells_snoc (nf : List (Int × Int)) (a : Int × Int) : stopCells (nf ++ [a]) = stopCells nf ++ [.int .i64 a.1, .int .i64 a.2] := by simp [stopCells]

theorem stop_get : ∀ (nf : List (Int × Int)) (i : Nat) (a : Int × Int), nf[i]? = some a → (stopCells nf)[i * 2]? = some (.int .i64 a.1) ∧ (stopCells nf)[i * 2 + 1]? = some (.int .i64 a.2)
  | [], _, _, h => by simp at h
  | b :: nf, 0, a, h => by
    obtain rfl : b = a := by simpa using h
    exact ⟨rfl, rfl⟩
  | b :: nf, i + 1, a, h => by
    obtain ⟨h1, h2⟩ := stop_get nf i a (by simpa using h)
    have e : stopCells (b :: nf) = [.int .i64 b.1, .int .i64 b.2] ++ stopCells nf := rfl
    rw [e, List.getElem?_append_right (by simp; omega), List.getElem?_append_right (by simp; omega)]
    exact ⟨by rw [← h1]; congr 1; simp; omega, by rw [← h2]; congr 1; simp; omega⟩

theorem oneStop (a b : Int) : (#[.int .i64 a, .int .i64 b] : Array Value).size = 2 ∧ ∀ u ∈ (#[.int .i64 a, .int .i64 b] : Array Value).toList, u.oneCell' = true := by
  refine ⟨rfl, fun u hu => ?_⟩
  simp at hu
  rcases hu with rfl | rfl <;> rfl

theorem info_stop : (Try.prog.info? 50).map (fun i => (i.zero, i.size, i.bytes)) = some (some (.agg #[.int .i64 0, .int .i64 0]), 2, 16) := by kernel_rfl

/-- The search's rows: the line, and who has been seen. -/
structure RoundSt (B : Nat) (W : World) (gS n : Nat) (s : Int) (v8 : Value) (line : List (List Int)) (nf : List (Int × Int)) : Prop where
  own : W.ownsRow B 50 2 v8 line.length (stopCells nf)
  paths : Line s nf line
  seen : W.rowIs gS 4 n fun u => .bool (decide (s < (u : Int)) && (nodesOf line).contains (u : Int))
  nodup : (nodesOf line).Nodup
  range : ∀ u ∈ nodesOf line, 0 ≤ u ∧ u < (n : Int)

theorem RoundSt.below {B : Nat} {W W' : World} {gS n : Nat} {s : Int} {v8 : Value} {line : List (List Int)} {nf : List (Int × Int)} (h : RoundSt B W gS n s v8 line nf) (k : Below W.heap.size W W') : RoundSt B W' gS n s v8 line nf :=
  ⟨own_below h.own k, h.paths, h.seen.of_block (k.block _ h.seen.lt), h.nodup, h.range⟩

/-- A row of numbers is written, or one is made. -/
theorem RoundSt.grown {B : Nat} {W W' : World} {gS n : Nat} {s : Int} {v8 : Value} {line : List (List Int)} {nf : List (Int × Int)} (h : RoundSt B W gS n s v8 line nf) {row : Option Nat} (hg : W.grownBy W' row) (hr : ∀ g, row = some g → elemAt W g = some 3) : RoundSt B W' gS n s v8 line nf := by
  have he : elemAt W gS = some 4 := rowIs_elem h.seen
  refine ⟨h.own.kept hg ?_, h.paths, h.seen.of_block (hg.block _ h.seen.lt (fun e => by have := hr gS e.symm; rw [he] at this; simp at this)), h.nodup, h.range⟩
  cases hb : v8.ownBlock with
  | none => exact .inl rfl
  | some g =>
    refine .inr fun e => ?_
    have h1 := own_elem h.own g hb
    rw [hr g e.symm] at h1
    simp at h1

theorem RoundSt.length {B : Nat} {W : World} {gS n : Nat} {s : Int} {v8 : Value} {line : List (List Int)} {nf : List (Int × Int)} (h : RoundSt B W gS n s v8 line nf) : line.length ≤ n := by
  have := nodup_le (nodesOf line) (nodes n) h.nodup fun u hu => mem_nodes.2 (h.range u hu)
  rwa [nodes_length, nodesOf_length] at this

/-- What round leaves. -/
def RetRound (w : World) (r : Option (List Int)) (e : Ending) (w' : World) : Prop :=
  Below w.heap.size w w' ∧ match r with
    | none => e = .returned (.slice none 0 0)
    | some l => ∃ g c, e = .returned (.slice (some ⟨g, 0, none⟩) l.length c) ∧ w'.ownsRow w.heap.size 3 1 (.slice (some ⟨g, 0, none⟩) l.length c) l.length (intCells l)

/-- One is seen and comes into the line. -/
theorem RoundSt.push {B : Nat} {W W' : World} {gS n : Nat} {s : Int} {v8 v8' : Value} {line : List (List Int)} {nf : List (Int × Int)} (h : RoundSt B W gS n s v8 line nf) {k x : Nat} (hk : k < line.length) (hxn : x < n) (hsx : s < (x : Int)) (hx : (x : Int) ∉ nodesOf line)
    (ho : W'.ownsRow B 50 2 v8' (line.length + 1) (stopCells nf ++ [.int .i64 (x : Int), .int .i64 (k : Int)])) (hu : Upd (W.setCell ⟨gS, x, none⟩ (.bool true)) W' v8 v8') : RoundSt B W' gS n s v8' (line ++ [line.getD k [] ++ [(x : Int)]]) (nf ++ [((x : Int), (k : Int))]) := by
  obtain ⟨hg, hn⟩ := hu
  have he : elemAt W gS = some 4 := rowIs_elem h.seen
  have hs := h.seen.set x (.bool true)
  refine ⟨?_, h.paths.snoc hk _, ?_, ?_, ?_⟩
  · rw [stopCells_snoc, List.length_append]; exact ho
  · refine (hs.of_block (hg.block _ hs.lt (fun e => ?_))).congr fun u _ => ?_
    · have h1 := own_elem h.own gS e.symm
      rw [he] at h1
      simp at h1
    · rw [nodesOf_snoc]
      by_cases e : u = x
      · subst e
        rw [if_pos rfl]
        simp [hsx]
      · rw [if_neg e]
        have : (u : Int) ≠ (x : Int) := by omega
        simp [this]
  · rw [nodesOf_snoc]
    exact List.nodup_append.2 ⟨h.nodup, List.pairwise_singleton _ _, fun a ha b hb => by rw [List.mem_singleton.1 hb]; rintro rfl; exact hx ha⟩
  · intro u hu
    rw [nodesOf_snoc] at hu
    rcases List.mem_append.1 hu with hu | hu
    · exact h.range u hu
    · rw [List.mem_singleton.1 hu]; omega

theorem line_get {s : Int} {nf : List (Int × Int)} {line : List (List Int)} (h : Line s nf line) {i : Nat} (hi : i < line.length) : ∃ a f, nf[i]? = some (a, f) ∧ lastOf (line.getD i []) = a := by
  have hl := h.len
  exact ⟨_, _, List.getElem?_eq_getElem (by omega), h.node (List.getElem?_eq_getElem (by omega))⟩

theorem nodes_get {line : List (List Int)} {i : Nat} (hi : i < line.length) : lastOf (line.getD i []) ∈ nodesOf line := by
  unfold nodesOf
  rw [List.getD_eq_getElem?_getD, List.getElem?_eq_getElem hi]
  exact List.mem_map.2 ⟨_, List.getElem_mem _, rfl⟩

theorem getD_snoc {line : List (List Int)} {k : Nat} (hk : k < line.length) (Q : List Int) : (line ++ [Q]).getD k [] = line.getD k [] := by
  rw [List.getD_eq_getElem?_getD, List.getD_eq_getElem?_getD, List.getElem?_append_left hk]

/-- The way back to s, as far as it has been read. -/
def Back (_nf : List (Int × Int)) (line : List (List Int)) (P : List Int) (t : Nat) (l : List Int) : Prop := (t = 0 → P = l.reverse) ∧ (0 < t → t ≤ line.length ∧ P = line.getD (t - 1) [] ++ l.reverse)

theorem back_step {s : Int} {nf : List (Int × Int)} {line : List (List Int)} {P l : List Int} {i : Nat} {a f : Int} (hL : Line s nf line) (h : Back nf line P (i + 1) l) (hi : nf[i]? = some (a, f)) : ∃ t : Nat, f = (t : Int) - 1 ∧ t ≤ i ∧ Back nf line P t (l ++ [a]) := by
  obtain ⟨h1, h2⟩ := h.2 (Nat.succ_pos _)
  rw [Nat.add_sub_cancel] at h2
  by_cases e : i = 0
  · subst e
    obtain ⟨k1, k2⟩ := hL.first
    rw [k1] at hi
    obtain ⟨rfl, rfl⟩ : s = a ∧ (-1 : Int) = f := by simpa using hi
    refine ⟨0, rfl, Nat.le_refl _, fun _ => ?_, fun h => absurd h (Nat.lt_irrefl _)⟩
    rw [h2, List.getD_eq_getElem?_getD, k2, List.reverse_append]
    rfl
  · obtain ⟨j, rfl, hj, h3⟩ := hL.next i a f hi (by omega)
    refine ⟨j + 1, by omega, by omega, fun h => by omega, fun _ => ⟨by omega, ?_⟩⟩
    rw [Nat.add_sub_cancel, h2, List.getD_eq_getElem?_getD (l := line) (i := i), h3, Option.getD_some, List.reverse_append, List.append_assoc]
    rfl

set_option maxHeartbeats 8000000 in
theorem round_calls (base p gT gW n : Nat) (arcs : List (Int × Int)) (wt : Nat → Int) (f : Nat → Value) (s most : Nat) (w : World) (hw : Web w base p gT gW n (fun v => outs arcs v) wt f) (hn : n ≤ 4096) (hok : ∀ a ∈ arcs, 0 ≤ a.1 ∧ a.1 < (n : Int) ∧ 0 ≤ a.2 ∧ a.2 < (n : Int)) (hl : arcs.length ≤ 16384) (hs : s < n) (hm : most ≤ 9223372036854775807) :
    Calls Try.prog 18 #[.pointer (some ⟨p, 0, none⟩), .int .i64 s, .int .i64 most] w (RetRound w (roundOf arcs s most)) := by
  have HW := Lib.hid hw
  have HOK := Lib.hid hok
  have HLA := Lib.hid hl
  have s0 := hw.b0
  obtain ⟨RES, hRES⟩ : ∃ RES, roundOf arcs (s : Int) most = RES := ⟨_, rfl⟩
  rw [hRES]
  have HRES : Hid (rnd arcs (s : Int) most 0 [[(s : Int)]] = RES) := hRES
  have hmk := run_make_row' (P := Try.prog) 44 4 (.bool false) 1 Try.underlying44 (by kernel_rfl) rfl .i64 .i64 n (by omega) (by omega)
  have HB1 := Lib.hid (below_alloc w (.cells (madeCells #[.bool false] n) 4))
  have HR1 := Lib.hid (World.rowIs_made w (.bool false) n 4)
  have s0' := cell_below (below_alloc w (.cells (madeCells #[.bool false] n) 4)) hw.lP s0
  clear hw hok hl hRES
  have HS0 : Hid (RoundSt w.heap.size ((w.alloc (.cells (madeCells #[.bool false] n) 4)).alloc (.cells #[.int .i64 (s : Int), .int .i64 (-1)] 50)) w.heap.size n s (.slice (some ⟨w.heap.size + 1, 0, none⟩) 1 1) [[(s : Int)]] [((s : Int), -1)]) := by
    refine ⟨?_, Line.start _, ?_, List.pairwise_singleton _ _, ?_⟩
    · have := own_new (w.alloc (.cells (madeCells #[.bool false] n) 4)) #[.int .i64 (s : Int), .int .i64 (-1)] 50 2 1 w.heap.size (by simp) rfl (by omega)
      rw [World.size_alloc] at this
      exact this
    · refine (HR1.out.alloc _).congr fun u _ => ?_
      by_cases e : (u : Int) = (s : Int)
      · simp [nodesOf, lastOf, e]
      · simp [nodesOf, lastOf, e]
    · intro u hu
      simp [nodesOf, lastOf] at hu
      subst hu
      omega
  have HB2 := Lib.hid (Below.then HB1.out HB1.out.size (below_alloc _ (.cells #[.int .i64 (s : Int), .int .i64 (-1)] 50)))
  go_enter Try.func18, Try.ntmps18
  go_wp2_with fail
  go_loopg [2, 8, 9, 10] most (fun gk v2 v8 v9 v10 wr => ∃ (mo k : Nat) (line : List (List Int)) (nf : List (Int × Int)), v2 = .int .i64 mo ∧ mo ≤ gk ∧ mo ≤ 9223372036854775807 ∧ v9 = .int .i64 k ∧ k ≤ line.length ∧ v10 = .int .i64 line.length ∧ Hid (RoundSt w.heap.size wr w.heap.size n s v8 line nf) ∧ Hid (Below w.heap.size w wr) ∧ Hid (rnd arcs (s : Int) mo k line = RES))
  case atStart => exact ⟨most, 0, _, _, rfl, Nat.le_refl _, hm, rfl, Nat.zero_le _, rfl, HS0.out, HB2.out, HRES.out⟩
  case round =>
    clear HS0 HB1 HR1 HB2 HRES s0 s0' hmk
    obtain ⟨mo, k, line, nf, rfl, hmg, hmo, rfl, hk, rfl, HS, HB, HRS⟩ := hrel
    obtain ⟨A8, c8, rfl, -⟩ := own_slice HS.out.own
    by_cases hkl : k < line.length
    · have kI : (k : Int) < (line.length : Int) := by omega
      cases mo with
      | zero =>
        have hres : RES = none := by rw [← HRS.out]; rfl
        subst hres
        have m0 : ¬ (0 : Int) < ((0 : Nat) : Int) := by omega
        go_wp2_with fail
        go_ret
        exact ⟨HB.out, rfl⟩
      | succ mo =>
        have m0 : (0 : Int) < ((mo + 1 : Nat) : Int) := by omega
        obtain ⟨LV, hLV⟩ : ∃ LV, lev arcs (s : Int) (line.length - k) k line = LV := ⟨_, rfl⟩
        have HMR : Hid (rndNext arcs (s : Int) mo line.length LV = RES) := by
          have := HRS.out
          rw [rnd_succ hkl, hLV] at this
          exact this
        have HLV := Lib.hid hLV
        obtain ⟨en, hen⟩ : ∃ en, line.length = en := ⟨_, rfl⟩
        have henn : en ≤ n := by rw [← hen]; exact HS.out.length
        have HEN := Lib.hid hen
        rw [hen] at HLV HMR hkl hk kI HS ⊢
        clear hLV HRS hen
        obtain ⟨gk0, rfl⟩ : ∃ gk0 : Nat, gk0 = gk := ⟨_, rfl⟩
        have hke : k ≤ en := hk
        go_wp2_with fail
        go_loopg [8, 9] (en - k) (fun gk v8 v9 wr => ∃ (k : Nat) (line : List (List Int)) (nf : List (Int × Int)), v9 = .int .i64 k ∧ k ≤ en ∧ en ≤ line.length ∧ en - k ≤ gk ∧ Hid (RoundSt w.heap.size wr w.heap.size n s v8 line nf) ∧ Hid (Below w.heap.size w wr) ∧ Hid (lev arcs (s : Int) (en - k) k line = LV))
        case atStart => exact ⟨k, line, nf, rfl, hke, by have := HEN.out; omega, Nat.le_refl _, HS.out, HB.out, HLV.out⟩
        case round =>
          clear HS HB HLV HEN hk hkl kI
          obtain ⟨k, line, nf, rfl, hk, hel, hg, HS, HB, HLV⟩ := hrel
          obtain ⟨A8, c8, rfl, -⟩ := own_slice HS.out.own
          by_cases hke : k < en
          · have kI : (k : Int) < (en : Int) := by omega
            have hkl : k < line.length := by omega
            have kL : (k : Int) < (line.length : Int) := by omega
            obtain ⟨a, fr, hnf, hlast⟩ := line_get HS.out.paths hkl
            have har := HS.out.range a (by rw [← hlast]; exact nodes_get hkl)
            obtain ⟨a, rfl⟩ : ∃ a' : Nat, a = (a' : Int) := ⟨a.toNat, by omega⟩
            have han : a < n := by omega
            have aI : (a : Int) < (n : Int) := by omega
            obtain ⟨P, hP⟩ : ∃ P, line.getD k [] = P := ⟨_, rfl⟩
            rw [hP] at hlast
            obtain ⟨c, hc⟩ : ∃ c, en - k = c + 1 := ⟨en - k - 1, by omega⟩
            obtain ⟨SC, hSC⟩ : ∃ SC, scan (s : Int) P (adj arcs (a : Int)) line = SC := ⟨_, rfl⟩
            have HLN : Hid (levNext arcs (s : Int) c k line SC = LV) := by
              have := HLV.out
              rw [hc, lev_succ, hP, hlast, hSC] at this
              exact this
            have HP := Lib.hid hP
            have HSC := Lib.hid hSC
            have HC := Lib.hid hc
            -- what is read
            obtain ⟨g8, he8, hg8, _, hc8⟩ := own_at HS.out.own (by omega)
            subst he8
            obtain ⟨q1, q2⟩ := stop_get nf k _ hnf
            have e8 := hc8 _ _ q1
            rw [add_plain] at e8
            have s0 := cell_below HB.out HW.out.lP HW.out.b0
            obtain ⟨A6, c6, hT, hl6, hro, -⟩ := web_row HW.out HOK.out han
            have sT := cell_below HB.out HW.out.to.lt hT
            obtain ⟨l6, hl6e⟩ : ∃ l6, (outs arcs (a : Int)).length = l6 := ⟨_, rfl⟩
            have hn6 : l6 = 0 → A6 = none ∧ c6 = 0 := fun h => by
              have h1 := HW.out.nil0 a han (List.length_eq_zero_iff.1 (by omega))
              have h2 := HW.out.to.cell han
              rw [h1, hT] at h2
              obtain ⟨rfl, _, rfl⟩ : A6 = none ∧ (outs arcs (a : Int)).length = 0 ∧ c6 = 0 := by simpa using h2
              exact ⟨rfl, rfl⟩
            rw [hl6e] at sT hl6 hro
            have hl6n : l6 ≤ 16384 := by
              rw [← hl6e]
              unfold outs
              rw [List.length_map]
              have h1 := List.length_filter_le (fun x : Int × Int => x.1 == (a : Int)) arcs
              have h2 := HLA.out
              omega
            have HL6 := Lib.hid hl6e
            have HCL := Lib.hid (fun (W : World) (h : Below wr.heap.size wr W) => clone_any A6 l6 c6 base (outs arcs (a : Int)) W (own_below (own_below hro HB.out) h) hn6 (by omega))
            have hd2 : Below wr.heap.size wr wr.drew := (Below.refl _ _).drew
            have hlt8 : g8 < wr.heap.size := hg8
            have hltp : p < wr.heap.size := Nat.lt_of_lt_of_le HW.out.lP HB.out.size
            have hltT : gT < wr.heap.size := Nat.lt_of_lt_of_le HW.out.to.lt HB.out.size
            have HS' := HS
            have HBw := HB
            obtain ⟨gk1, rfl⟩ : ∃ gk1 : Nat, gk1 = gk := ⟨_, rfl⟩
            clear hP hSC hc hnf hlast har hc8 q1 q2 hT hro hl6e hn6
            go_wp2_with fail
            go_region_held3 (fun w' => w'.cell? ⟨p, 0, none⟩ = some (.slice (some ⟨gT, 0, none⟩) n n) ∧ w'.cell? ⟨g8, k * 2, none⟩ = some (.int .i64 (a : Int)) ∧ w'.cell? ⟨gT, a, none⟩ = some (.slice A6 l6 c6))
              (first
                | exact ⟨s0, e8, sT⟩
                | exact ⟨cell_below HB5.out hltp s0, cell_below HB5.out hlt8 e8, cell_below HB5.out hltT sT⟩)
              (first
                | (go_at_call 23; refine (HCL.out _ hd2).mono ?_; rintro e w5 ⟨A5, c5, rfl, ho5, hb5, hn5⟩; have HB5 := Lib.hid (Below.then hd2 hd2.size hb5)))
            have HSRT := Lib.hid (sort_any A5 l6 c5 _ (outs arcs (a : Int)) w5 ho5 hn5 (by omega))
            have HS5 := HS.out.below HB5.out
            have hoe := own_elem ho5
            have hob := own_base ho5
            have HB5' := Lib.hid (Below.then HB.out HB.out.size HB5.out)
            have hwz : w.heap.size ≤ wr.heap.size := HB.out.size
            have HBASE : Hid (∀ g, (Value.slice A5 l6 c5).ownBlock = some g → w.heap.size ≤ g) := fun g e => by have h1 := hob g e; have h2 : wr.heap.size ≤ g := h1; omega
            have HS5 := Lib.hid HS5
            have HOE := Lib.hid hoe
            have HNW : Hid (wr.heap.size ≤ w5.heap.size) := HB5.out.size
            clear ho5 hb5 hn5 hoe hob s0 e8 sT hd2
            go_wp2_with fail
            (with_reducible refine HSRT.out.mono ?_)
            rintro e w6 ⟨rfl, ho6, hg6⟩
            have HS6 := Lib.hid (HS5.out.grown hg6 (fun g e => HOE.out g e))
            have HB6 : Hid (Below w.heap.size w w6) := HB5'.out.trans ⟨hg6.os, hg6.tape, hg6.output, hg6.size, fun x hx => hg6.block x (Nat.lt_of_lt_of_le hx HB5'.out.size) (fun e => by have := HBASE.out x e.symm; omega)⟩
            have ho6 : w6.ownsRow wr.heap.size 3 1 (.slice A5 l6 c5) l6 (intCells (adj arcs (a : Int))) := ho6
            have HO6 := Lib.hid ho6
            have HLA6 : Hid ((adj arcs (a : Int)).length = l6) := by show _ = _; unfold adj; rw [sortI_length]; exact HL6.out
            have HAM : Hid (∀ x ∈ adj arcs (a : Int), 0 ≤ x ∧ x < (n : Int)) := fun x hx => by
              obtain ⟨_, _, h3, h4⟩ := HOK.out _ (mem_outs.1 (mem_sortI.1 hx))
              exact ⟨h3, h4⟩
            generalize adj arcs (a : Int) = adjs at *
            have HSC0 : Hid (scan (s : Int) P (adjs.drop 0) line = SC) := HSC.out
            have HPP : Hid (line.getD k [] = P ∧ en ≤ line.length ∧ k < line.length) := ⟨HP.out, hel, hkl⟩
            clear ho6 hg6 HS HB HS5 HB5 HB5' HS' HBw HSRT
            go_wp2_with fail
            go_loopg [8, 56] l6 (fun gk v8 v56 wr => ∃ (j : Nat) (line : List (List Int)) (nf : List (Int × Int)), v56 = .int .i64 j ∧ j ≤ l6 ∧ l6 - j ≤ gk ∧ Hid (RoundSt w.heap.size wr w.heap.size n s v8 line nf) ∧ Hid (Below w.heap.size w wr) ∧ Hid (scan (s : Int) P (adjs.drop j) line = SC) ∧ Hid (line.getD k [] = P ∧ en ≤ line.length ∧ k < line.length) ∧ Hid (wr.ownsRow w.heap.size 3 1 (.slice A5 l6 c5) l6 (intCells adjs)))
            case atStart => exact ⟨0, line, nf, rfl, Nat.zero_le _, by omega, HS6.out, HB6.out, HSC0.out, HPP.out, own_mono HO6.out hwz⟩
            case round =>
              clear HS6 HB6 HSC0 HPP HO6
              obtain ⟨j, line, nf, rfl, hj, hgj, HS, HB, HSC, HPP, HO⟩ := hrel
              obtain ⟨A8, c8, rfl, -⟩ := own_slice HS.out.own
              have hkl : k < line.length := HPP.out.2.2
              have hln := HS.out.length
              by_cases hjl : j < l6
              · have j1 : (j : Int) < (l6 : Int) := by omega
                obtain ⟨x, hx⟩ : ∃ x, adjs[j]? = some x := ⟨_, List.getElem?_eq_getElem (by have := HLA6.out; omega)⟩
                have hxr := HAM.out x (List.mem_of_getElem? hx)
                obtain ⟨x, rfl⟩ : ∃ x' : Nat, x = (x' : Int) := ⟨x.toNat, by omega⟩
                have hxn : x < n := by omega
                have xI : (x : Int) < (n : Int) := by omega
                obtain ⟨g5, rfl, hg5, _, hc5⟩ := own_at HO.out (by omega)
                have e5 := hc5 j (.int .i64 (x : Int)) (by simp [intCells, hx])
                rw [add_plain] at e5
                have hdr : adjs.drop j = (x : Int) :: adjs.drop (j + 1) := by
                  obtain ⟨h1, h2⟩ := List.getElem?_eq_some_iff.1 hx
                  rw [List.drop_eq_getElem_cons h1, h2]
                have HSCJ : Hid ((if (x : Int) = (s : Int) then none else if (s : Int) < (x : Int) ∧ (x : Int) ∉ nodesOf line then scan (s : Int) P (adjs.drop (j + 1)) (line ++ [P ++ [(x : Int)]]) else scan (s : Int) P (adjs.drop (j + 1)) line) = SC) := by
                  have := HSC.out
                  rw [hdr, scan] at this
                  exact this
                clear hx hc5 hdr HSC hxr
                by_cases hxs : x = s
                · -- a circle
                  subst hxs
                  have hsc : SC = none := by rw [← HSCJ.out, if_pos rfl]
                  subst hsc
                  have hlv : LV = (some (line.getD k []), line) ∨ True := .inr trivial
                  have hres : RES = some P := by
                    rw [← HMR.out, ← HLN.out]
                    show some _ = _
                    rw [HP.out]
                  subst hres
                  have f1 : ((x : Int) == (x : Int)) = true := by simp
                  have HBK : Hid (Back nf line P (k + 1) []) := ⟨fun h => by omega, fun _ => ⟨by omega, by rw [Nat.add_sub_cancel, HPP.out.1]; simp⟩⟩
                  obtain ⟨wo, rfl⟩ : ∃ wo : World, wo = wr := ⟨_, rfl⟩
                  have k0 : ((k : Nat) : Int) = ((k + 1 : Nat) : Int) - 1 := by omega
                  clear hlv HLN HMR HSCJ HO
                  go_wp2_with fail
                  go_loopg [14, 15] (k + 1) (fun gk v14 v15 wr => ∃ (t : Nat) (l : List Int), v15 = .int .i64 ((t : Int) - 1) ∧ t ≤ k + 1 ∧ t ≤ gk ∧ l.length + t ≤ k + 1 ∧ Hid (wr.ownsRow w.heap.size 3 1 v14 l.length (intCells l)) ∧ Hid (RoundSt w.heap.size wr w.heap.size n (x : Int) (.slice A8 line.length c8) line nf) ∧ Hid (Below w.heap.size w wr) ∧ Hid (Back nf line P t l))
                  case atStart => exact ⟨k + 1, [], by rw [k0], Nat.le_refl _, Nat.le_refl _, by simp, World.ownsRow_nil _ _ _ _, HS.out, HB.out, HBK.out⟩
                  case round =>
                    clear HS HB HBK k0
                    obtain ⟨t, l, rfl, htk, htg, hlt, HOL, HS, HB, HBK⟩ := hrel
                    obtain ⟨A14, c14, rfl, -⟩ := own_slice HOL.out
                    cases t with
                    | zero =>
                      have hPl : P = l.reverse := HBK.out.1 rfl
                      have hl0 : 0 < l.length := by
                        rcases Nat.eq_zero_or_pos l.length with h | h
                        · exfalso
                          have h1 := List.length_eq_zero_iff.1 h
                          rw [h1] at hPl
                          have h2 := HPP.out.1
                          rw [hPl] at h2
                          by_cases hk0 : k = 0
                          · subst hk0
                            have h3 := HS.out.paths.first.2
                            rw [List.getD_eq_getElem?_getD, h3] at h2
                            simp at h2
                          · obtain ⟨aa, ff, h3, _⟩ := line_get HS.out.paths hkl
                            obtain ⟨jj, _, _, h4⟩ := HS.out.paths.next k aa ff h3 (by omega)
                            rw [List.getD_eq_getElem?_getD, h4] at h2
                            simp at h2
                        · exact h
                      obtain ⟨g14, rfl, _⟩ := own_at HOL.out hl0
                      have HRV := Lib.hid (reverse_calls (some ⟨g14, 0, none⟩) l.length c14 w.heap.size l wr HOL.out hl0 (by omega))
                      have HPL := Lib.hid hPl
                      have HOB := Lib.hid (own_base HOL.out)
                      clear hPl
                      go_wp2_with fail
                      (with_reducible refine HRV.out.mono ?_)
                      rintro e w9 ⟨rfl, ho9, hg9⟩
                      have HB9 : Hid (Below w.heap.size w w9) := HB.out.trans ⟨hg9.os, hg9.tape, hg9.output, hg9.size, fun y hy => hg9.block y (Nat.lt_of_lt_of_le hy HB.out.size) (fun e => by have := HOB.out y e.symm; omega)⟩
                      have HO9 := Lib.hid ho9
                      clear ho9 hg9
                      go_wp2_with fail
                      go_ret
                      refine ⟨HB9.out, g14, c14, ?_, ?_⟩
                      · rw [HPL.out, List.length_reverse]; rfl
                      · rw [HPL.out, List.length_reverse]; exact HO9.out
                    | succ t =>
                      have e1 : (((t + 1 : Nat) : Int) - 1) = (t : Int) := by omega
                      rw [e1]
                      clear e1
                      have htl : t < line.length := by omega
                      have tI : (t : Int) < (line.length : Int) := by omega
                      have t0 : (0 : Int) ≤ (t : Int) := by omega
                      obtain ⟨a2, f2, hnf, -⟩ := line_get HS.out.paths htl
                      obtain ⟨t', hf2, ht', hbk⟩ := back_step HS.out.paths HBK.out hnf
                      obtain ⟨g8, he8, hg8, _, hc8⟩ := own_at HS.out.own (by omega)
                      subst he8
                      obtain ⟨q1, q2⟩ := stop_get nf t _ hnf
                      have e8 := hc8 _ _ q1
                      have e9 := hc8 _ _ q2
                      rw [add_plain] at e8 e9
                      rw [hf2] at e9
                      have HBK2 := Lib.hid hbk
                      have hsz := HB.out.size
                      have HOLE := Lib.hid (own_elem HOL.out)
                      clear hnf hc8 q1 q2 hbk hf2
                      go_wp2_with (at_builtin; refine walk_append1 HOL.out hsz (by omega) 25 Try.underlying25 info_intB ⟨rfl, by decide, by decide⟩ _ (oneI _) (by exact ⟨rfl, rfl, rfl, rfl, rfl⟩) ?_; intro v10 w10 ho10 hu10; have e9 : w10.cell? ⟨g8, t * 2 + 1, none⟩ = some (.int .i64 ((t' : Int) - 1)) := hu10.1.cell (a := ⟨g8, t * 2 + 1, none⟩) e9 (fun e => by
                        have h1 := HOLE.out g8 e.symm
                        have h2 := own_elem HS.out.own g8 rfl
                        rw [h1] at h2
                        simp at h2))
                      have hco : intCells l ++ (#[Value.int .i64 a2] : Array Value).toList = intCells (l ++ [a2]) := by rw [intCells_append]; rfl
                      rw [hco] at ho10
                      have HOL2 : Hid (w10.ownsRow w.heap.size 3 1 v10 (l ++ [a2]).length (intCells (l ++ [a2]))) := by show World.ownsRow _ _ _ _ _ _ _; rw [List.length_append]; exact ho10
                      have HS2 := Lib.hid (HS.out.grown hu10.1 (fun g e => HOLE.out g e))
                      have HB2 : Hid (Below w.heap.size w w10) := HB.out.trans (hu10.below hsz (own_base HOL.out))
                      clear ho10 hu10 hco e8 e9
                      go_wp2_with fail
                      go_roundg (gk - 1)
                      case measure => omega
                      case rel => exact ⟨t', l ++ [a2], rfl, by omega, by omega, by rw [List.length_append]; simp; omega, HOL2.out, HS2.out, HB2.out, HBK2.out⟩
                · have f1 : ((x : Int) == (s : Int)) = false := by rw [beq_eq_false_iff_ne]; omega
                  have hnx : ¬ (x : Int) = (s : Int) := by omega
                  have c1 := HS.out.seen.cell hxn
                  by_cases hsx : (s : Int) < (x : Int)
                  · by_cases hseen : (x : Int) ∈ nodesOf line
                    · have hb : (decide ((s : Int) < (x : Int)) && (nodesOf line).contains (x : Int)) = true := by simp [hsx, hseen]
                      simp only [hb] at c1
                      have HSC2 : Hid (scan (s : Int) P (adjs.drop (j + 1)) line = SC) := by
                        have := HSCJ.out
                        rw [if_neg hnx, if_neg (fun h => h.2 hseen)] at this
                        exact this
                      clear hb hnx HSCJ hseen
                      go_wp2_with fail
                      go_roundg (gk - 1)
                      case measure => omega
                      case rel => exact ⟨j + 1, line, nf, by go_num, by omega, by omega, HS.out, HB.out, HSC2.out, HPP.out, HO.out⟩
                    · have hb : (decide ((s : Int) < (x : Int)) && (nodesOf line).contains (x : Int)) = false := by simp [hseen]
                      simp only [hb] at c1
                      have c2 := HS.out.seen.frozen x
                      have HSC2 : Hid (scan (s : Int) P (adjs.drop (j + 1)) (line ++ [P ++ [(x : Int)]]) = SC) := by
                        have := HSCJ.out
                        rw [if_neg hnx, if_pos ⟨hsx, hseen⟩] at this
                        exact this
                      have hse : elemAt wr w.heap.size = some 4 := rowIs_elem HS.out.seen
                      have HO8 : Hid ((wr.setCell ⟨w.heap.size, x, none⟩ (.bool true)).ownsRow w.heap.size 50 2 (.slice A8 line.length c8) line.length (stopCells nf)) := ownsRow_setCell_other HS.out.own (fun e => by
                        have h1 := own_elem HS.out.own _ e
                        rw [hse] at h1
                        simp at h1) _
                      have HON : Hid ((wr.setCell ⟨w.heap.size, x, none⟩ (.bool true)).ownsRow w.heap.size 3 1 (.slice (some ⟨g5, 0, none⟩) l6 c5) l6 (intCells adjs)) := ownsRow_setCell_other HO.out (fun e => by
                        have h1 := own_elem HO.out _ e
                        rw [hse] at h1
                        simp at h1) _
                      have hsz : w.heap.size ≤ (wr.setCell ⟨w.heap.size, x, none⟩ (.bool true)).heap.size := by simpa using HB.out.size
                      have HBS := Lib.hid (below_set HB.out (Nat.le_refl _) x (.bool true))
                      have HSN := Lib.hid hseen
                      clear hb hnx HSCJ hseen hse
                      go_wp2_with (at_builtin; refine walk_append1 HO8.out hsz (by omega) 51 Try.underlying51 info_stop ⟨rfl, by decide, by decide⟩ _ (oneStop _ _) (by refine ⟨rfl, rfl, rfl, rfl, ?_⟩; simp) ?_; intro v10 w10 ho10 hu10)
                      have HS2 := Lib.hid (HS.out.push hkl hxn hsx HSN.out ho10 hu10)
                      rw [HPP.out.1] at HS2
                      have HB2 : Hid (Below w.heap.size w w10) := HBS.out.trans (hu10.below hsz (own_base HO8.out))
                      have HO2 : Hid (w10.ownsRow w.heap.size 3 1 (.slice (some ⟨g5, 0, none⟩) l6 c5) l6 (intCells adjs)) := HON.out.kept hu10.1 (.inr fun e => by
                        have h1 := own_elem HO8.out g5 e.symm
                        have h2 := own_elem HON.out g5 rfl
                        rw [h1] at h2
                        simp at h2)
                      have HPP2 : Hid ((line ++ [P ++ [(x : Int)]]).getD k [] = P ∧ en ≤ (line ++ [P ++ [(x : Int)]]).length ∧ k < (line ++ [P ++ [(x : Int)]]).length) := ⟨by rw [getD_snoc hkl]; exact HPP.out.1, by rw [List.length_append]; have := HPP.out.2.1; omega, by rw [List.length_append]; omega⟩
                      clear ho10 hu10
                      go_wp2_with fail
                      go_roundg (gk - 1)
                      case measure => omega
                      case rel => exact ⟨j + 1, _, _, by go_num, by omega, by omega, HS2.out, HB2.out, HSC2.out, HPP2.out, HO2.out⟩
                  · have HSC2 : Hid (scan (s : Int) P (adjs.drop (j + 1)) line = SC) := by
                      have := HSCJ.out
                      rw [if_neg hnx, if_neg (fun h => hsx h.1)] at this
                      exact this
                    clear hnx HSCJ c1
                    go_wp2_with fail
                    go_roundg (gk - 1)
                    case measure => omega
                    case rel => exact ⟨j + 1, line, nf, by go_num, by omega, by omega, HS.out, HB.out, HSC2.out, HPP.out, HO.out⟩
              · obtain rfl : j = l6 := by omega
                have j1 : ¬ (j : Int) < (j : Int) := by omega
                have hsc : SC = some line := by
                  rw [← HSC.out, List.drop_of_length_le (by have := HLA6.out; omega)]
                  rfl
                subst hsc
                have HLV2 : Hid (lev arcs (s : Int) (en - (k + 1)) (k + 1) line = LV) := by
                  have h1 := HLN.out
                  have h2 := HC.out
                  have h3 : en - (k + 1) = c := by omega
                  rw [h3]
                  exact h1
                go_wp2_with fail
                go_roundg (gk1 - 1)
                case measure => omega
                case rel => exact ⟨k + 1, line, nf, by go_num, by omega, HPP.out.2.1, by omega, HS.out, HB.out, HLV2.out⟩
          · obtain rfl : k = en := by omega
            have kI : ¬ (k : Int) < (k : Int) := by omega
            have hlv : LV = (none, line) := by
              rw [← HLV.out, Nat.sub_self]; rfl
            subst hlv
            have HM2 : Hid (rnd arcs (s : Int) mo k line = RES) := HMR.out
            have ll : -9223372036854775808 ≤ ((mo + 1 : Nat) : Int) - 1 ∧ ((mo + 1 : Nat) : Int) - 1 ≤ 9223372036854775807 := by omega
            go_wp2_with fail
            go_roundg (gk0 - 1)
            case measure => omega
            case rel => exact ⟨mo, k, line, nf, by go_num, by omega, by omega, rfl, hel, rfl, HS.out, HB.out, HM2.out⟩
    · have kI : ¬ (k : Int) < (line.length : Int) := by omega
      have hres : RES = none := by
        rw [← HRS.out]
        cases mo with
        | zero => rfl
        | succ mo => rw [rnd, if_pos (by omega)]
      subst hres
      go_wp2_with fail
      go_ret
      exact ⟨HB.out, rfl⟩
end Go.Proofs.Yteonpfomlmfkjaa
