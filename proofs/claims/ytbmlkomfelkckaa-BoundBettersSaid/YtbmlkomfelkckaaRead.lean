/- tree.read: the nodes of a list of branches, or nil. -/
import Derived.Test.YtbmlkomfelkckaaRdSpec
import Derived.Test.YtbmlkomfelkckaaSet
import Derived.Test.YtbmlkomfelkckaaFork
import Derived.StillTailTactics
import Derived.Deep.DeepMust
import Derived.Deep.DeepCutAuto
import Derived.Deep.CutBlock
import Derived.Deep.RegionLaw
import Derived.BigRegion
namespace Go.Proofs.Ytbmlkomfelkckaa
open Go Go.RowKit
set_option maxRecDepth 100000

/-- Each value leads to its part. -/
def Nds (w : World) (l : List NT) (ps : List Value) : Prop := l.length = ps.length ∧ ∀ (i : Nat) (T : NT), l[i]? = some T → ∃ b : Nat, ps[i]? = some (Value.pointer (some ⟨b, 0, none⟩)) ∧ Nd w T (.pointer (some ⟨b, 0, none⟩))

theorem Nds.below {w w' : World} {l : List NT} {ps : List Value} (h : Nds w l ps) (hb : Below w.heap.size w w') : Nds w' l ps :=
  ⟨h.1, fun i T hT => by obtain ⟨b, hp, hn⟩ := h.2 i T hT; exact ⟨b, hp, hn.below hb⟩⟩

/-- What tree.read leaves. -/
def RetRead (w : World) (r : Option (List NT)) (e : Ending) (w' : World) : Prop :=
  Below w.heap.size w w' ∧ match r with
    | none => e = .returned (.slice none 0 0)
    | some l => ∃ g c ps, e = .returned (.slice (some ⟨g, 0, none⟩) l.length c) ∧ w'.ownsRow w.heap.size 93 1 (.slice (some ⟨g, 0, none⟩) l.length c) l.length ps ∧ Nds w' l ps

/-- A box of twelve bools: which numbers stand in a list. -/
def Had (w : World) (b : Nat) (had : List Int) : Prop := ∃ cs e, w.heap[b]? = some (.cells cs e (0, 0)) ∧ e = 149 ∧ cs.size = 12 ∧ ∀ j : Nat, j < 12 → cs[j]? = some (.bool (decide ((j : Int) ∈ had)))

set_option maxHeartbeats 400000 in
theorem read_guard (A : Option Addr) (n c : Nat) (leaves : Int) (w : World) (_hn : n ≤ 9223372036854775807) (hl : -9223372036854775808 ≤ leaves ∧ leaves ≤ 9223372036854775807)
    (h : leaves < 1 ∨ 12 < leaves ∨ (n : Int) ≠ 2 * leaves - 1) :
    Calls Try.prog 70 #[.agg #[.slice A n c], .int .i64 leaves] w fun e w' => e = .returned (.slice none 0 0) ∧ Below w.heap.size w w' := by
  obtain ⟨hl1, hl2⟩ := hl
  by_cases h1 : leaves < 1
  · go_enter Try.func70, Try.ntmps70
    go_wp2
    go_ret
    exact ⟨rfl, below_alloc _ _⟩
  · by_cases h2 : 12 < leaves
    · go_enter Try.func70, Try.ntmps70
      go_wp2
      go_ret
      exact ⟨rfl, below_alloc _ _⟩
    · have h3 : ((n : Int) != 2 * leaves - 1) = true := by
        rw [bne_iff_ne]; omega
      clear h
      go_enter Try.func70, Try.ntmps70
      go_wp2
      go_ret
      exact ⟨rfl, below_alloc _ _⟩

theorem info_ptr : (Try.prog.info? 93).map (fun i => (i.zero, i.size, i.bytes)) = some (some (.pointer none), 1, 8) := by kernel_rfl
theorem zero_bool (w : World) : (zeroValue 4).run Try.prog w = .ok (.bool false) w := by kernel_rfl

theorem one1 (b : Nat) : (#[Value.pointer (some ⟨b, 0, none⟩)] : Array Value).size = 1 ∧ ∀ u ∈ (#[Value.pointer (some ⟨b, 0, none⟩)] : Array Value).toList, u.oneCell' = true := by
  refine ⟨rfl, ?_⟩
  intro u hu
  simp at hu
  subst hu
  rfl

theorem had_start (w : World) : Had (w.alloc (.cells #[.bool false, .bool false, .bool false, .bool false, .bool false, .bool false, .bool false, .bool false, .bool false, .bool false, .bool false, .bool false] 149)) w.heap.size [] := by
  refine ⟨_, _, alloc_at _ _, rfl, rfl, fun j hj => ?_⟩
  match j, hj with
  | 0, _ => rfl
  | 1, _ => rfl
  | 2, _ => rfl
  | 3, _ => rfl
  | 4, _ => rfl
  | 5, _ => rfl
  | 6, _ => rfl
  | 7, _ => rfl
  | 8, _ => rfl
  | 9, _ => rfl
  | 10, _ => rfl
  | 11, _ => rfl

theorem Had.cell {w : World} {b : Nat} {had : List Int} (h : Had w b had) (x : Int) (h0 : 0 ≤ x) (h1 : x < 12) : w.cell? ⟨b, x.toNat, none⟩ = some (.bool (decide (x ∈ had))) ∧ w.frozen? ⟨b, x.toNat, none⟩ = false := by
  obtain ⟨cs, e, hb, _, _, hc⟩ := h
  refine ⟨?_, by simp [World.frozen?, hb]⟩
  rw [Nd.cell hb, hc x.toNat (by omega), Int.toNat_of_nonneg h0]

theorem Had.lt {w : World} {b : Nat} {had : List Int} (h : Had w b had) : b < w.heap.size := by
  obtain ⟨cs, e, hb, _⟩ := h
  exact (Array.getElem?_eq_some_iff.1 hb).1

theorem Had.keep {w w' : World} {b : Nat} {had : List Int} (h : Had w b had) (hk : w'.heap[b]? = w.heap[b]?) : Had w' b had := by
  obtain ⟨cs, e, hb, r⟩ := h
  exact ⟨cs, e, hk.trans hb, r⟩

theorem Had.elem {w : World} {b : Nat} {had : List Int} (h : Had w b had) : elemAt w b = some 149 := by
  obtain ⟨cs, e, hb, rfl, _⟩ := h
  simp [elemAt, hb]

theorem Had.set {w : World} {b : Nat} {had : List Int} (h : Had w b had) (x : Int) (h0 : 0 ≤ x) (h1 : x < 12) : Had (w.setCell ⟨b, x.toNat, none⟩ (.bool true)) b (x :: had) := by
  obtain ⟨cs, e, hb, rfl, hs, hc⟩ := h
  refine ⟨cs.setIfInBounds x.toNat (.bool true), _, ?_, rfl, by simpa using hs, fun j hj => ?_⟩
  · simp only [World.setCell, Array.getElem?_modify, hb]
    simp
  · rw [Array.getElem?_setIfInBounds]
    by_cases he : x.toNat = j
    · rw [if_pos he, if_pos (by omega)]
      have : (j : Int) = x := by omega
      simp [this]
    · rw [if_neg he, hc j hj]
      have : (j : Int) ≠ x := by omega
      simp [this]

/-- What holds of the world while branches are read: the box of bools, the set, the row of nodes. -/
structure Mid (w W : World) (k : Nat) (l : List NT) (had fr : List Int) (v : Value) (ps : List Value) : Prop where
  below : Below w.heap.size w W
  size : w.heap.size + 3 ≤ W.heap.size
  had : Had W (w.heap.size + 1) had
  set : SetAt intKey W (w.heap.size + 1 + 1) fr
  row : W.ownsRow (w.heap.size + 3) 93 1 v k ps
  nds : Nds W l ps

theorem upd_keep {w w' : World} {v v' : Value} {base : Nat} {e : TypeId} {size n : Nat} {xs : List Value} (hu : Upd w w' v v') (ho : w.ownsRow base e size v n xs) (c : Nat) (hc : c < w.heap.size) (he : elemAt w c ≠ some e) : w'.heap[c]? = w.heap[c]? :=
  hu.1.block c hc (fun q => he (own_elem ho c q.symm))

theorem Nds.keep {w w' : World} {l : List NT} {ps : List Value} (h : Nds w l ps) (hk : ∀ (b : Nat) (cs : Array Value), w.heap[b]? = some (.cells cs 98 (0, 0)) → w'.heap[b]? = w.heap[b]?) : Nds w' l ps :=
  ⟨h.1, fun i T hT => by obtain ⟨b, hp, hn⟩ := h.2 i T hT; exact ⟨b, hp, Nd.keep hk hn⟩⟩

theorem Nds.snoc {w : World} {l : List NT} {ps : List Value} {T : NT} {b : Nat} (h : Nds w l ps) (hn : Nd w T (.pointer (some ⟨b, 0, none⟩))) : Nds w (l ++ [T]) (ps ++ [.pointer (some ⟨b, 0, none⟩)]) := by
  refine ⟨by simp [h.1], fun i U hU => ?_⟩
  rcases Nat.lt_or_ge i l.length with hi | hi
  · rw [List.getElem?_append_left hi] at hU
    obtain ⟨b', hp, hn'⟩ := h.2 i U hU
    exact ⟨b', by rw [List.getElem?_append_left (by rw [← h.1]; exact hi)]; exact hp, hn'⟩
  · have hl := (List.getElem?_eq_some_iff.1 hU).1
    simp at hl
    have hi' : i = l.length := by omega
    subst hi'
    simp at hU
    subst hU
    refine ⟨b, ?_, hn⟩
    rw [h.1]
    simp

section
variable {w W W' : World} {k : Nat} {l : List NT} {had fr : List Int} {v : Value} {ps : List Value}

theorem Mid.next (h : Mid w W k l had fr v ps) (hb : Below W.heap.size W W') : Mid w W' k l had fr v ps :=
  ⟨h.below.trans (hb.mono (by have := h.size; omega)), Nat.le_trans h.size hb.size, h.had.keep (hb.block _ h.had.lt), h.set.below hb, own_below h.row hb, h.nds.below hb⟩

theorem Mid.nextDrew (h : Mid w W k l had fr v ps) (hb : Below W.drew.heap.size W.drew W') : Mid w W' k l had fr v ps := h.next ⟨hb.os, hb.tape, hb.output, hb.size, hb.block⟩

theorem Mid.alloc (h : Mid w W k l had fr v ps) (o : Obj) : Mid w (W.alloc o) k l had fr v ps := h.next (below_alloc W o)

/-- A number more, or less, stands in the set. -/
theorem Mid.turn (h : Mid w W k l had fr v ps) {fr' : List Int} (hs : SetAt intKey W' (w.heap.size + 1 + 1) fr') (hg : W.grownBy W' (some (w.heap.size + 1 + 1))) : Mid w W' k l had fr' v ps := by
  have hse := h.set.elem
  have hkeep : ∀ (c : Nat) (e : TypeId), elemAt W c = some e → W'.heap[c]? = W.heap[c]? := by
    intro c e he
    have hc : c < W.heap.size := by
      rcases Nat.lt_or_ge c W.heap.size with h | h
      · exact h
      · simp [elemAt, Array.getElem?_eq_none h] at he
    refine hg.block c hc (fun q => ?_)
    have : c = w.heap.size + 1 + 1 := by simpa using q
    rw [this, hse] at he
    cases he
  refine ⟨h.below.grown hg (by have := h.size; omega) (by intro c hc; simp at hc; omega), Nat.le_trans h.size hg.size, h.had.keep (hkeep _ _ h.had.elem), hs, ?_, h.nds.keep (fun c cs hc => hkeep c 98 (by simp [elemAt, hc]))⟩
  refine h.row.kept hg ?_
  cases hv : v.ownBlock with
  | none => exact .inl rfl
  | some c =>
    refine .inr (fun q => ?_)
    have hc : c = w.heap.size + 1 + 1 := by simpa using q
    have := own_elem h.row c hv
    rw [hc, hse] at this
    cases this

/-- A number is marked in the box. -/
theorem Mid.mark (h : Mid w W k l had fr v ps) (x : Int) (h0 : 0 ≤ x) (h1 : x < 12) : Mid w (W.setCell ⟨w.heap.size + 1, x.toNat, none⟩ (.bool true)) k l (x :: had) fr v ps := by
  have hz := h.size
  refine ⟨below_set h.below (by omega) _ _, by simp; omega, h.had.set x h0 h1, h.set.setCell _ _, ownsRow_setCell_below h.row (by show w.heap.size + 1 < w.heap.size + 3; omega) _, h.nds.keep (fun c cs hc => ?_)⟩
  refine Below.heap_setCell _ _ _ _ ?_
  rintro rfl
  have := h.had.elem
  simp [elemAt, hc] at this

/-- The row is appended to. -/
theorem Mid.push (h : Mid w W k l had fr v ps) {v1 : Value} {T : NT} {b : Nat} (hu : Upd W W' v v1) (ho : W'.ownsRow (w.heap.size + 3) 93 1 v1 (k + 1) (ps ++ [.pointer (some ⟨b, 0, none⟩)])) (hT : Nd W T (.pointer (some ⟨b, 0, none⟩))) :
    Mid w W' (k + 1) (l ++ [T]) had fr v1 (ps ++ [.pointer (some ⟨b, 0, none⟩)]) := by
  have hz := h.size
  have hnode : ∀ (c : Nat) (cs : Array Value), W.heap[c]? = some (.cells cs 98 (0, 0)) → W'.heap[c]? = W.heap[c]? := fun c cs hc =>
    upd_keep hu h.row c (Array.getElem?_eq_some_iff.1 hc).1 (by simp [elemAt, hc])
  exact ⟨h.below.trans (hu.below (by omega) (fun c hc => by have := own_base h.row c hc; omega)), Nat.le_trans hz hu.1.size, h.had.keep (upd_keep hu h.row _ h.had.lt (by rw [h.had.elem]; decide)),
    h.set.keep (upd_keep hu h.row _ h.set.lt (by rw [h.set.elem]; simp)), ho, (h.nds.keep hnode).snoc (Nd.keep hnode hT)⟩
end

/-- What holds at the head of each round. -/
structure RdInv (w wr : World) (xs : List Br) (leaves : Int) (k : Nat) (s : RS) (v7 : Value) : Prop where
  mid : ∃ ps, Mid w wr k s.l s.had s.free v7 ps
  st : rdAll leaves ⟨[], [], []⟩ (xs.take k) = some s
  ok : s.Ok leaves
  len : s.l.length = k

theorem rdinv_start (w : World) (o : Obj) (xs : List Br) (leaves : Int) :
    RdInv w (((w.alloc o).alloc (.cells #[.bool false, .bool false, .bool false, .bool false, .bool false, .bool false, .bool false, .bool false, .bool false, .bool false, .bool false, .bool false] 149)).alloc (.map #[] 0)) xs leaves 0 ⟨[], [], []⟩ (.slice none 0 0) := by
  have h1 := had_start (w.alloc o)
  have h2 := SetAt.made intKey ((w.alloc o).alloc (.cells #[.bool false, .bool false, .bool false, .bool false, .bool false, .bool false, .bool false, .bool false, .bool false, .bool false, .bool false, .bool false] 149))
  simp only [World.size_alloc] at h1 h2
  refine ⟨⟨[], (((Below.refl _ _).alloc (Nat.le_refl _) _).alloc (by simp) _).alloc (by simp; omega) _, by simp, ?_, h2, World.ownsRow_nil _ _ _ _, rfl, by simp⟩, rfl, RS.Ok.start _, rfl⟩
  exact h1.keep (heap_alloc_old _ _ (by simp))

theorem rd_next {w wr w2 : World} {xs : List Br} {leaves : Int} {k : Nat} {s s' : RS} {v7 v1 : Value} {x : Br} {ps : List Value} {fr : List Int} (HI : RdInv w wr xs leaves k s v7) (hx : xs[k]? = some x) (hs : rdStep leaves s x = some s')
    (hfr : s'.free = fr ++ [(k : Int)]) (hm : Mid w w2 (k + 1) s'.l s'.had (if (k : Int) ∈ fr then fr else fr ++ [(k : Int)]) v1 ps) : RdInv w w2 xs leaves (k + 1) s' v1 := by
  have hok := (HI.ok.step hs)
  have hnd := hok.1.nodup
  rw [hfr] at hnd
  have hk : (k : Int) ∉ fr := fun hm => (List.nodup_append.1 hnd).2.2 _ hm _ (by simp) rfl
  rw [if_neg hk, ← hfr] at hm
  exact ⟨⟨ps, hm⟩, rdAll_more hx HI.st hs, hok.1, by rw [hok.2, HI.len]⟩

theorem leaf_step {leaves : Int} {s : RS} {x : Br} (ha : x.a = 0) (hb : x.b = 0) (g0 : 0 ≤ x.leaf) (g1 : x.leaf < leaves) (g2 : x.leaf ∉ s.had) :
    rdStep leaves s x = some ⟨x.leaf :: s.had, s.free ++ [(s.l.length : Int)], s.l ++ [.leaf x.leaf.toNat]⟩ := by
  unfold rdStep
  rw [if_pos ⟨ha, hb⟩, if_neg (by rintro (h | h | h); omega; omega; exact g2 h)]

theorem leaf_fails {leaves : Int} {s : RS} {x : Br} (ha : x.a = 0) (hb : x.b = 0) (h : x.leaf < 0 ∨ leaves ≤ x.leaf ∨ x.leaf ∈ s.had) : rdStep leaves s x = none := by
  unfold rdStep
  rw [if_pos ⟨ha, hb⟩, if_pos h]

theorem fork_step {leaves : Int} {s : RS} {x : Br} (h : ¬ (x.a = 0 ∧ x.b = 0)) (h0 : x.leaf = 0) (h1 : x.a ≠ x.b) (h2 : x.a ∈ s.free) (h3 : x.b ∈ s.free) :
    rdStep leaves s x = some ⟨s.had, (s.free.erase x.a).erase x.b ++ [(s.l.length : Int)], s.l ++ [mkFork (s.l.getD x.a.toNat (.leaf 0)) (s.l.getD x.b.toNat (.leaf 0))]⟩ := by
  unfold rdStep
  rw [if_neg h, if_neg (by rintro (h | h | h | h); exact h h0; exact h1 h; exact h h2; exact h h3)]

theorem fork_fails {leaves : Int} {s : RS} {x : Br} (h : ¬ (x.a = 0 ∧ x.b = 0)) (h0 : x.leaf ≠ 0 ∨ x.a = x.b ∨ x.a ∉ s.free ∨ x.b ∉ s.free) : rdStep leaves s x = none := by
  unfold rdStep
  rw [if_neg h, if_pos h0]

theorem ret_fails {w W : World} {xs : List Br} {leaves : Int} {k : Nat} {s : RS} {x : Br} (hb : Below w.heap.size w W) (hx : xs[k]? = some x) (hst : rdAll leaves ⟨[], [], []⟩ (xs.take k) = some s) (hs : rdStep leaves s x = none) :
    RetRead w (rdTree leaves xs) (.returned (.slice none 0 0)) W := by
  have h : rdTree leaves xs = none := by
    unfold rdTree
    split
    · rfl
    · rw [rdAll_fails hx hst hs]; rfl
  rw [h]
  exact ⟨hb, rfl⟩

theorem leaf_node (W : World) (x : Int) (h0 : 0 ≤ x) : Nd (W.alloc (.cells #[.int .i64 x, .pointer none, .pointer none] 98)) (.leaf x.toNat) (.pointer (some ⟨W.heap.size, 0, none⟩)) := by
  refine ⟨_, rfl, ?_⟩
  rw [Int.toNat_of_nonneg h0]
  exact alloc_at W _

theorem lookup_free {w W : World} {k : Nat} {l : List NT} {had fr : List Int} {v : Value} {ps : List Value} (h : Mid w W k l had fr v ps) (x : Int) {r : Bool} (hr : decide (x ∈ fr) = r) (o1 : Obj) :
    (Instr.lookup 91 (.map (some (w.heap.size + 1 + 1))) (.int .i64 x) false).run Try.prog (W.alloc o1) = .ok (.bool r) (W.alloc o1) := by
  have h1 := SetAt.lookup kint (h.alloc o1).set Try.underlying91 Try.underlying3 (zero_bool _) x
  rw [hr] at h1
  exact h1

theorem Mid.at {w W : World} {k : Nat} {l : List NT} {had fr : List Int} {g c : Nat} {ps : List Value} (h : Mid w W k l had fr (.slice (some ⟨g, 0, none⟩) k c) ps) (hl : l.length = k) (x : Int) (h0 : 0 ≤ x) (h1 : x < k) :
    ∃ b : Nat, W.cell? ⟨g, x.toNat, none⟩ = some (.pointer (some ⟨b, 0, none⟩)) ∧ Nd W (l.getD x.toNat (.leaf 0)) (.pointer (some ⟨b, 0, none⟩)) := by
  have hx : x.toNat < l.length := by omega
  obtain ⟨b, hp, hn⟩ := h.nds.2 x.toNat (l.getD x.toNat (.leaf 0)) (by simp [List.getD_eq_getElem?_getD, hx])
  obtain ⟨A, c', he, _, hc⟩ := cells_of_own h.row
  obtain ⟨g', hg, hcell⟩ := hc _ _ hp
  have : g = g' := by
    have e1 : some (⟨g, 0, none⟩ : Addr) = A := by simpa using (Value.slice.inj he).1
    rw [hg] at e1
    simpa using e1
  subst this
  exact ⟨b, hcell, hn⟩

theorem rd_whole {xs : List Br} {n : Nat} {leaves : Int} {s : RS} (h1 : 1 ≤ leaves) (h2 : leaves ≤ 12) (h : (n : Int) = 2 * leaves - 1) (hn : xs.length = n) (hs : rdAll leaves ⟨[], [], []⟩ xs = some s) (ho : s.free.length = 1) :
    rdTree leaves xs = some s.l := by
  unfold rdTree
  rw [if_neg (by omega), hs]
  show (if s.free.length = 1 then some s.l else none) = some s.l
  rw [if_pos ho]

theorem ret_reads {w W : World} {k : Nat} {l : List NT} {had fr : List Int} {g c : Nat} {ps : List Value} {r : Option (List NT)} (h : Mid w W k l had fr (.slice (some ⟨g, 0, none⟩) k c) ps) (hl : l.length = k) (hr : r = some l) :
    RetRead w r (.returned (.slice (some ⟨g, 0, none⟩) k c)) W := by
  subst hr hl
  exact ⟨h.below, g, c, ps, rfl, own_mono h.row (by omega), h.nds⟩

set_option maxHeartbeats 2000000 in
theorem read_calls (A : Option Addr) (n c : Nat) (xs : List Br) (leaves : Int) (w : World) (hr : RdBr w A xs) (hxn : xs.length = n) (hl1 : 1 ≤ leaves) (hl2 : leaves ≤ 12)
    (h : (n : Int) = 2 * leaves - 1) :
    Calls Try.prog 70 #[.agg #[.slice A n c], .int .i64 leaves] w (RetRead w (rdTree leaves xs)) := by
  have h3 : ((n : Int) != 2 * leaves - 1) = false := by
    rw [bne_eq_false_iff_eq]; exact h
  have hn : n ≤ 23 := by omega
  have H := Lib.hid h
  have HX := Lib.hid hxn
  clear h hxn
  have hmm := @run_makeMap Try.prog
  go_enter Try.func70, Try.ntmps70
  go_wp2
  go_loopg [4, 7, 29] n (fun gk v4 v7 v29 wr => ∃ (k : Nat) (s : RS), v4 = .slice none 0 0 ∧ v29 = .int .i64 k ∧ k ≤ n ∧ Hid (gk + k = n) ∧ RdInv w wr xs leaves k s v7)
  case atStart =>
    refine ⟨0, ⟨[], [], []⟩, rfl, rfl, Nat.zero_le _, rfl, ?_⟩
    exact rdinv_start _ _ _ _
  case round =>
    clear hmm
    obtain ⟨k, s, rfl, rfl, hk, HG, HI⟩ := hrel
    obtain ⟨ps, HM⟩ := HI.mid
    obtain ⟨A7, c7, rfl, hc7⟩ := own_slice HM.row
    have hz1 : w.heap.size + 1 < wr.heap.size := by have := HM.size; omega
    have hz2 : w.heap.size + 1 + 1 < wr.heap.size := by have := HM.size; omega
    by_cases hkn : k < n
    · have hkx : k < xs.length := by have := HX.out; omega
      have hA7 : 0 < k → ∃ g, A7 = some ⟨g, 0, none⟩ := by
        intro h0
        rcases HM.row.2 with ⟨h1, h2⟩ | ⟨g, cap, cur, h1, _⟩
        · omega
        · exact ⟨g, (Value.slice.inj h1).1⟩
      obtain ⟨ad, rfl, d0, d1, d2⟩ := hr.below HM.below k xs[k] (by simp [hkx])
      generalize hx : xs[k] = x at *
      have HXK : Hid (xs[k]? = some x) := by show xs[k]? = some x; rw [List.getElem?_eq_getElem hkx, hx]
      clear hx hr
      by_cases hab : x.a = 0 ∧ x.b = 0
      · have ha : (x.a == 0) = true := by simpa using hab.1
        have hb : (x.b == 0) = true := by simpa using hab.2
        have hab' := Lib.hid hab
        clear hab
        by_cases hbad : x.leaf < 0 ∨ leaves ≤ x.leaf ∨ x.leaf ∈ s.had
        · have HF : Hid (rdStep leaves s x = none) := leaf_fails hab'.out.1 hab'.out.2 hbad
          by_cases g0 : x.leaf < 0
          · clear hbad
            go_wp2_with fail
            go_ret
            exact ret_fails (HM.alloc _).below HXK.out HI.st HF.out
          · by_cases g1 : leaves ≤ x.leaf
            · clear hbad
              go_wp2_with fail
              go_ret
              exact ret_fails (HM.alloc _).below HXK.out HI.st HF.out
            · have g2 : decide (x.leaf ∈ s.had) = true := by
                rcases hbad with h | h | h
                · exact absurd h g0
                · exact absurd h g1
                · simpa using h
              obtain ⟨e0, e1⟩ := HM.had.cell x.leaf (by omega) (by omega)
              rw [g2] at e0
              clear hbad g2
              go_wp2_with fail
              go_ret
              exact ret_fails (HM.alloc _).below HXK.out HI.st HF.out
        · have g0 : 0 ≤ x.leaf := by omega
          have g1 : x.leaf < leaves := by omega
          have g2 : decide (x.leaf ∈ s.had) = false := by simpa using fun q => hbad (.inr (.inr q))
          obtain ⟨e0, e1⟩ := HM.had.cell x.leaf g0 (by omega)
          rw [g2] at e0
          have HW := Lib.hid (fun o1 o2 => ((HM.mark x.leaf g0 (by omega)).alloc o1).alloc o2)
          have HK : Hid (x.leaf ∉ s.had) := fun q => hbad (.inr (.inr q))
          clear hbad g2
          go_wp2_with (first | (at_builtin; go_must (refine walk_append1 (HW.out _ _).row (by simp; omega) (by omega) 94 Try.underlying94 info_ptr ⟨rfl, by decide, by decide⟩ _ (one1 _) (by refine ⟨rfl, rfl, rfl, rfl, ?_⟩; simp) ?_); intro v1 w1 ho1 hu1; have HP := Lib.hid ((HW.out _ _).push hu1 ho1 (by have h := leaf_node ((wr.setCell ⟨w.heap.size + 1, x.leaf.toNat, none⟩ (.bool true)).alloc (.cells #[.int .i64 x.leaf, .int .i64 x.a, .int .i64 x.b] 64)) x.leaf g0; simpa using h)); clear hu1 ho1) | (at_mapUpdate; go_must (refine walk_put (key := (k : Int)) HP.out.set kint Try.underlying91 Try.underlying3 rfl _ _ _ rfl rfl rfl rfl ?_); intro w2 hs2 hg2 hz2))
          go_roundg (gk - 1)
          case measure => have := HG.out; omega
          case rel =>
            have hlen := HI.len
            have hst := leaf_step hab'.out.1 hab'.out.2 g0 g1 HK.out
            rw [hlen] at hst
            exact ⟨k + 1, _, rfl, by go_num, by omega, by have := HG.out; show gk - 1 + (k + 1) = n; omega, rd_next HI HXK.out hst rfl (HP.out.turn hs2 hg2)⟩
      · have HN := Lib.hid hab
        have h0 : (x.a == 0) = false ∨ ((x.a == 0) = true ∧ (x.b == 0) = false) := by
          by_cases h : x.a = 0
          · exact .inr ⟨by simpa using h, by simpa using fun q => hab ⟨h, q⟩⟩
          · exact .inl (by simpa using h)
        clear hab
        have HL := Lib.hid HI.len
        by_cases hl0 : x.leaf = 0
        · have f0 : (x.leaf != 0) = false := by simpa using hl0
          have HL0 := Lib.hid hl0
          clear hl0
          by_cases hab : x.a = x.b
          · have f1 : (x.a == x.b) = true := by simpa using hab
            have HF : Hid (rdStep leaves s x = none) := fork_fails HN.out (.inr (.inl hab))
            clear hab
            rcases h0 with h0 | ⟨h0, h0b⟩
            all_goals
              go_wp2_with fail
              go_ret
              exact ret_fails (HM.alloc _).below HXK.out HI.st HF.out
          · have f1 : (x.a == x.b) = false := by simpa using hab
            have HAB := Lib.hid hab
            clear hab
            by_cases hma : x.a ∈ s.free
            · have f2 : decide (x.a ∈ s.free) = true := by simpa using hma
              by_cases hmb : x.b ∈ s.free
              · have f3 : decide (x.b ∈ s.free) = true := by simpa using hmb
                have HF := Lib.hid (fork_step (leaves := leaves) HN.out HL0.out HAB.out hma hmb)
                obtain ⟨p0, p1⟩ := HI.ok.free _ hma
                obtain ⟨p2, p3⟩ := HI.ok.free _ hmb
                rw [HL.out] at p1 p3
                have HW := Lib.hid (fun o1 => HM.alloc o1)
                have l2 := lookup_free HM x.a f2
                have l3 := lookup_free HM x.b f3
                clear f2 f3
                obtain ⟨g, rfl⟩ := hA7 (by omega)
                clear hma hmb
                rcases h0 with h0 | ⟨h0, h0b⟩
                all_goals
                  go_upto_block 2 with (fail)
                  go_cut [4, 7] (fun v4 v7 wc => v4 = .slice none 0 0 ∧ ∃ ps', Hid (Mid w wc (k + 1) (s.l ++ [mkFork (s.l.getD x.a.toNat (.leaf 0)) (s.l.getD x.b.toNat (.leaf 0))]) s.had ((s.free.erase x.a).erase x.b) v7 ps'))
                  case first =>
                    go_upto_region 11 with (first | (at_delete; refine walk_del HD.out.set kint Try.underlying91 Try.underlying3 rfl _ _ rfl rfl rfl ?_; intro w2 hs2 hg2 hz3; have HE := Lib.hid (HD.out.turn hs2 hg2); have q1 := hg2.cell q1 (by simp; omega); have q2 := hg2.cell q2 (by simp; omega)) | (at_delete; go_must (refine walk_del (HW.out _).set kint Try.underlying91 Try.underlying3 rfl _ _ rfl rfl rfl ?_); intro w1 hs1 hg1 hz2; have HD := Lib.hid ((HW.out _).turn hs1 hg1); have q1 := hg1.cell (new_cell wr #[.int .i64 x.leaf, .int .i64 x.a, .int .i64 x.b] 64 1) (by simp; omega); have q2 := hg1.cell (new_cell wr #[.int .i64 x.leaf, .int .i64 x.a, .int .i64 x.b] 64 2) (by simp; omega)))
                    have hlen := HL.out
                    obtain ⟨ba, ca, na⟩ := HE.out.at hlen x.a p0 p1
                    obtain ⟨bb, cb, nb⟩ := HE.out.at hlen x.b p2 p3
                    clear hlen hs1 hs2 hg1 hg2 l2 l3 d0 d1 d2
                    simp only [Act.put]
                    have HT : Hid (Nd w2 (s.l.getD x.a.toNat (.leaf 0)) (.pointer (some ⟨ba, 0, none⟩)) ∧ Nd w2 (s.l.getD x.b.toNat (.leaf 0)) (.pointer (some ⟨bb, 0, none⟩))) := ⟨na, nb⟩
                    clear na nb
                    go_region_law (first | (refine step_append1 HR.out.row (by have := HR.out.size; omega) (by omega) 94 Try.underlying94 info_ptr ⟨rfl, by decide, by decide⟩ _ (one1 _) (by refine ⟨rfl, rfl, rfl, rfl, ?_⟩; simp) ?_; intro v1 w4 ho1 hu1; have HP := Lib.hid (HR.out.push hu1 ho1 HNd.out)) | (go_simp; go_at_call 57; refine (fork_calls _ _ _ _ _ (Nd.drew HT.out.1) (Nd.drew HT.out.2)).mono ?_; rintro e w3 ⟨b3, rfl, hn3, hb3⟩; have HR := Lib.hid (HE.out.nextDrew hb3); have HNd := Lib.hid hn3))
                    all_goals (go_wp2_with fail; go_meet; exact ⟨rfl, _, HP⟩)
                  case rest =>
                    obtain ⟨rfl, ps', HP⟩ := hcut
                    go_wp2_with (at_mapUpdate; go_must (refine walk_put (key := (k : Int)) HP.out.set kint Try.underlying91 Try.underlying3 rfl _ _ _ rfl rfl rfl rfl ?_); intro w5 hs5 hg5 hz5)
                    go_roundg (gk - 1)
                    case measure => have := HG.out; omega
                    case rel =>
                      have hst := HF.out
                      have hlen := HL.out
                      rw [hlen] at hst
                      exact ⟨k + 1, _, rfl, by go_num, by omega, by have := HG.out; show gk - 1 + (k + 1) = n; omega, rd_next HI HXK.out hst rfl (HP.out.turn hs5 hg5)⟩
              · have f3 : decide (x.b ∈ s.free) = false := by simpa using hmb
                have HF : Hid (rdStep leaves s x = none) := fork_fails HN.out (.inr (.inr (.inr hmb)))
                have l2 := lookup_free HM x.a f2
                have l3 := lookup_free HM x.b f3
                clear f2 f3 hma hmb
                rcases h0 with h0 | ⟨h0, h0b⟩
                all_goals
                  go_wp2_with fail
                  go_ret
                  exact ret_fails (HM.alloc _).below HXK.out HI.st HF.out
            · have f2 : decide (x.a ∈ s.free) = false := by simpa using hma
              have HF : Hid (rdStep leaves s x = none) := fork_fails HN.out (.inr (.inr (.inl hma)))
              have l2 := lookup_free HM x.a f2
              clear f2 hma
              rcases h0 with h0 | ⟨h0, h0b⟩
              all_goals
                go_wp2_with fail
                go_ret
                exact ret_fails (HM.alloc _).below HXK.out HI.st HF.out
        · have f0 : (x.leaf != 0) = true := by simpa using hl0
          have HF : Hid (rdStep leaves s x = none) := fork_fails HN.out (.inl hl0)
          clear hl0
          rcases h0 with h0 | ⟨h0, h0b⟩
          all_goals
            go_wp2_with fail
            go_ret
            exact ret_fails (HM.alloc _).below HXK.out HI.st HF.out
    · have hkn' : k = n := by omega
      have HS : Hid (rdAll leaves ⟨[], [], []⟩ xs = some s) := by
        have h := HI.st
        have h2 := HX.out
        rw [List.take_of_length_le (by omega)] at h
        exact h
      have hA7 : ∃ g, A7 = some ⟨g, 0, none⟩ := by
        rcases HM.row.2 with ⟨h1, h2⟩ | ⟨g, cap, cur, h1, _⟩
        · have := H.out; omega
        · exact ⟨g, (Value.slice.inj h1).1⟩
      obtain ⟨g, rfl⟩ := hA7
      have HK := Lib.hid hkn'
      clear hkn' hr
      by_cases hone : s.free.length = 1
      · have h1 : ((s.free.length : Int) != 1) = false := by rw [bne_eq_false_iff_eq]; omega
        have HO := Lib.hid hone
        clear hone
        go_wp2_with (at_len; go_must (refine walk_len HM.set Try.underlying91 rfl _ rfl rfl ?_))
        go_ret
        exact ret_reads HM HI.len (rd_whole hl1 hl2 H.out HX.out HS.out HO.out)
      · have h1 : ((s.free.length : Int) != 1) = true := by rw [bne_iff_ne]; omega
        have HO := Lib.hid hone
        clear hone
        go_wp2_with (at_len; go_must (refine walk_len HM.set Try.underlying91 rfl _ rfl rfl ?_))
        go_ret
        have hn : rdTree leaves xs = none := by
          unfold rdTree
          split
          · rfl
          · rw [HS.out]
            show (if s.free.length = 1 then some s.l else none) = none
            rw [if_neg HO.out]
        rw [hn]
        exact ⟨HM.below, rfl⟩
end Go.Proofs.Ytbmlkomfelkckaa
