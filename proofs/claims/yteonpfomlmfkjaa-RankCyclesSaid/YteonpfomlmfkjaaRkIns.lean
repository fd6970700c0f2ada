/- slices.BinarySearchFunc with the falling order, slices.Insert of one number. -/
import Derived.Test.YteonpfomlmfkjaaRkMem
import Derived.Shelf.Spec.SlicesInsert
import Derived.Shelf.Spec.SlicesInsertGrow
namespace Go.Proofs.Yteonpfomlmfkjaa
open Go Go.RowKit
set_option maxRecDepth 100000

def ins_ren : Go.Shelf.Ren := ⟨fun | 21 => 28 | 27 => 31 | 28 => 32 | 35 => 44 | 39 => 25 | n => n, fun | 22 => 25 | 3 => 3 | 0 => 0 | 4 => 4 | n => n, fun | n => n⟩

theorem ins_lays : Go.Proofs.Lays2.n21 Try.prog ins_ren :=
  { mixed := by kernel_rfl,
    f21 := Try.func28.trans (congrArg some (by kernel_rfl)),
    f27 := Try.func31.trans (congrArg some (by kernel_rfl)),
    f28 := Try.func32.trans (congrArg some (by kernel_rfl)),
    f35 := Try.func44.trans (congrArg some (by kernel_rfl)),
    f39 := Try.func25.trans (congrArg some (by kernel_rfl)),
    t0 := Try.underlying0,
    a0 := Try.isAgg0,
    z0 := Try.sizeOf0,
    v0 := Try.zeroValue0,
    t3 := Try.underlying3,
    a3 := Try.isAgg3,
    z3 := Try.sizeOf3,
    v3 := Try.zeroValue3,
    t4 := Try.underlying4,
    a4 := Try.isAgg4,
    z4 := Try.sizeOf4,
    v4 := Try.zeroValue4,
    t22 := Try.underlying25,
    a22 := Try.isAgg25,
    z22 := Try.sizeOf25,
    v22 := Try.zeroValue25,
    i3 := by kernel_rfl }

/-- A row of x more, at place i. -/
def insAt (R : List Int) (i : Nat) (x : Int) : List Int := R.take i ++ x :: R.drop i

theorem insAt_length {R : List Int} {i : Nat} (x : Int) (h : i ≤ R.length) : (insAt R i x).length = R.length + 1 := by
  simp [insAt]; omega

/-- One cell more of an own row with room. -/
theorem own_more {w : World} {base n c g : Nat} {e : TypeId} {xs : List Value} (h : w.ownsRow base e 1 (.slice (some ⟨g, 0, none⟩) n c) n xs) (hc : n + 1 ≤ c) : ∃ s, w.ownsRow base e 1 (.slice (some ⟨g, 0, none⟩) (n + 1) c) (n + 1) (xs ++ [s]) := by
  obtain ⟨h1, h2⟩ := h
  rcases h2 with ⟨h0, _⟩ | ⟨g', cap, cur, hv, hg, hh, hn, hcap, hsz, ht⟩
  · cases h0
  · cases hv
    have hl : n < cur.toList.length := by rw [Array.length_toList]; omega
    refine ⟨cur.toList[n], by simp; omega, .inr ⟨g, c, cur, rfl, hg, hh, hc, hcap, hsz, ?_⟩⟩
    rw [Nat.mul_one, List.take_succ_eq_append_getElem hl, ← ht, Nat.mul_one]

/-- A block just made, as an own row. -/
theorem own_fresh {W : World} {base k cap : Nat} {e : TypeId} {cur : Array Value} (hb : base ≤ W.heap.size) (hk : k ≤ cap) (hm : cap ≤ maxLen) (hs : cur.size = cap) : (W.alloc (.cells cur e)).ownsRow base e 1 (.slice (some ⟨W.heap.size, 0, none⟩) k cap) k (cur.toList.take k) :=
  ⟨by rw [List.length_take, Array.length_toList]; omega, .inr ⟨W.heap.size, cap, cur, rfl, hb, alloc_at W _, hk, hm, by omega, by rw [Nat.mul_one]⟩⟩

/-- What is left behind an insertion. -/
def RetIns (W : World) (base n : Nat) (v : Value) (R : List Int) (i : Nat) (x : Int) (e : Ending) (w' : World) : Prop :=
  ∃ A' c', e = .returned (.slice A' (n + 1) c') ∧ w'.ownsRow base 3 1 (.slice A' (n + 1) c') (n + 1) (intCells (insAt R i x)) ∧ Upd W w' v (.slice A' (n + 1) c')

theorem intCells_take (l : List Int) (i : Nat) : intCells (l.take i) = (intCells l).take i := by simp [intCells]
theorem intCells_drop (l : List Int) (i : Nat) : intCells (l.drop i) = (intCells l).drop i := by simp [intCells]

theorem ins_cells {R : List Int} {i : Nat} (x : Int) (s : Value) (hi : i < R.length) : (((intCells R ++ [s]).take (i + 1) ++ (intCells R).drop i).set i (.int .i64 x)) = intCells (insAt R i x) := by
  have h1 : (intCells R ++ [s]).take (i + 1) = (intCells R).take i ++ [(intCells R)[i]'(by rw [intCells_length]; exact hi)] := by
    rw [List.take_append_of_le_length (by rw [intCells_length]; omega), List.take_succ_eq_append_getElem (by rw [intCells_length]; exact hi)]
  have hl : ((intCells R).take i).length = i := by rw [List.length_take, intCells_length]; omega
  rw [h1, List.append_assoc, List.set_append_right _ _ (by omega), hl, Nat.sub_self, insAt, intCells_append, intCells_take]
  congr 1
  show _ :: (intCells R).drop i = intCells (x :: R.drop i)
  rw [← intCells_drop]
  rfl

set_option maxHeartbeats 1000000 in
theorem insert_calls (A : Option Addr) (n c base i : Nat) (R : List Int) (x : Int) (W : World) (ho : W.ownsRow base 3 1 (.slice A n c) n (intCells R)) (hR : R.length = n) (hi : i ≤ n) (hn : n ≤ 1000000) (hbase : base ≤ W.heap.size) :
    Calls Try.prog 28 #[.slice A n c, .int .i64 i, .slice (some ⟨W.heap.size, 0, none⟩) 1 1] (W.alloc (.cells #[.int .i64 x] 3)) (RetIns W base n (.slice A n c) R i x) := by
  have hcl : (intCells R).length = n := by rw [intCells_length, hR]
  have hvs : ∀ (j : Nat) v, [Value.int .i64 x][j]? = some v → (W.alloc (.cells #[.int .i64 x] 3)).cell? ⟨W.heap.size, 0 + j, none⟩ = some v := by
    intro j v hv
    rw [Nat.zero_add, new_cell]
    match j, hv with
    | 0, hv => exact hv
  have h1v : ∀ v ∈ [Value.int .i64 x], v.oneCell' = true := by intro v hv; obtain rfl := List.mem_singleton.1 hv; rfl
  have hba := below_alloc W (.cells #[.int .i64 x] 3)
  have hoA := own_below ho hba
  have hcmax : c ≤ 9223372036854775807 := by
    rcases ho.2 with ⟨h, _⟩ | ⟨_, _, _, h, _, _, _, h2, _⟩
    · cases h; omega
    · cases h; exact h2
  have hnc : n ≤ c := by
    rcases ho.2 with ⟨h, h'⟩ | ⟨_, _, _, h, _, _, h1, _⟩
    · cases h; omega
    · cases h; exact h1
  have hz : (W.alloc (.cells #[.int .i64 x] 3)).heap.size = W.heap.size + 1 := by simp
  by_cases hroom : n + 1 ≤ c
  · -- in place
    obtain ⟨b, rfl⟩ : ∃ b, A = some ⟨b, 0, none⟩ := by
      rcases ho.2 with ⟨h, h'⟩ | ⟨g, _, _, h, _⟩
      · cases h; omega
      · cases h; exact ⟨g, rfl⟩
    have hb : b < W.heap.size := (ho.lt b rfl).2
    obtain ⟨s, hs⟩ := own_more hoA hroom
    by_cases hin : i < n
    · have hC := Go.Proofs.Any2.slices_Insert_int_shift ins_lays b 0 n c i W.heap.size 0 1 1 (intCells R) [.int .i64 x] (W.alloc (.cells #[.int .i64 x] 3)) hin (by omega) hroom hcmax (by omega) hcl rfl
        (fun j v hv => by
          rw [Nat.zero_add]
          have hj := (List.getElem?_eq_some_iff.1 hv).1
          rw [hoA.cellAt j (by omega)]; exact hv)
        (fun j hj => by
          rw [Nat.zero_add, hs.cellAt j (by omega), List.getElem?_eq_getElem (by rw [List.length_append, hcl]; exact hj)]; rfl)
        (fun j _ => by rw [Nat.zero_add]; exact hoA.frozenAt j) hvs (intCells_one R) h1v 3 3 1 c
        (by unfold World.shape?; rw [alloc_at]; rfl)
        (by
          rcases hoA.2 with ⟨h, _⟩ | ⟨g, cap, cur, h, _, hh, _, _, hsz, _⟩
          · cases h
          · cases h
            unfold World.shape?
            rw [hh]
            show some (3, cur.size) = _
            rw [hsz, Nat.mul_one]) (by omega) (new_frozen W _ _ 0) (new_frozen W _ _ 1)
      refine hC.mono ?_
      rintro e w' ⟨rfl, rfl⟩
      obtain ⟨h1, h2⟩ := own_setCells ((intCells R).drop i) (i + 1) (W.alloc (.cells #[.int .i64 x] 3)).drew _ hs.drew (by rw [List.length_drop, List.length_append, hcl]; simp; omega)
      obtain ⟨h3, h4⟩ := h1.stored i (.int .i64 x)
      rw [ins_cells x s (by omega)] at h3
      simp only [Nat.zero_add]
      have hd : W.grownBy ((W.alloc (.cells #[.int .i64 x] 3)).drew) (some b) := ⟨rfl, rfl, rfl, hba.size, fun k hk _ => hba.block k hk⟩
      exact ⟨_, _, rfl, h3, (hd.trans h2).trans h4, .inl rfl⟩
    · obtain rfl : i = n := by omega
      have hC := Go.Proofs.Any2.slices_Insert_int_end_room ins_lays b 0 i c W.heap.size 0 1 1 [.int .i64 x] (W.alloc (.cells #[.int .i64 x] 3)) (by omega) hroom hcmax rfl
        (fun j hj => by
          obtain rfl : j = 0 := by omega
          rw [Nat.zero_add, Nat.add_zero, hs.cellAt i (by omega), List.getElem?_eq_getElem (by rw [List.length_append, hcl]; simp)]; rfl)
        (fun j _ => by rw [Nat.zero_add]; exact hoA.frozenAt _) hvs h1v
      refine hC.mono ?_
      rintro e w' ⟨rfl, rfl⟩
      obtain ⟨h3, h4⟩ := hs.stored i (.int .i64 x)
      have he : (intCells R ++ [s]).set i (.int .i64 x) = intCells (insAt R i x) := by
        rw [List.set_append_right _ _ (by omega), hcl, Nat.sub_self, insAt, List.drop_of_length_le (by omega), List.take_of_length_le (by omega), intCells_append]
        rfl
      rw [he] at h3
      simp only [Nat.zero_add]
      exact ⟨_, _, rfl, h3, (below_grown hba (some b)).trans h4, .inl rfl⟩
  · -- a new row
    have hgc := grownCap_ge (W.alloc (.cells #[.int .i64 x] 3)) (n + 1) c 3
    have hgm := grownCap_le_maxLen (W.alloc (.cells #[.int .i64 x] 3)) (n + 1) c 3 (by unfold maxLen; omega)
    by_cases hin : i < n
    · obtain ⟨b, rfl, hb, _⟩ := own_at ho (by omega)
      have hC := Go.Proofs.Any2.slices_Insert_int_grow ins_lays b 0 n c i W.heap.size 0 1 1 (intCells R) [.int .i64 x] (W.alloc (.cells #[.int .i64 x] 3)) hin (by omega) hnc (by omega) (by omega) hcl rfl
        (fun j v hv => by
          rw [Nat.zero_add]
          have hj := (List.getElem?_eq_some_iff.1 hv).1
          rw [hoA.cellAt j (by omega)]; exact hv) hvs (intCells_one R) h1v
      refine hC.mono ?_
      rintro e w' ⟨rfl, rfl⟩
      have ht3 : ins_ren.t 3 = 3 := rfl
      simp only [ht3]
      generalize grownCap (W.alloc (.cells #[.int .i64 x] 3)) (n + 1) c 3 = cap at hgc hgm
      obtain ⟨cur, hcur, hcs, hct⟩ : ∃ cur : Array Value, ((intCells R).take i).toArray ++ Builtin.zeroCells (Value.int .i64 0).cells (n + 1 - i) ++ Builtin.zeroCells (Value.int .i64 0).cells (cap - (n + 1)) = cur ∧ cur.size = cap ∧ cur.toList.take i = (intCells R).take i := by
        refine ⟨_, rfl, ?_, ?_⟩
        · have hone : (Value.int .i64 0).cells.size = 1 := rfl
          rw [Array.size_append, Array.size_append, size_zeroCells, size_zeroCells, hone, List.size_toArray, List.length_take, hcl]
          omega
        · rw [Array.toList_append, Array.toList_append, List.append_assoc, List.take_append_of_le_length (by rw [List.length_take, hcl]; omega), List.take_of_length_le (by rw [List.length_take, hcl]; omega)]
      have hof := own_fresh (W := W.alloc (.cells #[.int .i64 x] 3)) (base := base) (k := n + 1) (e := 3) (by rw [hz]; omega) hgc hgm hcs
      obtain ⟨h3, h4⟩ := hof.drew.stored i (.int .i64 x)
      obtain ⟨h5, h6⟩ := own_setCells ((intCells R).drop i) (i + 1) _ _ h3.drew (by rw [List.length_drop, List.length_set, List.length_take, hcl, Array.length_toList]; omega)
      have hcont : (((cur.toList.take (n + 1)).set i (.int .i64 x)).take (i + 1) ++ (intCells R).drop i) = intCells (insAt R i x) := by
        rw [List.take_succ_eq_append_getElem (by rw [List.length_set, List.length_take, Array.length_toList]; omega), List.take_set_of_le (Nat.le_refl i), List.take_take, Nat.min_eq_left (by omega), hct, insAt, intCells_append, intCells_take, List.append_assoc]
        congr 1
        rw [List.getElem_set_self]
        show _ = intCells (x :: R.drop i)
        rw [show intCells (x :: R.drop i) = Value.int .i64 x :: intCells (R.drop i) from rfl, intCells_drop]
        rfl
      rw [hcont] at h5
      have hd : W.grownBy (((W.alloc (.cells #[.int .i64 x] 3)).alloc (.cells cur 3)).drew) (some (W.alloc (.cells #[.int .i64 x] 3)).heap.size) := ⟨rfl, rfl, rfl, by simp; omega, fun k hk _ => by
        have h1 := (below_alloc (W.alloc (.cells #[.int .i64 x] 3)) (.cells cur 3)).block k (by omega)
        exact h1.trans (hba.block k hk)⟩
      have h4' := hd.trans h4
      have h6' : W.grownBy _ _ := World.grownBy.trans (show W.grownBy ((((W.alloc (.cells #[.int .i64 x] 3)).alloc (.cells cur 3)).drew.setCell ⟨(W.alloc (.cells #[.int .i64 x] 3)).heap.size, i, none⟩ (.int .i64 x)).drew) _ from ⟨h4'.os, h4'.tape, h4'.output, h4'.size, h4'.block⟩) h6
      rw [hcur]
      refine ⟨_, _, rfl, h5, ⟨h6'.os, h6'.tape, h6'.output, h6'.size, fun k hk _ => h6'.block k hk (fun e => by have h9 : k = (W.alloc (.cells #[.int .i64 x] 3)).heap.size := Option.some.inj e; rw [hz] at h9; omega)⟩, .inr ⟨_, rfl, by show W.heap.size ≤ (W.alloc (.cells #[.int .i64 x] 3)).heap.size; omega⟩⟩
    · obtain rfl : i = n := by omega
      have hC := Go.Proofs.Any2.slices_Insert_int_end_grow ins_lays A i c W.heap.size 0 1 1 (intCells R) [.int .i64 x] (W.alloc (.cells #[.int .i64 x] 3)) (by omega) hnc (by omega) (by omega) hcl rfl
        (fun h => by subst h; exact own_none ho)
        (fun a ha j v hv => by
          subst ha
          have hj := (List.getElem?_eq_some_iff.1 hv).1
          obtain ⟨g, hg, hlt, _, hcell⟩ := own_at hoA (by omega)
          obtain rfl : a = ⟨g, 0, none⟩ := by simpa using hg
          exact hcell j v hv) hvs h1v
      refine hC.mono ?_
      rintro e w' ⟨rfl, rfl⟩
      have ht3 : ins_ren.t 3 = 3 := rfl
      simp only [ht3]
      generalize grownCap (W.alloc (.cells #[.int .i64 x] 3)) (i + 1) c 3 = cap at hgc hgm
      obtain ⟨cur, hcur, hcs, hct⟩ : ∃ cur : Array Value, (intCells R ++ [Value.int .i64 x]).toArray ++ Builtin.zeroCells (Value.int .i64 0).cells (cap - (i + 1)) = cur ∧ cur.size = cap ∧ cur.toList.take (i + 1) = intCells R ++ [Value.int .i64 x] := by
        refine ⟨_, rfl, ?_, ?_⟩
        · have hone : (Value.int .i64 0).cells.size = 1 := rfl
          rw [Array.size_append, size_zeroCells, hone, List.size_toArray, List.length_append, hcl, List.length_singleton]
          omega
        · rw [Array.toList_append, List.take_append_of_le_length (by simp [hcl]), List.take_of_length_le (by simp [hcl])]
      rw [hcur]
      have hof := own_fresh (W := (W.alloc (.cells #[.int .i64 x] 3)).drew) (base := base) (k := i + 1) (e := 3) (cur := cur) (by show base ≤ (W.alloc (.cells #[.int .i64 x] 3)).heap.size; omega) hgc hgm hcs
      have hcont : intCells R ++ [Value.int .i64 x] = intCells (insAt R i x) := by
        rw [insAt, List.drop_of_length_le (by omega), List.take_of_length_le (by omega), intCells_append]
        rfl
      rw [hct, hcont] at hof
      exact ⟨_, _, rfl, hof, ⟨rfl, rfl, rfl, by simp; omega, fun k hk _ => ((below_alloc (W.alloc (.cells #[.int .i64 x] 3)).drew (.cells cur 3)).block k (by show k < (W.alloc (.cells #[.int .i64 x] 3)).heap.size; omega)).trans (hba.block k hk)⟩, .inr ⟨_, rfl, by show W.heap.size ≤ (W.alloc (.cells #[.int .i64 x] 3)).heap.size; omega⟩⟩

theorem down_calls (v : Value) (a b : Int) (w : World) (h1 : -9223372036854775808 ≤ b - a) (h2 : b - a ≤ 9223372036854775807) :
    Calls Try.prog 27 #[v, .int .i64 a, .int .i64 b] w fun e w' => e = .returned (.int .i64 (b - a)) ∧ w' = w := by
  go_enter Try.func27, Try.ntmps27
  go_wp2_with fail
  go_ret
  exact ⟨rfl, rfl⟩

/-- How many stand ahead of x. -/
def ahead (R : List Int) (x : Int) : Nat := R.countP fun y => decide (x < y)

theorem ahead_at {R : List Int} {x : Int} : ∀ {i : Nat}, i ≤ R.length → (∀ t, t < i → x < R.getD t 0) → (∀ t, i ≤ t → t < R.length → ¬ x < R.getD t 0) → ahead R x = i := by
  induction R with
  | nil => intro i hi _ _; simp at hi; subst hi; rfl
  | cons y R ih =>
    intro i hi h1 h2
    cases i with
    | zero =>
      have h0 := h2 0 (Nat.le_refl _) (by simp)
      have := ih (i := 0) (Nat.zero_le _) (fun t ht => by omega) (fun t _ ht => h2 (t + 1) (by omega) (by simp; omega))
      unfold ahead at *
      rw [List.countP_cons, this, if_neg (by simpa using h0)]
    | succ i =>
      have h0 := h1 0 (by omega)
      have := ih (i := i) (by simp at hi; omega) (fun t ht => h1 (t + 1) (by omega)) (fun t h3 h4 => h2 (t + 1) (by omega) (by simp; omega))
      unfold ahead at *
      rw [List.countP_cons, this, if_pos (by simpa using h0)]

set_option maxHeartbeats 2000000 in
theorem search_calls (v : Value) (A : Option Addr) (n c base : Nat) (R : List Int) (x : Int) (w : World) (ho : w.ownsRow base 3 1 (.slice A n c) n (intCells R)) (hR : R.length = n) (hs : R.Pairwise (· > ·)) (hb : ∀ y ∈ R, 0 ≤ y ∧ y < 4096) (hx : 0 ≤ x ∧ x < 4096) (hn : n ≤ 4096) :
    Calls Try.prog 26 #[.slice A n c, .int .i64 x, .func (.func 27) #[v] #[]] w fun e w' => w' = w ∧ ∃ u : Value, e = .returned (.tuple #[.int .i64 ((ahead R x : Nat) : Int), u]) := by
  have HO := Lib.hid ho
  have HR := Lib.hid hR
  have HS : Hid (∀ i j, i ≤ j → j < n → x < R.getD j 0 → x < R.getD i 0) := by
    intro i j hij hj h
    by_cases e : i = j
    · subst e; exact h
    · have := List.pairwise_iff_getElem.1 hs i j (by omega) (by omega) (by omega)
      rw [List.getD_eq_getElem?_getD, List.getElem?_eq_getElem (by omega), Option.getD_some] at h ⊢
      omega
  have HBB : Hid (∀ t, t < n → 0 ≤ R.getD t 0 ∧ R.getD t 0 < 4096) := by
    intro t ht
    rw [List.getD_eq_getElem?_getD, List.getElem?_eq_getElem (by omega), Option.getD_some]
    exact hb _ (List.getElem_mem _)
  have HD := Lib.hid (fun (y : Int) (h1 : 0 ≤ y) (h2 : y < 4096) => down_calls v y x w (by omega) (by omega))
  have HC : Hid (∀ t, t < n → ∃ g, A = some ⟨g, 0, none⟩ ∧ w.cell? ⟨g, t, none⟩ = some (.int .i64 (R.getD t 0))) := by
    intro t ht
    obtain ⟨g, rfl, _, _, hc⟩ := own_at ho (by omega)
    refine ⟨g, rfl, ?_⟩
    have := hc t (.int .i64 (R.getD t 0)) (by simp [intCells, List.getD_eq_getElem?_getD, show t < R.length by omega])
    rwa [add_plain] at this
  clear ho hR hs hb
  go_enter Try.func26, Try.ntmps26
  go_wp2_with fail
  go_loopg [9, 10] n (fun gk v9 v10 wr => ∃ lo hi : Nat, v9 = .int .i64 lo ∧ v10 = .int .i64 hi ∧ lo ≤ hi ∧ hi ≤ n ∧ hi - lo ≤ gk ∧ wr = w ∧ Hid ((∀ t, t < lo → x < R.getD t 0) ∧ (∀ t, hi ≤ t → t < n → R.getD t 0 ≤ x)))
  case atStart => exact ⟨0, n, rfl, rfl, Nat.zero_le _, Nat.le_refl _, by omega, rfl, fun t ht => by omega, fun t h1 h2 => by omega⟩
  case round =>
    obtain ⟨lo, hi, rfl, rfl, hlh, hin, hg, rfl, HI⟩ := hrel
    by_cases hlt : lo < hi
    · obtain ⟨g, rfl, hc⟩ := HC.out ((lo + hi) / 2) (by omega)
      obtain ⟨y1, y2⟩ := HBB.out ((lo + hi) / 2) (by omega)
      have HMO := Lib.hid (HS.out)
      obtain ⟨y, hy⟩ : ∃ y, R.getD ((lo + hi) / 2) 0 = y := ⟨_, rfl⟩
      rw [hy] at hc y1 y2
      have hd := HD.out y y1 y2
      have HY := Lib.hid hy
      clear hy
      by_cases hyx : x - y < 0
      · go_wp2_with (go_at_call 27; refine hd.mono ?_; rintro e w' ⟨rfl, rfl⟩)
        go_roundg (hi - ((lo + hi) / 2 + 1))
        case measure => omega
        case rel => exact ⟨(lo + hi) / 2 + 1, hi, by rw [show ((lo : Int) + (hi : Int)) / 2 + 1 = (((lo + hi) / 2 + 1 : Nat) : Int) by omega], rfl, by omega, hin, Nat.le_refl _, rfl, fun t ht => HMO.out t ((lo + hi) / 2) (by omega) (by omega) (by rw [HY.out]; omega), HI.out.2⟩
      · go_wp2_with (go_at_call 27; refine hd.mono ?_; rintro e w' ⟨rfl, rfl⟩)
        go_roundg ((lo + hi) / 2 - lo)
        case measure => omega
        case rel => exact ⟨lo, (lo + hi) / 2, rfl, by rw [show ((lo : Int) + (hi : Int)) / 2 = (((lo + hi) / 2 : Nat) : Int) by omega], by omega, by omega, Nat.le_refl _, rfl, HI.out.1, fun t ht htn => Int.not_lt.1 fun h => by have := HMO.out ((lo + hi) / 2) t ht htn h; rw [HY.out] at this; omega⟩
    · obtain rfl : hi = lo := by omega
      have HA : Hid (ahead R x = hi) := ahead_at (by have := HR.out; omega) HI.out.1 (fun t h1 h2 => Int.not_lt.2 (HI.out.2 t h1 (by have := HR.out; omega)))
      by_cases hn' : hi < n
      · obtain ⟨g, rfl, hc⟩ := HC.out hi hn'
        obtain ⟨y1, y2⟩ := HBB.out hi hn'
        obtain ⟨y, hy⟩ : ∃ y, R.getD hi 0 = y := ⟨_, rfl⟩
        rw [hy] at hc y1 y2
        have hd := HD.out y y1 y2
        clear hy
        have hnI : (hi : Int) < (n : Int) := by omega
        go_wp2_with (go_at_call 27; refine hd.mono ?_; rintro e w' ⟨rfl, rfl⟩)
        all_goals
          go_ret2
          rw [HA.out]
          exact ⟨rfl, _, rfl⟩
      · have hnI : ¬ (hi : Int) < (n : Int) := by omega
        go_wp2_with fail
        go_ret2
        rw [HA.out]
        exact ⟨rfl, _, rfl⟩
end Go.Proofs.Yteonpfomlmfkjaa
