/- siglumref20.Below, least: the leaves below a branch, and the least of them. -/
import Derived.Test.YtbmlkomfelkckaaRawP
import Derived.Test.YtbmlkomfelkckaaAppRow
import Derived.Test.YtbmlkomfelkckaaMat
import Derived.Test.YtbmlkomfelkckaaLeaf
import Derived.Test.YtbmlkomfelkckaaFitSpec
import Derived.Deep.RegionHeld3
namespace Go.Proofs.Ytbmlkomfelkckaa
open Go Go.RowKit
set_option maxRecDepth 100000

theorem info_intB : (Try.prog.info? 3).map (fun i => (i.zero, i.size, i.bytes)) = some (some (.int .i64 0), 1, 8) := by kernel_rfl

/-- A list of leaves as cells. -/
def leafCells (l : List Nat) : List Value := l.map fun k : Nat => .int .i64 (k : Int)

theorem leafCells_one (l : List Nat) : ∀ u ∈ leafCells l, u.oneCell' = true := by
  intro u hu
  obtain ⟨k, _, rfl⟩ := List.mem_map.1 hu
  rfl

/-- What a call that makes a list of leaves leaves. -/
def RetLeaves (w : World) (l : List Nat) (e : Ending) (w' : World) : Prop :=
  ∃ A c, e = .returned (.slice A l.length c) ∧ w'.ownsRow w.heap.size 3 1 (.slice A l.length c) l.length (leafCells l) ∧ Below w.heap.size w w'

/-- What is told of a list of branches that is a tree. -/
structure RawOk (n : Nat) (bs : List Br) : Prop where
  len : bs.length = n
  few : n ≤ 23
  ok : BrOk (n : Int) bs
  size : ∀ i, i < n → (rawAt bs i).size + 1 ≤ 2 ^ (i + 1)

theorem RawOk.small {n : Nat} {bs : List Br} (h : RawOk n bs) {i : Nat} (hi : i < n) : (rawAt bs i).leaves.length ≤ 8388608 ∧ (rawAt bs i).size ≤ 8388608 := by
  have h1 := h.size i hi
  have h2 : 2 ^ (i + 1) ≤ 2 ^ 23 := Nat.pow_le_pow_right (by decide) (by have := h.few; omega)
  have h3 : (2 : Nat) ^ 23 = 8388608 := rfl
  have h4 := size_leaves (rawAt bs i)
  omega

theorem RawOk.at {n : Nat} {bs : List Br} (h : RawOk n bs) {i : Nat} {b : Br} (hb : bs[i]? = some b) :
    (b.a = 0 ∧ b.b = 0 ∧ 0 ≤ b.leaf ∧ rawAt bs i = .leaf b.leaf.toNat) ∨ (¬ (b.a = 0 ∧ b.b = 0) ∧ 0 ≤ b.a ∧ b.a < i ∧ 0 ≤ b.b ∧ b.b < i ∧ rawAt bs i = .fork (rawAt bs b.a.toNat) (rawAt bs b.b.toNat)) := by
  have ho := h.ok i b hb
  have hk : ¬ (b.a = 0 ∧ b.b = 0) → b.a.toNat < i ∧ b.b.toNat < i := by
    intro q
    rcases ho with ho | ho
    · exact absurd ⟨ho.1, ho.2.1⟩ q
    · omega
  have he := rawAt_eq hb hk
  by_cases hc : b.a = 0 ∧ b.b = 0
  · rw [if_pos hc] at he
    rcases ho with ho | ho
    · exact .inl ⟨hc.1, hc.2, ho.2.2.1, he⟩
    · exact absurd (hc.1.trans hc.2.symm) ho.2.1
  · rw [if_neg hc] at he
    rcases ho with ho | ho
    · exact absurd ⟨ho.1, ho.2.1⟩ hc
    · exact .inr ⟨hc, ho.2.2.1, ho.2.2.2.1, ho.2.2.2.2.1, ho.2.2.2.2.2, he⟩

theorem rawOk_of {leaves : Int} {bs : List Br} {T : NT} (h : rdRoot leaves bs = some T) : RawOk bs.length bs := by
  obtain ⟨l, h1, _⟩ := Option.map_eq_some_iff.1 h
  obtain ⟨h2, h3, h4, _⟩ := rdTree_some h1
  have hok := brOk_of (leaves := leaves) (bs := bs) (by rw [h1]; rfl)
  refine ⟨rfl, by omega, fun i b hb => ?_, fun i hi => (rawAt_root h).2 i hi⟩
  rcases hok i b hb with q | q
  · exact .inl ⟨q.1, q.2.1, q.2.2.1, by omega⟩
  · exact .inr q

theorem own_base_le {w : World} {base n c : Nat} {e : TypeId} {size : Nat} {A : Option Addr} {l : List Nat} (h : w.ownsRow base e size (.slice A n c) n (leafCells l)) (hn : 0 < n) : base ≤ w.heap.size := by
  obtain ⟨g, _, h1, h2, _⟩ := own_at h hn
  omega

theorem held_next {w5 W w' : World} {b1 b2 : Nat} {v0 v1 v2 : Value} (z1 : b1 < w5.heap.size) (z2 : b2 < w5.heap.size) (h1 : W.cell? ⟨b1, 0, none⟩ = some v0) (h2 : W.cell? ⟨b2, 1, none⟩ = some v1) (h3 : W.cell? ⟨b2, 2, none⟩ = some v2) (hb : Below w5.heap.size w5 W) (k : Below w5.heap.size W w') :
    w'.cell? ⟨b1, 0, none⟩ = some v0 ∧ w'.cell? ⟨b2, 1, none⟩ = some v1 ∧ w'.cell? ⟨b2, 2, none⟩ = some v2 ∧ Below w5.heap.size w5 w' :=
  ⟨cell_below k z1 h1, cell_below k z2 h2, cell_below k z2 h3, hb.trans k⟩

set_option maxHeartbeats 4000000 in
theorem below_calls (n c : Nat) (bs : List Br) (A : Option Addr) (hok : RawOk n bs) : ∀ (i : Nat) (w : World), i < n → RdBr w A bs →
    Calls Try.prog 87 #[.agg #[.slice A n c], .int .i64 (i : Int)] w (RetLeaves w (rawAt bs i).leaves) := by
  intro i
  induction i using Nat.strongRecOn with
  | ind i ih =>
    intro w hin hr
    have HR := Lib.hid hr
    have HIH := Lib.hid ih
    have HOK := Lib.hid hok
    have hlen := hok.len
    obtain ⟨x, hx⟩ : ∃ x, bs[i]? = some x := ⟨_, List.getElem?_eq_getElem (by omega)⟩
    have hcase := hok.at hx
    have hsm := hok.small hin
    obtain ⟨ad, rfl, d0, d1, d2⟩ := hr i x hx
    have hlt := World.block_lt_of_cell? w _ d0
    have hnI : n ≤ 9223372036854775807 := by have := hok.few; omega
    have hinI : (i : Int) < (n : Int) := by omega
    clear hr ih hok hlen hx
    go_enter Try.func87, Try.ntmps87
    go_wp2_with fail
    have hb0 := below_alloc w (.cells #[.slice (some ad) n c] 26)
    have hb1 := below_alloc (w.alloc (.cells #[.slice (some ad) n c] 26)) (.cells #[.int .i64 x.leaf, .int .i64 x.a, .int .i64 x.b] 64)
    have c0 := cell_below hb1 (by simp) (new_cell w #[.slice (some ad) n c] 26 0)
    have q0 := new_cell (w.alloc (.cells #[.slice (some ad) n c] 26)) #[.int .i64 x.leaf, .int .i64 x.a, .int .i64 x.b] 64 0
    have q1 := new_cell (w.alloc (.cells #[.slice (some ad) n c] 26)) #[.int .i64 x.leaf, .int .i64 x.a, .int .i64 x.b] 64 1
    have q2 := new_cell (w.alloc (.cells #[.slice (some ad) n c] 26)) #[.int .i64 x.leaf, .int .i64 x.a, .int .i64 x.b] 64 2
    have hz : w.heap.size + 1 < ((w.alloc (.cells #[.slice (some ad) n c] 26)).alloc (.cells #[.int .i64 x.leaf, .int .i64 x.a, .int .i64 x.b] 64)).heap.size := by simp
    have HB := Lib.hid (Below.then hb0 hb0.size hb1)
    rw [World.size_alloc] at q0 q1 q2
    generalize (w.alloc (.cells #[.slice (some ad) n c] 26)).alloc (.cells #[.int .i64 x.leaf, .int .i64 x.a, .int .i64 x.b] 64) = W2 at *
    clear hb0 hb1 d0 d1 d2
    refine (leaf_calls x W2).mono ?_
    rintro e w5 ⟨hle, hb5⟩
    have c0 := cell_below hb5 (by omega) c0
    have q0 := cell_below hb5 hz q0
    have q1 := cell_below hb5 hz q1
    have q2 := cell_below hb5 hz q2
    have hz5 := Nat.lt_of_lt_of_le hz hb5.size
    have HB5 := Lib.hid (Below.then HB.out HB.out.size hb5)
    clear hb5
    rcases hcase with ⟨h1, h2, h3, h4⟩ | ⟨h0, p0, p1, p2, p3, h4⟩
    · have t1 : (x.a == 0 && x.b == 0) = true := by rw [h1, h2]; rfl
      rw [t1] at hle
      subst hle
      have HV : Hid ((rawAt bs i).leaves = [x.leaf.toNat]) := by show (rawAt bs i).leaves = _; rw [h4]; rfl
      have HLF : Hid (x.leaf = ((x.leaf.toNat : Nat) : Int)) := by show x.leaf = _; omega
      clear h1 h2 h4 t1
      go_wp2_with fail
      go_ret
      rw [HV.out]
      refine ⟨_, _, rfl, ?_, Below.then HB5.out HB5.out.size (below_alloc _ _)⟩
      have := own_new w5 #[.int .i64 x.leaf] 3 1 1 w.heap.size HB5.out.size rfl (by omega)
      rw [HLF.out] at this ⊢
      exact this
    · have t1 : (x.a == 0 && x.b == 0) = false := by
        rw [Bool.and_eq_false_iff, beq_eq_false_iff_ne, beq_eq_false_iff_ne]
        omega
      rw [t1] at hle
      subst hle
      have HV : Hid ((rawAt bs i).leaves = (rawAt bs x.a.toNat).leaves ++ (rawAt bs x.b.toNat).leaves) := by show (rawAt bs i).leaves = _; rw [h4]; rfl
      have HG : Hid (∀ (z : Int) (W : World), (z = x.a ∨ z = x.b) → RdBr W (some ad) bs → Calls Try.prog 87 #[.agg #[.slice (some ad) n c], .int .i64 z] W (RetLeaves W (rawAt bs z.toNat).leaves)) := by
        refine Lib.hid ?_
        intro z W hz' hr
        have := HIH.out z.toNat (by omega) W (by omega) hr
        rwa [Int.toNat_of_nonneg (by omega)] at this
      have hs1 := (HOK.out.small (i := x.a.toNat) (by omega)).1
      have hs2 := (HOK.out.small (i := x.b.toNat) (by omega)).1
      have HS := Lib.hid (And.intro hs1 hs2)
      clear h0 h4 t1 HIH hs1 hs2 hsm
      have hz4 : w.heap.size < w5.heap.size := by omega
      go_wp2_with fail
      go_region_held3 (fun w' => w'.cell? ⟨w.heap.size, 0, none⟩ = some (.slice (some ad) n c) ∧ w'.cell? ⟨w.heap.size + 1, 1, none⟩ = some (.int .i64 x.a) ∧ w'.cell? ⟨w.heap.size + 1, 2, none⟩ = some (.int .i64 x.b) ∧ Below w5.heap.size w5 w')
        (first
          | exact ⟨c0, q1, q2, below_drewN w5 1⟩
          | (go_split_ands; exact held_next hz4 hz5 (by assumption) (by assumption) (by assumption) (by assumption) hup))
        (first
          | (go_at_call 87; go_split_ands; have ho1 := ho; have hb1 := hb
             refine (HG.out _ _ (by first | exact .inl rfl | exact .inr rfl) (HR.out.below (Below.then HB5.out HB5.out.size (by assumption)))).mono ?_; rintro e w' ⟨A2, cc2, rfl, ho, hb⟩; have hup := hb.mono (Below.size (by assumption : Below w5.heap.size w5 _)))
          | (go_at_call 87; go_split_ands
             refine (HG.out _ _ (by first | exact .inl rfl | exact .inr rfl) (HR.out.below (Below.then HB5.out HB5.out.size (by assumption)))).mono ?_; rintro e w' ⟨A, cc, rfl, ho, hb⟩; have hup := hb.mono (Below.size (by assumption : Below w5.heap.size w5 _)))
          | (go_split_ands; refine step_appendRow (own_below ho1 hb) ho (List.length_pos_iff.2 (leaves_ne _)) (Nat.le_trans (own_base_le ho1 (List.length_pos_iff.2 (leaves_ne _))) hb.size) (by have := HS.out; omega) 43 Try.underlying43 info_intB ⟨rfl, by decide, by decide⟩ (leafCells_one _) (by exact ⟨rfl, rfl, rfl, rfl⟩) ?_; intro v1 w1 ho2 hu2; have hup := Upd.below (B := w5.heap.size) hu2 (Below.size (w' := _) (by assumption)) (own_base ho1)))
      go_wp2_with fail
      go_ret
      rw [HV.out]
      obtain ⟨A3, c3, rfl, _⟩ := own_slice ho2
      go_split_ands
      have HL : ((rawAt bs x.a.toNat).leaves ++ (rawAt bs x.b.toNat).leaves).length = (rawAt bs x.a.toNat).leaves.length + (rawAt bs x.b.toNat).leaves.length := List.length_append
      rw [RetLeaves, HL, leafCells, List.map_append]
      exact ⟨_, _, rfl, own_mono ho2 HB5.out.size, Below.then HB5.out HB5.out.size (by assumption)⟩
end Go.Proofs.Ytbmlkomfelkckaa
