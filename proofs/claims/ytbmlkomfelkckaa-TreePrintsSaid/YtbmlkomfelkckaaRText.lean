/- siglumref20.text: a part's text. -/
import Derived.Test.YtbmlkomfelkckaaNText
namespace Go.Proofs.Ytbmlkomfelkckaa
open Go Go.RowKit
set_option maxRecDepth 100000

set_option maxHeartbeats 4000000 in
theorem rtext_calls (n c : Nat) (bs : List Br) (A : Option Addr) (hok : RawOk n bs) (A2 : Option Addr) (n2 c2 : Nat) (ns : List ByteArray) (hn2 : ns.length = n2) (h8 : ∀ k, (nameAt ns k).size ≤ 8) (_hcap : n2 ≤ 9223372036854775807) : ∀ (i : Nat) (w : World), i < n → RdBr w A bs → RdStr w A2 ns → (∀ k ∈ (rawAt bs i).leaves, k < ns.length) → (rawAt bs i).size ≤ 10000 →
    Calls Try.prog 72 #[.agg #[.slice A n c], .int .i64 (i : Int), .slice A2 n2 c2] w fun e w' => e = .returned (.string (textOf ns (rawAt bs i))) ∧ Below w.heap.size w w' := by
  intro i
  induction i using Nat.strongRecOn with
  | ind i ih =>
    intro w hin hr hs hk hsz
    have HR := Lib.hid hr
    have HIH := Lib.hid ih
    have HOK := Lib.hid hok
    have hlen := hok.len
    obtain ⟨x, hx⟩ : ∃ x, bs[i]? = some x := ⟨_, List.getElem?_eq_getElem (by omega)⟩
    have hcase := hok.at hx
    have HS := Lib.hid hs
    have HK := Lib.hid hk
    have HZ := Lib.hid hsz
    have HN2 := Lib.hid hn2
    obtain ⟨ad, rfl, d0, d1, d2⟩ := hr i x hx
    have hlt := World.block_lt_of_cell? w _ d0
    have hnI : n ≤ 9223372036854775807 := by have := hok.few; omega
    have hinI : (i : Int) < (n : Int) := by omega
    clear hr ih hok hlen hx hs hk hsz hn2
    go_enter Try.func72, Try.ntmps72
    go_wp2_with fail
    have hb0 := below_alloc w (.cells #[.slice (some ad) n c] 26)
    have hb1 := below_alloc (w.alloc (.cells #[.slice (some ad) n c] 26)) (.cells #[.int .i64 x.leaf, .int .i64 x.a, .int .i64 x.b] 64)
    have c0 := cell_below hb1 (by simp) (new_cell w #[.slice (some ad) n c] 26 0)
    have q0 := new_cell (w.alloc (.cells #[.slice (some ad) n c] 26)) #[.int .i64 x.leaf, .int .i64 x.a, .int .i64 x.b] 64 0
    have q1 := new_cell (w.alloc (.cells #[.slice (some ad) n c] 26)) #[.int .i64 x.leaf, .int .i64 x.a, .int .i64 x.b] 64 1
    have q2 := new_cell (w.alloc (.cells #[.slice (some ad) n c] 26)) #[.int .i64 x.leaf, .int .i64 x.a, .int .i64 x.b] 64 2
    have hz : w.heap.size + 1 < ((w.alloc (.cells #[.slice (some ad) n c] 26)).alloc (.cells #[.int .i64 x.leaf, .int .i64 x.a, .int .i64 x.b] 64)).heap.size := by simp
    have HB := Lib.hid (Below.then hb0 hb0.size hb1)
    rw [World.size_alloc] at q0 q1 q2
    generalize (w.alloc (.cells #[.slice (some ad) n c] 26)).alloc (.cells #[.int .i64 x.leaf, .int .i64 x.a, .int .i64 x.b] 64) = W2 at *
    clear hb0 hb1 d0 d1 d2
    refine (leaf_calls x W2).mono ?_
    rintro e w5 ⟨hle, hb5⟩
    have c0 := cell_below hb5 (by omega) c0
    have q0 := cell_below hb5 hz q0
    have q1 := cell_below hb5 hz q1
    have q2 := cell_below hb5 hz q2
    have hz5 := Nat.lt_of_lt_of_le hz hb5.size
    have HB5 := Lib.hid (Below.then HB.out HB.out.size hb5)
    clear hb5
    rcases hcase with ⟨h1, h2, h3, h4⟩ | ⟨h0, p0, p1, p2, p3, h4⟩
    · have t1 : (x.a == 0 && x.b == 0) = true := by rw [h1, h2]; rfl
      rw [t1] at hle
      subst hle
      have HV : Hid (rawAt bs i = .leaf x.leaf.toNat) := h4
      have hkl : x.leaf.toNat < ns.length := HK.out _ (by rw [h4]; simp [NT.leaves])
      obtain ⟨ad2, rfl, s0⟩ := rdStr_at (HS.out.below HB5.out) hkl
      rw [HN2.out] at hkl
      have l1 : x.leaf < (n2 : Int) := by omega
      have l0 : 0 ≤ x.leaf := h3
      clear h1 h2 h4 t1 h3 hkl
      go_wp2_with fail
      go_ret
      rw [HV.out]
      exact ⟨rfl, HB5.out⟩
    · have t1 : (x.a == 0 && x.b == 0) = false := by
        rw [Bool.and_eq_false_iff, beq_eq_false_iff_ne, beq_eq_false_iff_ne]
        omega
      rw [t1] at hle
      subst hle
      have HV : Hid (rawAt bs i = .fork (rawAt bs x.a.toNat) (rawAt bs x.b.toNat)) := h4
      have hz1 := HZ.out
      rw [h4] at hz1
      simp only [NT.size] at hz1
      have HX : Hid (∀ W : World, Below w5.heap.size w5 W → Calls Try.prog 72 #[.agg #[.slice (some ad) n c], .int .i64 x.a, .slice A2 n2 c2] W fun e w' => e = .returned (.string (textOf ns (rawAt bs x.a.toNat))) ∧ Below W.heap.size W w') := by
        refine Lib.hid ?_
        intro W hb
        have hb' := Below.then HB5.out HB5.out.size hb
        have := HIH.out x.a.toNat (by omega) W (by omega) (HR.out.below hb') (HS.out.below hb') (fun k h => HK.out k (by rw [h4]; simp [NT.leaves, h])) (by omega)
        rwa [Int.toNat_of_nonneg p0] at this
      have HY : Hid (∀ W : World, Below w5.heap.size w5 W → Calls Try.prog 72 #[.agg #[.slice (some ad) n c], .int .i64 x.b, .slice A2 n2 c2] W fun e w' => e = .returned (.string (textOf ns (rawAt bs x.b.toNat))) ∧ Below W.heap.size W w') := by
        refine Lib.hid ?_
        intro W hb
        have hb' := Below.then HB5.out HB5.out.size hb
        have := HIH.out x.b.toNat (by omega) W (by omega) (HR.out.below hb') (HS.out.below hb') (fun k h => HK.out k (by rw [h4]; simp [NT.leaves, h])) (by omega)
        rwa [Int.toNat_of_nonneg p2] at this
      have zx := textOf_size h8 (rawAt bs x.a.toNat)
      have zy := textOf_size h8 (rawAt bs x.b.toNat)
      have hsum := fun W => text_sums Try.prog (textOf ns (rawAt bs x.a.toNat)) (textOf ns (rawAt bs x.b.toNat)) (by omega) (by omega) W
      have HT : Hid (textOf ns (rawAt bs i) = (⟨#[40]⟩ : ByteArray) ++ textOf ns (rawAt bs x.a.toNat) ++ ⟨#[44]⟩ ++ textOf ns (rawAt bs x.b.toNat) ++ ⟨#[41]⟩) := by show textOf ns (rawAt bs i) = _; rw [h4]; rfl
      clear zx zy hz1
      generalize textOf ns (rawAt bs x.a.toNat) = tx at *
      generalize textOf ns (rawAt bs x.b.toNat) = ty at *
      have s1 := fun W => (hsum W).1
      have s2 := fun W => (hsum W).2.1
      have s3 := fun W => (hsum W).2.2.1
      have s4 := fun W => (hsum W).2.2.2
      clear h0 h4 t1 HIH hsum
      have hz4 : w.heap.size < w5.heap.size := by omega
      go_wp2_with fail
      go_region_held3 (fun w' => w'.cell? ⟨w.heap.size, 0, none⟩ = some (.slice (some ad) n c) ∧ w'.cell? ⟨w.heap.size + 1, 1, none⟩ = some (.int .i64 x.a) ∧ w'.cell? ⟨w.heap.size + 1, 2, none⟩ = some (.int .i64 x.b) ∧ Below w5.heap.size w5 w')
        (first
          | exact ⟨c0, q1, q2, below_drewN w5 1⟩
          | (go_split_ands; exact held_next hz4 hz5 (by assumption) (by assumption) (by assumption) (by assumption) hup))
        (first
          | (go_at_call 72; go_split_ands; have hb1 := hb
             refine (HY.out _ (by assumption)).mono ?_; rintro e w' ⟨rfl, hb⟩; have hup := hb.mono (Below.size (by assumption : Below w5.heap.size w5 _)))
          | (go_at_call 72; go_split_ands
             refine (HX.out _ (by assumption)).mono ?_; rintro e w' ⟨rfl, hb⟩; have hup := hb.mono (Below.size (by assumption : Below w5.heap.size w5 _))))
      go_split_ands
      go_wp2_with fail
      go_ret
      rw [HT.out]
      exact ⟨rfl, Below.then HB5.out HB5.out.size (by assumption)⟩
end Go.Proofs.Ytbmlkomfelkckaa
