/- siglumref20.part: a part's form. -/
import Derived.Test.YtbmlkomfelkckaaLeastL
namespace Go.Proofs.Ytbmlkomfelkckaa
open Go Go.RowKit
set_option maxRecDepth 100000

theorem info_brP : (Try.prog.info? 64).map (fun i => (i.zero, i.size, i.bytes)) = some (some (.agg #[.int .i64 0, .int .i64 0, .int .i64 0]), 3, 24) := by kernel_rfl

theorem brs_one (l : List Br) : ∀ u ∈ brs l, u.oneCell' = true := by
  intro u hu
  obtain ⟨b, _, hb⟩ := List.mem_flatMap.1 hu
  simp only [Br.cells, List.mem_cons, List.not_mem_nil, or_false] at hb
  rcases hb with rfl | rfl | rfl <;> rfl

/-- What a call that makes a list of branches leaves. -/
def RetBr (w : World) (l : List Br) (m : Nat) (e : Ending) (w' : World) : Prop :=
  ∃ A c, e = .returned (.slice A m c) ∧ w'.ownsRow w.heap.size 64 3 (.slice A m c) m (brs l) ∧ Below w.heap.size w w'

theorem own_below_le {w : World} {base n c : Nat} {e : TypeId} {size : Nat} {A : Option Addr} {xs : List Value} (h : w.ownsRow base e size (.slice A n c) n xs) (hn : 0 < n) : base ≤ w.heap.size := by
  obtain ⟨g, _, h1, h2, _⟩ := own_at h hn
  omega

set_option maxHeartbeats 4000000 in
theorem part_calls (n c : Nat) (bs : List Br) (A : Option Addr) (hok : RawOk n bs) : ∀ (i base : Nat) (w : World), i < n → base + (rawAt bs i).size ≤ 100000000 → RdBr w A bs →
    Calls Try.prog 85 #[.agg #[.slice A n c], .int .i64 (i : Int), .int .i64 (base : Int)] w (RetBr w ((rawAt bs i).norm.form base) (rawAt bs i).size) := by
  intro i
  induction i using Nat.strongRecOn with
  | ind i ih =>
    intro base w hin hbs hr
    have HR := Lib.hid hr
    have HIH := Lib.hid ih
    have HOK := Lib.hid hok
    have hlen := hok.len
    obtain ⟨x, hx⟩ : ∃ x, bs[i]? = some x := ⟨_, List.getElem?_eq_getElem (by omega)⟩
    have hcase := hok.at hx
    have HBS := Lib.hid hbs
    obtain ⟨ad, rfl, d0, d1, d2⟩ := hr i x hx
    have hlt := World.block_lt_of_cell? w _ d0
    have hnI : n ≤ 9223372036854775807 := by have := hok.few; omega
    have hinI : (i : Int) < (n : Int) := by omega
    have hbI : (base : Int) ≤ 100000000 := by omega
    clear hr ih hok hlen hx hbs
    go_enter Try.func85, Try.ntmps85
    go_wp2_with fail
    have hb0 := below_alloc w (.cells #[.slice (some ad) n c] 26)
    have hb1 := below_alloc (w.alloc (.cells #[.slice (some ad) n c] 26)) (.cells #[.int .i64 x.leaf, .int .i64 x.a, .int .i64 x.b] 64)
    have c0 := cell_below hb1 (by simp) (new_cell w #[.slice (some ad) n c] 26 0)
    have q0 := new_cell (w.alloc (.cells #[.slice (some ad) n c] 26)) #[.int .i64 x.leaf, .int .i64 x.a, .int .i64 x.b] 64 0
    have q1 := new_cell (w.alloc (.cells #[.slice (some ad) n c] 26)) #[.int .i64 x.leaf, .int .i64 x.a, .int .i64 x.b] 64 1
    have q2 := new_cell (w.alloc (.cells #[.slice (some ad) n c] 26)) #[.int .i64 x.leaf, .int .i64 x.a, .int .i64 x.b] 64 2
    have hz : w.heap.size + 1 < ((w.alloc (.cells #[.slice (some ad) n c] 26)).alloc (.cells #[.int .i64 x.leaf, .int .i64 x.a, .int .i64 x.b] 64)).heap.size := by simp
    have HB := Lib.hid (Below.then hb0 hb0.size hb1)
    rw [World.size_alloc] at q0 q1 q2
    generalize (w.alloc (.cells #[.slice (some ad) n c] 26)).alloc (.cells #[.int .i64 x.leaf, .int .i64 x.a, .int .i64 x.b] 64) = W2 at *
    clear hb0 hb1 d0 d1 d2
    refine (leaf_calls x W2).mono ?_
    rintro e w5 ⟨hle, hb5⟩
    have c0 := cell_below hb5 (by omega) c0
    have q0 := cell_below hb5 hz q0
    have q1 := cell_below hb5 hz q1
    have q2 := cell_below hb5 hz q2
    have hz5 := Nat.lt_of_lt_of_le hz hb5.size
    have HB5 := Lib.hid (Below.then HB.out HB.out.size hb5)
    clear hb5
    rcases hcase with ⟨h1, h2, h3, h4⟩ | ⟨h0, p0, p1, p2, p3, h4⟩
    · have t1 : (x.a == 0 && x.b == 0) = true := by rw [h1, h2]; rfl
      rw [t1] at hle
      subst hle
      have HV : Hid ((rawAt bs i).norm.form base = [⟨(x.leaf.toNat : Int), 0, 0⟩]) := by show (rawAt bs i).norm.form base = _; rw [h4]; rfl
      have HSZ : Hid ((rawAt bs i).size = 1) := by show (rawAt bs i).size = _; rw [h4]; rfl
      have HLF : Hid (x.leaf = ((x.leaf.toNat : Nat) : Int)) := by show x.leaf = _; omega
      clear h1 h2 h4 t1
      go_wp2_with fail
      go_ret
      rw [HV.out, HSZ.out]
      refine ⟨_, _, rfl, ?_, Below.then HB5.out HB5.out.size (below_alloc _ _)⟩
      have := own_new w5 #[.int .i64 x.leaf, .int .i64 0, .int .i64 0] 64 3 1 w.heap.size HB5.out.size rfl (by omega)
      rw [HLF.out] at this ⊢
      exact this
    · have t1 : (x.a == 0 && x.b == 0) = false := by
        rw [Bool.and_eq_false_iff, beq_eq_false_iff_ne, beq_eq_false_iff_ne]
        omega
      rw [t1] at hle
      subst hle
      have HG : Hid (∀ (z : Int) (W : World), (z = x.a ∨ z = x.b) → RdBr W (some ad) bs → Calls Try.prog 87 #[.agg #[.slice (some ad) n c], .int .i64 z] W (RetLeaves W (rawAt bs z.toNat).leaves)) := by
        refine Lib.hid ?_
        intro z W hz' hr
        have := below_calls n c bs (some ad) HOK.out z.toNat W (by omega) hr
        rwa [Int.toNat_of_nonneg (by omega)] at this
      have HP : Hid (∀ (z bI : Int) (base : Nat) (W : World), (z = x.a ∨ z = x.b) → bI = (base : Int) → base + (rawAt bs z.toNat).size ≤ 100000000 → RdBr W (some ad) bs → Calls Try.prog 85 #[.agg #[.slice (some ad) n c], .int .i64 z, .int .i64 bI] W (RetBr W ((rawAt bs z.toNat).norm.form base) (rawAt bs z.toNat).size)) := by
        refine Lib.hid ?_
        intro z bI base W hz' hbI hbs' hr
        subst hbI
        have := HIH.out z.toNat (by omega) base W (by omega) hbs' hr
        rwa [Int.toNat_of_nonneg (by omega)] at this
      have HS : Hid (∀ z : Int, (z = x.a ∨ z = x.b) → (rawAt bs z.toNat).leaves.length ≤ 8388608 ∧ (rawAt bs z.toNat).size ≤ 8388608 ∧ 0 < (rawAt bs z.toNat).leaves.length) := by
        refine Lib.hid ?_
        intro z hz'
        have := HOK.out.small (i := z.toNat) (by omega)
        exact ⟨this.1, this.2, List.length_pos_iff.2 (leaves_ne _)⟩
      have HZ : Hid ((rawAt bs i).size = (rawAt bs x.a.toNat).size + (rawAt bs x.b.toNat).size + 1) := by show (rawAt bs i).size = _; rw [h4]; rfl
      have HV : Hid ((rawAt bs i).norm = mkFork (rawAt bs x.a.toNat).norm (rawAt bs x.b.toNat).norm) := by show (rawAt bs i).norm = _; rw [h4]; rfl
      clear h0 h4 t1 HIH
      have hz4 : w.heap.size < w5.heap.size := by omega
      go_wp2_with fail
      go_region_held3 (fun w' => w'.cell? ⟨w.heap.size, 0, none⟩ = some (.slice (some ad) n c) ∧ w'.cell? ⟨w.heap.size + 1, 1, none⟩ = some (.int .i64 x.a) ∧ w'.cell? ⟨w.heap.size + 1, 2, none⟩ = some (.int .i64 x.b) ∧ Below w5.heap.size w5 w')
        (first
          | exact ⟨c0, q1, q2, below_drewN w5 1⟩
          | (go_split_ands; exact ⟨by assumption, by assumption, by assumption, by assumption⟩)
          | (go_split_ands; exact held_next hz4 hz5 (by assumption) (by assumption) (by assumption) (by assumption) hup))
        (first
          | (go_at_call 87; go_split_ands
             refine (HG.out _ _ (by first | exact .inl rfl | exact .inr rfl) (HR.out.below (Below.then HB5.out HB5.out.size (by assumption)))).mono ?_; rintro e w' ⟨A, cc, rfl, ho, hb⟩; have hup := hb.mono (Below.size (by assumption : Below w5.heap.size w5 _)))
          | (go_at_call 112; go_split_ands
             refine (least_calls _ _ _ _ _ (rdInt_leaves ho) rfl (HS.out _ (by first | exact .inl rfl | exact .inr rfl)).2.2 (by have := (HS.out x.a (.inl rfl)).1; have := (HS.out x.b (.inr rfl)).1; omega)).mono ?_; rintro e w' ⟨rfl, rfl⟩))
      go_split_ands
      have d0 : w'.cell? ⟨w.heap.size, 0, none⟩ = some (.slice (some ad) n c) := by assumption
      have d1 : w'.cell? ⟨w.heap.size + 1, 1, none⟩ = some (.int .i64 x.a) := by assumption
      have d2 : w'.cell? ⟨w.heap.size + 1, 2, none⟩ = some (.int .i64 x.b) := by assumption
      have hb6 : Below w5.heap.size w5 w' := by assumption
      have HB6 := Lib.hid (Below.then HB5.out HB5.out.size hb6)
      have hz6 := Nat.lt_of_lt_of_le hz5 hb6.size
      have hpos := NT.size_pos
      have HPA : Hid (0 < (rawAt bs x.a.toNat).size ∧ 0 < (rawAt bs x.b.toNat).size) := ⟨hpos _, hpos _⟩
      clear hb6 hpos
      have hor : (minL (rawAt bs x.b.toNat).leaves < minL (rawAt bs x.a.toNat).leaves ∧ Hid ((rawAt bs i).norm = .fork (rawAt bs x.b.toNat).norm (rawAt bs x.a.toNat).norm ∧ (rawAt bs i).size = (rawAt bs x.b.toNat).size + (rawAt bs x.a.toNat).size + 1)) ∨ (¬ minL (rawAt bs x.b.toNat).leaves < minL (rawAt bs x.a.toNat).leaves ∧ Hid ((rawAt bs i).norm = .fork (rawAt bs x.a.toNat).norm (rawAt bs x.b.toNat).norm ∧ (rawAt bs i).size = (rawAt bs x.a.toNat).size + (rawAt bs x.b.toNat).size + 1)) := by
        have h1 := HV.out
        have h2 := HZ.out
        unfold mkFork at h1
        rw [key_norm, key_norm] at h1
        by_cases hc : minL (rawAt bs x.b.toNat).leaves < minL (rawAt bs x.a.toNat).leaves
        · rw [if_pos hc] at h1
          exact .inl ⟨hc, h1, by omega⟩
        · rw [if_neg hc] at h1
          exact .inr ⟨hc, h1, h2⟩
      have HBD : Hid (base + ((rawAt bs x.a.toNat).size + (rawAt bs x.b.toNat).size) + 1 ≤ 100000000) := by
        show _ ≤ _
        have h1 := HBS.out
        have h2 := HZ.out
        omega
      have hsa : ((rawAt bs x.a.toNat).size : Int) ≤ 8388608 := by have := (HS.out x.a (.inl rfl)).2.1; omega
      have hsb : ((rawAt bs x.b.toNat).size : Int) ≤ 8388608 := by have := (HS.out x.b (.inr rfl)).2.1; omega
      rcases hor with ⟨k1, HF⟩ | ⟨k1, HF⟩
      all_goals
        go_wp2_with fail
        refine (HP.out _ _ base _ (by first | exact .inl rfl | exact .inr rfl) rfl (by have := HBD.out; omega) (HR.out.below HB6.out)).mono ?_
        rintro e w6 ⟨A1, cc1, rfl, o1, hb7⟩
        have d0 := cell_below hb7 (by omega) d0
        have d1 := cell_below hb7 hz6 d1
        have d2 := cell_below hb7 hz6 d2
        have HB7 := Lib.hid (Below.then HB6.out HB6.out.size hb7)
        have hz7 := Nat.lt_of_lt_of_le hz6 hb7.size
        have hl7 := hb7.size
        clear hb7
        go_wp2_with fail
        refine (HP.out _ _ (base + _) _ (by first | exact .inl rfl | exact .inr rfl) (by exact (Int.natCast_add _ _).symm) (by have := HBD.out; omega) (HR.out.below HB7.out)).mono ?_
        rintro e w7 ⟨A2, cc2, rfl, o2, hb8⟩
        have o1 := own_below o1 hb8
        have HB8 := Lib.hid (Below.then HB7.out HB7.out.size hb8)
        have HO := Lib.hid (And.intro o1 o2)
        have hz8 := Nat.lt_of_lt_of_le hz7 hb8.size
        have hl8 := hb8.size
        clear hb8 o1 o2 d0 d1 d2
        go_wp2_with (first
          | (at_builtin; refine walk_append1 ho2 (by omega) (by have := HBD.out; omega) 24 Try.underlying24 info_brP ⟨rfl, by decide, by decide⟩ _ (one3 _ _ _) (by exact ⟨rfl, rfl, rfl, rfl, rfl⟩) ?_; intro v3 w3 ho3 hu3)
          | (at_builtin; refine walk_appendRow ho1 (own_below HO.out.2 hu1.below_nil) (by have := HPA.out; omega) (by omega) (by have := HBD.out; omega) 24 Try.underlying24 info_brP ⟨rfl, by decide, by decide⟩ (brs_one _) (by exact ⟨rfl, rfl, rfl, rfl⟩) ?_; intro v2 w2 ho2 hu2; have hl2 := (hu2.below hl1 (own_base ho1)).size)
          | (at_builtin; refine walk_appendRow (World.ownsRow_nil w7 w7.heap.size 64 3) HO.out.1 (by have := HPA.out; omega) (Nat.le_refl _) (by have := HBD.out; omega) 24 Try.underlying24 info_brP ⟨rfl, by decide, by decide⟩ (brs_one _) (by exact ⟨rfl, rfl, rfl, rfl⟩) ?_; intro v1 w1 ho1 hu1; have hl1 := hu1.below_nil.size))
        go_ret
        obtain ⟨A3, cc3, rfl, _⟩ := own_slice ho3
        have hb3 := (hu3.below (B := w7.heap.size) (by omega) (own_base ho2))
        have hb4 := hu1.below_nil.trans ((hu2.below hl1 (own_base ho1)).trans hb3)
        have hg := HF.out
        rw [hg.1, hg.2, NT.form, norm_size, norm_size]
        refine ⟨A3, cc3, ?_, ?_, Below.then HB8.out HB8.out.size hb4⟩
        · rw [Nat.zero_add]
          rfl
        · rw [brs_append, brs_append]
          have := own_mono ho3 HB8.out.size
          rw [Nat.zero_add, List.nil_append] at this
          simpa [brs, Br.cells] using this
end Go.Proofs.Ytbmlkomfelkckaa
