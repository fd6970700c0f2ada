/- tree.node's text. -/
import Derived.Test.YtbmlkomfelkckaaTextP
import Derived.Test.YtbmlkomfelkckaaBelow
namespace Go.Proofs.Ytbmlkomfelkckaa
open Go Go.RowKit
set_option maxRecDepth 100000

theorem rdStr_at {w : World} {A : Option Addr} {ns : List ByteArray} (h : RdStr w A ns) {k : Nat} (hk : k < ns.length) : ∃ ad, A = some ad ∧ w.cell? (ad.add k) = some (.string (nameAt ns k)) := by
  refine h k (nameAt ns k) ?_
  unfold nameAt
  rw [List.getD_eq_getElem?_getD, List.getElem?_eq_getElem hk]
  rfl

theorem held_node {w0 W w' : World} {b : Nat} {v1 v2 : Value} (z : b < w0.heap.size) (h1 : W.cell? ⟨b, 1, none⟩ = some v1) (h2 : W.cell? ⟨b, 2, none⟩ = some v2) (hb : Below w0.heap.size w0 W) (k : Below W.heap.size W w') :
    w'.cell? ⟨b, 1, none⟩ = some v1 ∧ w'.cell? ⟨b, 2, none⟩ = some v2 ∧ Below w0.heap.size w0 w' :=
  ⟨cell_below (k.mono hb.size) z h1, cell_below (k.mono hb.size) z h2, Below.then hb hb.size k⟩

set_option maxHeartbeats 2000000 in
theorem ntext_calls (A : Option Addr) (n c : Nat) (ns : List ByteArray) (hn : ns.length = n) (_hcap : n ≤ 9223372036854775807) (h8 : ∀ k, (nameAt ns k).size ≤ 8) : ∀ (T : NT) (p : Value) (w : World), Nd w T p → RdStr w A ns → (∀ k ∈ T.leaves, k < ns.length) → T.size ≤ 10000 →
    Calls Try.prog 71 #[p, .slice A n c] w fun e w' => e = .returned (.string (textOf ns T)) ∧ Below w.heap.size w w' := by
  intro T
  induction T with
  | leaf k =>
    intro p w hT hr hk hz
    obtain ⟨b, rfl, hb⟩ := hT
    have c0 := Nd.cell hb 0
    have c1 := Nd.cell hb 1
    have hkn := hk k (by simp [NT.leaves])
    obtain ⟨ad, rfl, d0⟩ := rdStr_at hr hkn
    rw [hn] at hkn
    have k1 : (k : Int) < (n : Int) := by omega
    have HD := Lib.hid hn
    clear hn hb hr hk hz
    go_enter Try.func71, Try.ntmps71
    go_wp2_with fail
    go_ret
    exact ⟨rfl, Below.refl _ _⟩
  | fork x y ihx ihy =>
    intro p w hT hr hk hz
    obtain ⟨b, px, py, rfl, hb, nx, ny⟩ := hT
    have c1 := Nd.cell hb 1
    have c2 := Nd.cell hb 2
    have hlt : b < w.heap.size := (Array.getElem?_eq_some_iff.1 hb).1
    obtain ⟨bx, _, _, rfl, _⟩ := nx.top
    obtain ⟨by', _, _, rfl, _⟩ := ny.top
    have HX := Lib.hid (fun (W : World) (hb : Below w.heap.size w W) => ihx _ W (nx.below hb) (hr.below hb) (fun k h => hk k (by simp [NT.leaves, h])) (by simp only [NT.size] at hz; omega))
    have HY := Lib.hid (fun (W : World) (hb : Below w.heap.size w W) => ihy _ W (ny.below hb) (hr.below hb) (fun k h => hk k (by simp [NT.leaves, h])) (by simp only [NT.size] at hz; omega))
    have HN := Lib.hid hn
    have zx := textOf_size h8 x
    have zy := textOf_size h8 y
    have hsum := fun W => text_sums Try.prog (textOf ns x) (textOf ns y) (by simp only [NT.size] at hz; omega) (by simp only [NT.size] at hz; omega) W
    have HT : Hid (textOf ns (.fork x y) = (⟨#[40]⟩ : ByteArray) ++ textOf ns x ++ ⟨#[44]⟩ ++ textOf ns y ++ ⟨#[41]⟩) := rfl
    rw [HT.out]
    generalize textOf ns x = tx at *
    generalize textOf ns y = ty at *
    have s1 := fun W => (hsum W).1
    have s2 := fun W => (hsum W).2.1
    have s3 := fun W => (hsum W).2.2.1
    have s4 := fun W => (hsum W).2.2.2
    clear hb nx ny hr hk ihx ihy hn hz zx zy hsum
    go_enter Try.func71, Try.ntmps71
    go_wp2_with fail
    go_region_held3 (fun w' => w'.cell? ⟨b, 1, none⟩ = some (.pointer (some ⟨bx, 0, none⟩)) ∧ w'.cell? ⟨b, 2, none⟩ = some (.pointer (some ⟨by', 0, none⟩)) ∧ Below w.heap.size w w')
      (first
        | exact ⟨c1, c2, below_drewN w 1⟩
        | (go_split_ands; exact held_node hlt (by assumption) (by assumption) (by assumption) hb))
      (first
        | (go_at_call 71; go_split_ands; have hb1 := hb
           refine (HY.out _ (by assumption)).mono ?_; rintro e w' ⟨rfl, hb⟩)
        | (go_at_call 71; go_split_ands
           refine (HX.out _ (by assumption)).mono ?_; rintro e w' ⟨rfl, hb⟩))
    go_split_ands
    go_wp2_with fail
    go_ret
    exact ⟨rfl, by assumption⟩
end Go.Proofs.Ytbmlkomfelkckaa
