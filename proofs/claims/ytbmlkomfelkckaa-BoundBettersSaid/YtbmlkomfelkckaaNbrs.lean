/- siglumref23.Neighbours: the walk. -/
import Derived.Test.YtbmlkomfelkckaaNextP
import Derived.Test.YtbmlkomfelkckaaFormW
import Derived.Test.YtbmlkomfelkckaaPart
import Derived.Test.YtbmlkomfelkckaaList
import Derived.Test.YtbmlkomfelkckaaHang
import Derived.Test.YtbmlkomfelkckaaBox
import Derived.Test.YtbmlkomfelkckaaAppRow
import Derived.Deep.RegionHeld3
namespace Go.Proofs.Ytbmlkomfelkckaa

/-- Where the document looks: x and y exchanged. -/
def selI (x y q : Nat) : Nat := if q = x then y else if q = y then x else q

theorem selI_x (x y : Nat) : selI x y x = y := if_pos rfl
theorem selI_y {x y : Nat} (h : x ≠ y) : selI x y y = x := by
  unfold selI
  rw [if_neg (by omega), if_pos rfl]
theorem selI_ne {x y q : Nat} (h1 : q ≠ x) (h2 : q ≠ y) : selI x y q = q := by
  unfold selI
  rw [if_neg h1, if_neg h2]

/-- What the part at q becomes. -/
inductive PutTo (T : NT) (x y : Nat) : Nat → NT → Prop
  | leaf {q k : Nat} : q < T.size → T.pieces[selI x y q]? = some (.leaf k) → PutTo T x y q (.leaf k)
  | fork {q : Nat} {a b R1 R2 : NT} : q < T.size → T.pieces[selI x y q]? = some (.fork a b) → PutTo T x y (selI x y q - b.size - 1) R1 → PutTo T x y (selI x y q - 1) R2 → PutTo T x y q (.fork R1 R2)

theorem piece_lt {T P : NT} {q : Nat} (h : T.pieces[q]? = some P) : q < T.size := by
  have := (List.getElem?_eq_some_iff.1 h).1
  rwa [pieces_length] at this

theorem put_clean {T : NT} {x y : Nat} : ∀ (P : NT) (q : Nat), T.pieces[q]? = some P → (∀ i, q + 1 - P.size ≤ i → i ≤ q → i ≠ x ∧ i ≠ y) → PutTo T x y q P
  | .leaf k, q, h, hc => by
    obtain ⟨h1, h2⟩ := hc q (by simp only [NT.size]; omega) (Nat.le_refl _)
    exact .leaf (piece_lt h) (by rw [selI_ne h1 h2]; exact h)
  | .fork a b, q, h, hc => by
    obtain ⟨k1, _, k3, k4⟩ := piece_at T 0 q _ h
    simp only [NT.size] at k1 hc
    have pa := a.size_pos
    have pb := b.size_pos
    obtain ⟨h1, h2⟩ := hc q (by omega) (Nat.le_refl _)
    have e := selI_ne h1 h2
    exact .fork (piece_lt h) (by rw [e]; exact h) (by rw [e]; exact put_clean a _ k3 (fun i h1 h2 => hc i (by omega) (by omega))) (by rw [e]; exact put_clean b _ k4 (fun i h1 h2 => hc i (by omega) (by omega)))

theorem put_sel {T : NT} {x y q q' : Nat} {P : NT} (hq : q < T.size) (e : selI x y q = q') (h : T.pieces[q']? = some P) (hc : ∀ i, q' + 1 - P.size ≤ i → i < q' → i ≠ x ∧ i ≠ y) : PutTo T x y q P := by
  cases P with
  | leaf k => exact .leaf hq (by rw [e]; exact h)
  | fork a b =>
    obtain ⟨k1, _, k3, k4⟩ := piece_at T 0 q' _ h
    simp only [NT.size] at k1 hc
    have pa := a.size_pos
    have pb := b.size_pos
    exact .fork hq (by rw [e]; exact h) (by rw [e]; exact put_clean a _ k3 (fun i h1 h2 => hc i (by omega) (by omega))) (by rw [e]; exact put_clean b _ k4 (fun i h1 h2 => hc i (by omega) (by omega)))

theorem put_up {T S : NT} {x y : Nat} : ∀ (P : NT) (s r : Nat), (∀ i, i < P.size → T.pieces[s + i]? = P.pieces[i]?) → r < P.size → (s + (r + 1 - (P.at r).size) ≤ x ∧ x < s + r) → (s + (r + 1 - (P.at r).size) ≤ y ∧ y < s + r) → PutTo T x y (s + r) S → PutTo T x y (s + P.size - 1) (P.put (r : Int) S)
  | .leaf k, s, r, hsub, hr, hx, hy, hS => by
    simp only [NT.size] at hr
    obtain rfl : r = 0 := by omega
    unfold NT.put
    rw [if_pos (by omega)]
    exact hS
  | .fork a b, s, r, hsub, hr, hx, hy, hS => by
    simp only [NT.size] at hr hsub ⊢
    have pa := a.size_pos
    have pb := b.size_pos
    unfold NT.put
    by_cases h0 : r = a.size + b.size
    · subst h0
      rw [if_pos (by omega)]
      exact hS
    · rw [if_neg (by omega)]
      have hroot : T.pieces[s + (a.size + b.size)]? = some (.fork a b) := by rw [hsub _ (by omega)]; exact pieces_fork_last
      have hA : ∀ i, i < a.size → T.pieces[s + i]? = a.pieces[i]? := fun i hi => by rw [hsub i (by omega)]; exact pieces_fork_left hi
      have hB : ∀ i, i < b.size → T.pieces[s + a.size + i]? = b.pieces[i]? := fun i hi => by
        rw [Nat.add_assoc, hsub (a.size + i) (by omega), pieces_fork_right (by omega) (by omega), show a.size + i - a.size = i by omega]
      have e : selI x y (s + (a.size + b.size)) = s + (a.size + b.size) := selI_ne (by omega) (by omega)
      rw [show s + (a.size + b.size + 1) - 1 = s + (a.size + b.size) by omega]
      have hpa : T.pieces[s + a.size - 1]? = some a := by
        rw [show s + a.size - 1 = s + (a.size - 1) by omega, hA _ (by omega), some_at (by omega)]
        unfold NT.at
        rw [pieces_last]
      have hpb : T.pieces[s + a.size + b.size - 1]? = some b := by
        rw [show s + a.size + b.size - 1 = s + a.size + (b.size - 1) by omega, hB _ (by omega), some_at (by omega)]
        unfold NT.at
        rw [pieces_last]
      by_cases h1 : r < a.size
      · have ea : (NT.fork a b).at r = a.at r := at_some (by rw [pieces_fork_left h1]; exact some_at h1)
        rw [ea] at hx hy
        rw [put_out b _ _ (by omega)]
        refine .fork (piece_lt hroot) (by rw [e]; exact hroot) ?_ ?_
        · rw [e, show s + (a.size + b.size) - b.size - 1 = s + a.size - 1 by omega]
          exact put_up a s r hA h1 hx hy hS
        · rw [e, show s + (a.size + b.size) - 1 = s + a.size + b.size - 1 by omega]
          exact put_clean b _ hpb (fun i h1 h2 => by omega)
      · have eb : (NT.fork a b).at r = b.at (r - a.size) := at_some (by rw [pieces_fork_right (by omega) (by omega)]; exact some_at (by omega))
        rw [eb] at hx hy
        have hz := (piece_at b 0 (r - a.size) _ (some_at (by omega))).1
        rw [put_out a _ _ (by omega), show ((r : Int) - a.size) = ((r - a.size : Nat) : Int) by omega]
        refine .fork (piece_lt hroot) (by rw [e]; exact hroot) ?_ ?_
        · rw [e, show s + (a.size + b.size) - b.size - 1 = s + a.size - 1 by omega]
          exact put_clean a _ hpa (fun i h1 h2 => by omega)
        · rw [e, show s + (a.size + b.size) - 1 = s + a.size + b.size - 1 by omega]
          exact put_up b (s + a.size) (r - a.size) hB (by omega) (by omega) (by omega) (by rw [show s + a.size + (r - a.size) = s + r by omega]; exact hS)

theorem put_root {T P S : NT} {x y p : Nat} (h : T.pieces[p]? = some P) (hx : p + 1 - P.size ≤ x ∧ x < p) (hy : p + 1 - P.size ≤ y ∧ y < p) (hS : PutTo T x y p S) : PutTo T x y (T.size - 1) (T.put (p : Int) S) := by
  have e := at_some h
  have := put_up (x := x) (y := y) (S := S) T 0 p (fun i _ => by rw [Nat.zero_add]) (piece_lt h) (by rw [e]; omega) (by rw [e]; omega) (by rw [Nat.zero_add]; exact hS)
  rwa [Nat.zero_add] at this

/-! ### The four exchanges -/
theorem pt_left1 {T x1 x2 Y : NT} {p : Nat} (h : T.pieces[p]? = some (.fork (.fork x1 x2) Y)) : PutTo T (p - Y.size - 1 - x2.size - 1) (p - 1) (T.size - 1) (T.put (p : Int) (.fork (.fork Y x2) x1)) := by
  obtain ⟨k1, _, k3, k4⟩ := piece_at T 0 p _ h
  obtain ⟨j1, _, j3, j4⟩ := piece_at T 0 _ _ k3
  simp only [NT.size] at k1 j1
  have p1 := x1.size_pos
  have p2 := x2.size_pos
  have p3 := Y.size_pos
  have hp := piece_lt h
  refine put_root h (by simp only [NT.size]; omega) (by simp only [NT.size]; omega) ?_
  have e1 : selI (p - Y.size - 1 - x2.size - 1) (p - 1) p = p := selI_ne (by omega) (by omega)
  have e2 : selI (p - Y.size - 1 - x2.size - 1) (p - 1) (p - Y.size - 1) = p - Y.size - 1 := selI_ne (by omega) (by omega)
  refine .fork hp (by rw [e1]; exact h) ?_ ?_
  · rw [e1]
    refine .fork (by omega) (by rw [e2]; exact k3) ?_ ?_
    · rw [e2]; exact put_sel (by omega) (selI_x _ _) k4 (fun i h1 h2 => by omega)
    · rw [e2]; exact put_clean _ _ j4 (fun i h1 h2 => by omega)
  · rw [e1]; exact put_sel (by omega) (selI_y (by omega)) j3 (fun i h1 h2 => by omega)

theorem pt_left2 {T x1 x2 Y : NT} {p : Nat} (h : T.pieces[p]? = some (.fork (.fork x1 x2) Y)) : PutTo T (p - Y.size - 1 - 1) (p - 1) (T.size - 1) (T.put (p : Int) (.fork (.fork x1 Y) x2)) := by
  obtain ⟨k1, _, k3, k4⟩ := piece_at T 0 p _ h
  obtain ⟨j1, _, j3, j4⟩ := piece_at T 0 _ _ k3
  simp only [NT.size] at k1 j1
  have p1 := x1.size_pos
  have p2 := x2.size_pos
  have p3 := Y.size_pos
  have hp := piece_lt h
  refine put_root h (by simp only [NT.size]; omega) (by simp only [NT.size]; omega) ?_
  have e1 : selI (p - Y.size - 1 - 1) (p - 1) p = p := selI_ne (by omega) (by omega)
  have e2 : selI (p - Y.size - 1 - 1) (p - 1) (p - Y.size - 1) = p - Y.size - 1 := selI_ne (by omega) (by omega)
  refine .fork hp (by rw [e1]; exact h) ?_ ?_
  · rw [e1]
    refine .fork (by omega) (by rw [e2]; exact k3) ?_ ?_
    · rw [e2]; exact put_clean _ _ j3 (fun i h1 h2 => by omega)
    · rw [e2]; exact put_sel (by omega) (selI_x _ _) k4 (fun i h1 h2 => by omega)
  · rw [e1]; exact put_sel (by omega) (selI_y (by omega)) j4 (fun i h1 h2 => by omega)

theorem pt_right1 {T X y1 y2 : NT} {p : Nat} (h : T.pieces[p]? = some (.fork X (.fork y1 y2))) : PutTo T (p - 1 - y2.size - 1) (p - (NT.fork y1 y2).size - 1) (T.size - 1) (T.put (p : Int) (.fork y1 (.fork X y2))) := by
  obtain ⟨k1, _, k3, k4⟩ := piece_at T 0 p _ h
  obtain ⟨j1, _, j3, j4⟩ := piece_at T 0 _ _ k4
  simp only [NT.size] at k1 j1 k3 ⊢
  have p1 := X.size_pos
  have p2 := y1.size_pos
  have p3 := y2.size_pos
  have hp := piece_lt h
  refine put_root h (by simp only [NT.size]; omega) (by simp only [NT.size]; omega) ?_
  have e1 : selI (p - 1 - y2.size - 1) (p - (y1.size + y2.size + 1) - 1) p = p := selI_ne (by omega) (by omega)
  have e2 : selI (p - 1 - y2.size - 1) (p - (y1.size + y2.size + 1) - 1) (p - 1) = p - 1 := selI_ne (by omega) (by omega)
  refine .fork hp (by rw [e1]; exact h) ?_ ?_
  · rw [e1]
    simp only [NT.size]
    exact put_sel (by omega) (selI_y (by omega)) j3 (fun i h1 h2 => by omega)
  · rw [e1]
    refine .fork (by omega) (by rw [e2]; exact k4) ?_ ?_
    · rw [e2]; exact put_sel (by omega) (selI_x _ _) k3 (fun i h1 h2 => by omega)
    · rw [e2]; exact put_clean _ _ j4 (fun i h1 h2 => by omega)

theorem pt_right2 {T X y1 y2 : NT} {p : Nat} (h : T.pieces[p]? = some (.fork X (.fork y1 y2))) : PutTo T (p - 1 - 1) (p - (NT.fork y1 y2).size - 1) (T.size - 1) (T.put (p : Int) (.fork y2 (.fork y1 X))) := by
  obtain ⟨k1, _, k3, k4⟩ := piece_at T 0 p _ h
  obtain ⟨j1, _, j3, j4⟩ := piece_at T 0 _ _ k4
  simp only [NT.size] at k1 j1 k3 ⊢
  have p1 := X.size_pos
  have p2 := y1.size_pos
  have p3 := y2.size_pos
  have hp := piece_lt h
  refine put_root h (by simp only [NT.size]; omega) (by simp only [NT.size]; omega) ?_
  have e1 : selI (p - 1 - 1) (p - (y1.size + y2.size + 1) - 1) p = p := selI_ne (by omega) (by omega)
  have e2 : selI (p - 1 - 1) (p - (y1.size + y2.size + 1) - 1) (p - 1) = p - 1 := selI_ne (by omega) (by omega)
  refine .fork hp (by rw [e1]; exact h) ?_ ?_
  · rw [e1]
    simp only [NT.size]
    exact put_sel (by omega) (selI_y (by omega)) j4 (fun i h1 h2 => by omega)
  · rw [e1]
    refine .fork (by omega) (by rw [e2]; exact k4) ?_ ?_
    · rw [e2]; exact put_clean _ _ j3 (fun i h1 h2 => by omega)
    · rw [e2]; exact put_sel (by omega) (selI_x _ _) k3 (fun i h1 h2 => by omega)

/-! ### Both orders of a fork have the same form -/
theorem norm_put_congr {S S' : NT} (h : S.norm = S'.norm) : ∀ (T : NT) (p : Int), (T.put p S).norm = (T.put p S').norm
  | .leaf j, p => by
    unfold NT.put
    split
    · exact h
    · rfl
  | .fork a b, p => by
    unfold NT.put
    split
    · exact h
    · rw [NT.norm, NT.norm, norm_put_congr h a, norm_put_congr h b]

theorem key_leaves : ∀ T : NT, T.key ∈ T.leaves
  | .leaf k => by simp [NT.key, NT.leaves]
  | .fork a b => by rw [NT.key, NT.leaves]; exact List.mem_append_left _ (key_leaves a)

theorem norm_comm {a b : NT} (h : (NT.fork a b).leaves.Nodup) : (NT.fork a b).norm = (NT.fork b a).norm := by
  rw [NT.leaves] at h
  have hdis := (List.nodup_append.1 h).2.2
  have h1 := (leaves_norm a).subset (key_leaves a.norm)
  have h2 := (leaves_norm b).subset (key_leaves b.norm)
  have hne : a.norm.key ≠ b.norm.key := hdis _ h1 _ h2
  rw [NT.norm, NT.norm]
  unfold mkFork
  by_cases hk : b.norm.key < a.norm.key
  · rw [if_pos hk, if_neg (by omega)]
  · rw [if_neg hk, if_pos (by omega)]

/-! ### The best of those with fewer changes -/
/-- The document's scan: the first of the least, if it has fewer than there were. -/
def Scan (cost : NT → Nat) (c0 : Nat) (l : List NT) (best : Int) (least : Nat) : Prop :=
  (best = -1 ∧ least = c0 ∧ ∀ X ∈ l, c0 ≤ cost X) ∨ ∃ (j : Nat) (X : NT), best = (j : Int) ∧ l[j]? = some X ∧ least = cost X ∧ cost X < c0 ∧ bestOf cost l = some X

theorem bestOf_least {cost : NT → Nat} : ∀ (l : List NT) (acc : Option NT) (b : NT), l.foldl (bestStep cost) acc = some b → (∀ X ∈ l, cost b ≤ cost X) ∧ ∀ a, acc = some a → cost b ≤ cost a
  | [], acc, b, h => by
    refine ⟨fun X hX => (by cases hX), fun a ha => ?_⟩
    rw [List.foldl_nil, ha] at h
    rw [Option.some.inj h]
    exact Nat.le_refl _
  | x :: l, acc, b, h => by
    obtain ⟨h1, h2⟩ := bestOf_least l _ b h
    cases acc with
    | none =>
      have := h2 x rfl
      exact ⟨fun X hX => by rcases List.mem_cons.1 hX with rfl | hX; exact this; exact h1 X hX, fun a ha => by cases ha⟩
    | some a0 =>
      by_cases hlt : cost x < cost a0
      · have := h2 x (by simp [bestStep, hlt])
        exact ⟨fun X hX => by rcases List.mem_cons.1 hX with rfl | hX; exact this; exact h1 X hX, fun a ha => by cases ha; omega⟩
      · have := h2 a0 (by simp [bestStep, hlt])
        exact ⟨fun X hX => by rcases List.mem_cons.1 hX with rfl | hX; omega; exact h1 X hX, fun a ha => by cases ha; exact this⟩

theorem Scan.start (cost : NT → Nat) (c0 : Nat) : Scan cost c0 [] (-1) c0 := .inl ⟨rfl, rfl, fun _ h => by cases h⟩

theorem Scan.miss {cost : NT → Nat} {c0 least : Nat} {l : List NT} {best : Int} {X : NT} (h : Scan cost c0 l best least) (hx : ¬ cost X < least) : Scan cost c0 (l ++ [X]) best least := by
  rcases h with ⟨h1, h2, h3⟩ | ⟨j, Z, h1, h2, h3, h4, h5⟩
  · refine .inl ⟨h1, h2, fun Y hY => ?_⟩
    rcases List.mem_append.1 hY with hY | hY
    · exact h3 Y hY
    · rw [List.mem_singleton.1 hY]; omega
  · refine .inr ⟨j, Z, h1, ?_, h3, h4, ?_⟩
    · rw [List.getElem?_append_left (List.getElem?_eq_some_iff.1 h2).1]; exact h2
    · rw [bestOf_snoc, h5, bestStep, if_neg (by omega)]

theorem Scan.hit {cost : NT → Nat} {c0 least : Nat} {l : List NT} {best : Int} {X : NT} (h : Scan cost c0 l best least) (hx : cost X < least) : Scan cost c0 (l ++ [X]) (l.length : Int) (cost X) := by
  have hl : (l ++ [X])[l.length]? = some X := by rw [List.getElem?_append_right (Nat.le_refl _), Nat.sub_self]; rfl
  rcases h with ⟨h1, h2, h3⟩ | ⟨j, Z, h1, h2, h3, h4, h5⟩
  · refine .inr ⟨_, X, rfl, hl, rfl, by omega, ?_⟩
    rw [bestOf_snoc]
    cases hb : bestOf cost l with
    | none => rfl
    | some B =>
      have hB := bestOf_mem l none B hb
      rcases hB with hB | hB
      · have := h3 B hB
        rw [bestStep, if_pos (by omega)]
      · cases hB
  · refine .inr ⟨_, X, rfl, hl, rfl, by omega, ?_⟩
    rw [bestOf_snoc, h5, bestStep, if_pos (by omega)]
end Go.Proofs.Ytbmlkomfelkckaa

namespace Go.Proofs.Ytbmlkomfelkckaa
open Go Go.RowKit
set_option maxRecDepth 100000

theorem FAt.under {w w' : World} {g c B : Nat} {xs : List Br} (h : FAt w g c xs) (hb : Below B w w') (hg : g < B) : FAt w' g c xs :=
  ⟨h.cap, h.pos, Nat.lt_of_lt_of_le h.lt hb.size, h.top, fun j u hu => cell_below hb hg (h.cells j u hu)⟩

/-- What put leaves: the row, longer, and where its last branch stands. -/
def RetPut (base : Nat) (w : World) (v : Value) (k : Nat) (ys : List Br) (e : Ending) (w' : World) : Prop :=
  ∃ v', e = .returned (.tuple #[v', .int .i64 (k : Int)]) ∧ w'.ownsRow base 64 3 v' (k + 1) (brs ys) ∧ Upd w w' v v'

theorem put_at {T : NT} {i : Nat} {P : NT} (h : T.pieces[i]? = some P) : match P with
    | .leaf j => (T.form 0)[i]? = some ⟨(j : Int), 0, 0⟩
    | .fork _ b => (T.form 0)[i]? = some ⟨0, ((i - b.size - 1 : Nat) : Int), ((i - 1 : Nat) : Int)⟩ ∧ i - 1 ≠ 0 := by
  obtain ⟨h1, h2⟩ := piece_at T 0 i P h
  cases P with
  | leaf j => exact h2
  | fork a b =>
    have := a.size_pos
    have := b.size_pos
    simp only [NT.size] at h1
    refine ⟨h2.1.trans ?_, by omega⟩
    rw [Nat.zero_add, show ((i - b.size - 1 : Nat) : Int) = (i : Int) - b.size - 1 by omega, show ((i - 1 : Nat) : Int) = (i : Int) - 1 by omega]

theorem Upd.after {w w1 w2 : World} {v v' : Value} (h : Below w.heap.size w w1) (k : Upd w1 w2 v v') : Upd w w2 v v' := by
  refine ⟨World.grownBy.trans ⟨h.os, h.tape, h.output, h.size, fun i hi _ => h.block i hi⟩ k.1, ?_⟩
  rcases k.2 with k | ⟨b, k1, k2⟩
  · exact .inl k
  · exact .inr ⟨b, k1, Nat.le_trans h.size k2⟩

set_option maxHeartbeats 8000000 in
theorem put_calls (g c x y : Nat) (T : NT) (_ : T.size ≤ 1000) (hx : x < T.size) (hy : y < T.size) {q : Nat} {R : NT} (hp : PutTo T x y q R) : ∀ (w : World) (v : Value) (n : Nat) (xs : List Br) (base : Nat), FAt w g c (T.form 0) → g < base → w.ownsRow base 64 3 v n (brs xs) → base ≤ w.heap.size → n + R.size ≤ 1000 →
    Calls Try.prog 115 #[.agg #[.slice (some ⟨g, 0, none⟩) T.size c], .int .i64 (q : Int), .int .i64 (x : Int), .int .i64 (y : Int), v] w (RetPut base w v (n + R.size - 1) (xs ++ R.form n)) := by
  induction hp with
  | @leaf q k hq hk =>
    intro w v n xs base hf hg ho hb hs
    obtain ⟨bq, hbq⟩ : ∃ bq, (T.form 0)[q]? = some bq := ⟨_, List.getElem?_eq_getElem (by rw [NT.form_length]; exact hq)⟩
    have hbs := put_at hk
    obtain ⟨ad, he, d0, d1, d2⟩ := hf.rd _ _ hbq
    obtain rfl : (⟨g, 0, none⟩ : Addr) = ad := by simpa using he
    obtain ⟨ad, he, s0, s1, s2⟩ := hf.rd _ _ hbs
    obtain rfl : (⟨g, 0, none⟩ : Addr) = ad := by simpa using he
    rw [add_plain] at d0 d1 d2 s0 s1 s2
    dsimp only at d0 d1 d2 s0 s1 s2
    obtain ⟨A, cv, rfl, hcap⟩ := own_slice ho
    have HO := Lib.hid ho
    have HF := Lib.hid hf
    have hlt := hf.lt
    have qI : (q : Int) < (T.size : Int) := by omega
    have xI : (x : Int) < (T.size : Int) := by omega
    have yI : (y : Int) < (T.size : Int) := by omega
    have HL := leaf_calls ⟨(k : Int), 0, 0⟩ ((w.alloc (.cells #[.slice (some ⟨g, 0, none⟩) T.size c] 26)).alloc (.cells #[.int .i64 (k : Int), .int .i64 0, .int .i64 0] 64))
    rw [show (((0 : Int) == 0) && ((0 : Int) == 0)) = true from rfl] at HL
    have hb0 := below_alloc w (.cells #[.slice (some ⟨g, 0, none⟩) T.size c] 26)
    have hb1 := below_alloc (w.alloc (.cells #[.slice (some ⟨g, 0, none⟩) T.size c] 26)) (.cells #[.int .i64 (k : Int), .int .i64 0, .int .i64 0] 64)
    have q0 := new_cell (w.alloc (.cells #[.slice (some ⟨g, 0, none⟩) T.size c] 26)) #[.int .i64 (k : Int), .int .i64 0, .int .i64 0] 64 0
    have hz2 : w.heap.size + 1 < ((w.alloc (.cells #[.slice (some ⟨g, 0, none⟩) T.size c] 26)).alloc (.cells #[.int .i64 (k : Int), .int .i64 0, .int .i64 0] 64)).heap.size := by simp
    rw [World.size_alloc] at q0
    have HB := Lib.hid (Below.then hb0 hb0.size hb1)
    have HLF := Lib.hid HL
    have Q0 := Lib.hid q0
    simp only [NT.size] at hs
    clear hbq hbs he ho hf hk HL hb0 hb1 q0
    by_cases e1 : q = x
    · subst e1
      rw [selI_x] at s0 s1 s2
      go_enter Try.func115, Try.ntmps115
      go_wp2_with fail
      (with_reducible refine HLF.out.mono ?_)
      rintro _ w5 ⟨rfl, hb5⟩
      have HO5 := Lib.hid (own_below (own_below HO.out HB.out) hb5)
      have q0 := cell_below hb5 hz2 Q0.out
      have HB5 := Lib.hid (Below.then HB.out HB.out.size hb5)
      have hz5 := HB5.out.size
      clear hb5 HLF HB s0 s1 s2 d0 d1 d2
      go_wp2_with (at_builtin; refine walk_append1 HO5.out (by omega) (by omega) 24 Try.underlying24 info_br ⟨rfl, by decide, by decide⟩ _ (one3 _ _ _) (by exact ⟨rfl, rfl, rfl, rfl, rfl⟩) ?_; intro v1 w1 ho1 hu1)
      go_ret2
      refine ⟨v1, by simp only [NT.size, Nat.add_sub_cancel]; rfl, ?_, Upd.after HB5.out hu1⟩
      simpa [NT.form, NT.size, brs_snoc, Br.cells] using ho1
    by_cases e2 : q = y
    · subst e2
      rw [selI_y (Ne.symm e1)] at s0 s1 s2
      have f1 : ((q : Int) == (x : Int)) = false := by rw [beq_eq_false_iff_ne]; omega
      go_enter Try.func115, Try.ntmps115
      go_wp2_with fail
      (with_reducible refine HLF.out.mono ?_)
      rintro _ w5 ⟨rfl, hb5⟩
      have HO5 := Lib.hid (own_below (own_below HO.out HB.out) hb5)
      have q0 := cell_below hb5 hz2 Q0.out
      have HB5 := Lib.hid (Below.then HB.out HB.out.size hb5)
      have hz5 := HB5.out.size
      clear hb5 HLF HB s0 s1 s2 d0 d1 d2
      go_wp2_with (at_builtin; refine walk_append1 HO5.out (by omega) (by omega) 24 Try.underlying24 info_br ⟨rfl, by decide, by decide⟩ _ (one3 _ _ _) (by exact ⟨rfl, rfl, rfl, rfl, rfl⟩) ?_; intro v1 w1 ho1 hu1)
      go_ret2
      refine ⟨v1, by simp only [NT.size, Nat.add_sub_cancel]; rfl, ?_, Upd.after HB5.out hu1⟩
      simpa [NT.form, NT.size, brs_snoc, Br.cells] using ho1
    · rw [selI_ne e1 e2] at s0 s1 s2
      have f1 : ((q : Int) == (x : Int)) = false := by rw [beq_eq_false_iff_ne]; omega
      have f2 : ((q : Int) == (y : Int)) = false := by rw [beq_eq_false_iff_ne]; omega
      clear d0 d1 d2
      go_enter Try.func115, Try.ntmps115
      go_wp2_with fail
      (with_reducible refine HLF.out.mono ?_)
      rintro _ w5 ⟨rfl, hb5⟩
      have HO5 := Lib.hid (own_below (own_below HO.out HB.out) hb5)
      have q0 := cell_below hb5 hz2 Q0.out
      have HB5 := Lib.hid (Below.then HB.out HB.out.size hb5)
      have hz5 := HB5.out.size
      clear hb5 HLF HB s0 s1 s2
      go_wp2_with (at_builtin; refine walk_append1 HO5.out (by omega) (by omega) 24 Try.underlying24 info_br ⟨rfl, by decide, by decide⟩ _ (one3 _ _ _) (by exact ⟨rfl, rfl, rfl, rfl, rfl⟩) ?_; intro v1 w1 ho1 hu1)
      go_ret2
      refine ⟨v1, by simp only [NT.size, Nat.add_sub_cancel]; rfl, ?_, Upd.after HB5.out hu1⟩
      simpa [NT.form, NT.size, brs_snoc, Br.cells] using ho1
  | @fork q a b R1 R2 hq hk _ _ ih1 ih2 =>
    intro w v n xs base hf hg ho hb hs
    obtain ⟨bq, hbq⟩ : ∃ bq, (T.form 0)[q]? = some bq := ⟨_, List.getElem?_eq_getElem (by rw [NT.form_length]; exact hq)⟩
    obtain ⟨hbs, hi2⟩ := put_at hk
    obtain ⟨i1, hi1⟩ : ∃ i1, selI x y q - b.size - 1 = i1 := ⟨_, rfl⟩
    obtain ⟨i2, hi2e⟩ : ∃ i2, selI x y q - 1 = i2 := ⟨_, rfl⟩
    rw [hi1] at ih1 hbs
    rw [hi2e] at ih2 hbs hi2
    have i2I : ¬ (i2 : Int) = 0 := by omega
    obtain ⟨ad, he, d0, d1, d2⟩ := hf.rd _ _ hbq
    obtain rfl : (⟨g, 0, none⟩ : Addr) = ad := by simpa using he
    obtain ⟨ad, he, s0, s1, s2⟩ := hf.rd _ _ hbs
    obtain rfl : (⟨g, 0, none⟩ : Addr) = ad := by simpa using he
    rw [add_plain] at d0 d1 d2 s0 s1 s2
    dsimp only at d0 d1 d2 s0 s1 s2
    obtain ⟨A, cv, rfl, hcap⟩ := own_slice ho
    have HO := Lib.hid ho
    have HF := Lib.hid hf
    have hlt := hf.lt
    have qI : (q : Int) < (T.size : Int) := by omega
    have xI : (x : Int) < (T.size : Int) := by omega
    have yI : (y : Int) < (T.size : Int) := by omega
    have p1 := R1.size_pos
    have p2 := R2.size_pos
    have HI1 := Lib.hid ih1
    have HI2 := Lib.hid ih2
    obtain ⟨m1, hm1⟩ : ∃ m1, n + R1.size = m1 + 1 := ⟨n + R1.size - 1, by omega⟩
    obtain ⟨m2, hm2⟩ : ∃ m2, m1 + 1 + R2.size = m2 + 1 := ⟨m1 + R2.size, by omega⟩
    have HM1 := Lib.hid hm1
    have HM2 := Lib.hid hm2
    simp only [NT.size] at hs
    have hmb : m2 + 1 < 1000 := by omega
    have HL := leaf_calls ⟨0, (i1 : Int), (i2 : Int)⟩ ((w.alloc (.cells #[.slice (some ⟨g, 0, none⟩) T.size c] 26)).alloc (.cells #[.int .i64 0, .int .i64 (i1 : Int), .int .i64 (i2 : Int)] 64))
    rw [show (((i1 : Int) == 0) && ((i2 : Int) == 0)) = false by rw [Bool.and_eq_false_iff, beq_eq_false_iff_ne, beq_eq_false_iff_ne]; exact .inr i2I] at HL
    have hb0 := below_alloc w (.cells #[.slice (some ⟨g, 0, none⟩) T.size c] 26)
    have hb1 := below_alloc (w.alloc (.cells #[.slice (some ⟨g, 0, none⟩) T.size c] 26)) (.cells #[.int .i64 0, .int .i64 (i1 : Int), .int .i64 (i2 : Int)] 64)
    have c0 := cell_below hb1 (by simp) (new_cell w #[.slice (some ⟨g, 0, none⟩) T.size c] 26 0)
    have q1 := new_cell (w.alloc (.cells #[.slice (some ⟨g, 0, none⟩) T.size c] 26)) #[.int .i64 0, .int .i64 (i1 : Int), .int .i64 (i2 : Int)] 64 1
    have q2 := new_cell (w.alloc (.cells #[.slice (some ⟨g, 0, none⟩) T.size c] 26)) #[.int .i64 0, .int .i64 (i1 : Int), .int .i64 (i2 : Int)] 64 2
    have hz2 : w.heap.size + 1 < ((w.alloc (.cells #[.slice (some ⟨g, 0, none⟩) T.size c] 26)).alloc (.cells #[.int .i64 0, .int .i64 (i1 : Int), .int .i64 (i2 : Int)] 64)).heap.size := by simp
    rw [World.size_alloc] at q1 q2
    have HB := Lib.hid (Below.then hb0 hb0.size hb1)
    have HLF := Lib.hid HL
    have Q0 := Lib.hid c0
    have Q1 := Lib.hid q1
    have Q2 := Lib.hid q2
    have HOK : Hid (∀ k, (Value.slice A n cv).ownBlock = some k → k < w.heap.size) := fun k hk => (HO.out.lt k hk).2
    clear hbq hbs he ho hf hk HL hb0 hb1 q1 q2 c0 ih1 ih2 hi1 hi2e hi2 i2I hm1 hm2
    by_cases e1 : q = x
    · subst e1
      rw [selI_x] at s0 s1 s2
      go_enter Try.func115, Try.ntmps115
      go_wp2_with fail
      (with_reducible refine HLF.out.mono ?_)
      rintro _ w5 ⟨rfl, hb5⟩
      have HO5 := Lib.hid (own_below (own_below HO.out HB.out) hb5)
      have c0 := cell_below hb5 (by omega) Q0.out
      have q1 := cell_below hb5 hz2 Q1.out
      have q2 := cell_below hb5 hz2 Q2.out
      have HB5 := Lib.hid (Below.then HB.out HB.out.size hb5)
      have hz5 := Nat.lt_of_lt_of_le hz2 hb5.size
      have HC1 := Lib.hid (HI1.out w5 (.slice A n cv) n xs base (HF.out.below HB5.out) hg HO5.out (by omega) (by omega))
      clear hb5 HLF HB s0 s1 s2 d0 d1 d2 Q0 Q1 Q2 HI1
      go_wp2_with fail
      (with_reducible refine HC1.out.mono ?_)
      rintro _ w6 ⟨v6, rfl, ho6, hu6⟩
      rw [HM1.out] at ho6 ⊢
      simp only [Nat.add_sub_cancel] at ho6 ⊢
      have c0 := hu6.1.cell c0 (fun e => by have := HOK.out _ e.symm; simp only at this; omega)
      have q2 := hu6.1.cell q2 (fun e => by have := HOK.out _ e.symm; simp only at this; omega)
      have HF6 := Lib.hid ((HF.out.below HB5.out).under (hu6.below (by omega) (own_base HO5.out)) hg)
      obtain ⟨A6, c6, rfl, -⟩ := own_slice ho6
      have hz6 := hu6.1.size
      have HC2 := Lib.hid (HI2.out w6 (.slice A6 (m1 + 1) c6) (m1 + 1) (xs ++ R1.form n) base HF6.out hg ho6 (by omega) (by have := HM2.out; omega))
      have HU6 := Lib.hid hu6
      clear ho6 hu6 HC1 HI2 q1
      go_wp2_with fail
      (with_reducible refine HC2.out.mono ?_)
      rintro _ w7 ⟨v7, rfl, ho7, hu7⟩
      rw [HM2.out] at ho7 ⊢
      simp only [Nat.add_sub_cancel] at ho7 ⊢
      obtain ⟨A7, c7, rfl, -⟩ := own_slice ho7
      have HO7 := Lib.hid ho7
      have HU7 := Lib.hid hu7
      have hz7 := hu7.1.size
      clear ho7 hu7 HC2 c0 q2
      go_wp2_with (at_builtin; refine walk_append1 HO7.out (by omega) (by omega) 24 Try.underlying24 info_br ⟨rfl, by decide, by decide⟩ _ (one3 _ _ _) (by exact ⟨rfl, rfl, rfl, rfl, rfl⟩) ?_; intro v1 w8 ho8 hu8)
      go_ret2
      have e2 : n + (NT.fork R1 R2).size = m2 + 1 + 1 := by have := HM1.out; have := HM2.out; simp only [NT.size]; omega
      rw [e2]
      refine ⟨v1, rfl, ?_, Upd.after HB5.out ((HU6.out.trans HU7.out).trans hu8)⟩
      have e1 : brs (xs ++ (NT.fork R1 R2).form n) = brs (xs ++ R1.form n ++ R2.form (m1 + 1)) ++ (Br.cells ⟨0, (m1 : Int), (m2 : Int)⟩) := by
        rw [← brs_snoc, ← HM1.out]
        have f1 : ((n + R1.size : Nat) : Int) - 1 = (m1 : Int) := by have := HM1.out; omega
        have f2 : ((n + R1.size + R2.size : Nat) : Int) - 1 = (m2 : Int) := by have := HM1.out; have := HM2.out; omega
        simp [NT.form, ← f1, ← f2]
      rw [e1]
      simpa [Br.cells] using ho8
    by_cases e2 : q = y
    · subst e2
      rw [selI_y (Ne.symm e1)] at s0 s1 s2
      have f1 : ((q : Int) == (x : Int)) = false := by rw [beq_eq_false_iff_ne]; omega
      go_enter Try.func115, Try.ntmps115
      go_wp2_with fail
      (with_reducible refine HLF.out.mono ?_)
      rintro _ w5 ⟨rfl, hb5⟩
      have HO5 := Lib.hid (own_below (own_below HO.out HB.out) hb5)
      have c0 := cell_below hb5 (by omega) Q0.out
      have q1 := cell_below hb5 hz2 Q1.out
      have q2 := cell_below hb5 hz2 Q2.out
      have HB5 := Lib.hid (Below.then HB.out HB.out.size hb5)
      have hz5 := Nat.lt_of_lt_of_le hz2 hb5.size
      have HC1 := Lib.hid (HI1.out w5 (.slice A n cv) n xs base (HF.out.below HB5.out) hg HO5.out (by omega) (by omega))
      clear hb5 HLF HB s0 s1 s2 d0 d1 d2 Q0 Q1 Q2 HI1
      go_wp2_with fail
      (with_reducible refine HC1.out.mono ?_)
      rintro _ w6 ⟨v6, rfl, ho6, hu6⟩
      rw [HM1.out] at ho6 ⊢
      simp only [Nat.add_sub_cancel] at ho6 ⊢
      have c0 := hu6.1.cell c0 (fun e => by have := HOK.out _ e.symm; simp only at this; omega)
      have q2 := hu6.1.cell q2 (fun e => by have := HOK.out _ e.symm; simp only at this; omega)
      have HF6 := Lib.hid ((HF.out.below HB5.out).under (hu6.below (by omega) (own_base HO5.out)) hg)
      obtain ⟨A6, c6, rfl, -⟩ := own_slice ho6
      have hz6 := hu6.1.size
      have HC2 := Lib.hid (HI2.out w6 (.slice A6 (m1 + 1) c6) (m1 + 1) (xs ++ R1.form n) base HF6.out hg ho6 (by omega) (by have := HM2.out; omega))
      have HU6 := Lib.hid hu6
      clear ho6 hu6 HC1 HI2 q1
      go_wp2_with fail
      (with_reducible refine HC2.out.mono ?_)
      rintro _ w7 ⟨v7, rfl, ho7, hu7⟩
      rw [HM2.out] at ho7 ⊢
      simp only [Nat.add_sub_cancel] at ho7 ⊢
      obtain ⟨A7, c7, rfl, -⟩ := own_slice ho7
      have HO7 := Lib.hid ho7
      have HU7 := Lib.hid hu7
      have hz7 := hu7.1.size
      clear ho7 hu7 HC2 c0 q2
      go_wp2_with (at_builtin; refine walk_append1 HO7.out (by omega) (by omega) 24 Try.underlying24 info_br ⟨rfl, by decide, by decide⟩ _ (one3 _ _ _) (by exact ⟨rfl, rfl, rfl, rfl, rfl⟩) ?_; intro v1 w8 ho8 hu8)
      go_ret2
      have e2 : n + (NT.fork R1 R2).size = m2 + 1 + 1 := by have := HM1.out; have := HM2.out; simp only [NT.size]; omega
      rw [e2]
      refine ⟨v1, rfl, ?_, Upd.after HB5.out ((HU6.out.trans HU7.out).trans hu8)⟩
      have e1 : brs (xs ++ (NT.fork R1 R2).form n) = brs (xs ++ R1.form n ++ R2.form (m1 + 1)) ++ (Br.cells ⟨0, (m1 : Int), (m2 : Int)⟩) := by
        rw [← brs_snoc, ← HM1.out]
        have f1 : ((n + R1.size : Nat) : Int) - 1 = (m1 : Int) := by have := HM1.out; omega
        have f2 : ((n + R1.size + R2.size : Nat) : Int) - 1 = (m2 : Int) := by have := HM1.out; have := HM2.out; omega
        simp [NT.form, ← f1, ← f2]
      rw [e1]
      simpa [Br.cells] using ho8
    · rw [selI_ne e1 e2] at s0 s1 s2
      have f1 : ((q : Int) == (x : Int)) = false := by rw [beq_eq_false_iff_ne]; omega
      have f2 : ((q : Int) == (y : Int)) = false := by rw [beq_eq_false_iff_ne]; omega
      clear d0 d1 d2
      go_enter Try.func115, Try.ntmps115
      go_wp2_with fail
      (with_reducible refine HLF.out.mono ?_)
      rintro _ w5 ⟨rfl, hb5⟩
      have HO5 := Lib.hid (own_below (own_below HO.out HB.out) hb5)
      have c0 := cell_below hb5 (by omega) Q0.out
      have q1 := cell_below hb5 hz2 Q1.out
      have q2 := cell_below hb5 hz2 Q2.out
      have HB5 := Lib.hid (Below.then HB.out HB.out.size hb5)
      have hz5 := Nat.lt_of_lt_of_le hz2 hb5.size
      have HC1 := Lib.hid (HI1.out w5 (.slice A n cv) n xs base (HF.out.below HB5.out) hg HO5.out (by omega) (by omega))
      clear hb5 HLF HB s0 s1 s2 Q0 Q1 Q2 HI1
      go_wp2_with fail
      (with_reducible refine HC1.out.mono ?_)
      rintro _ w6 ⟨v6, rfl, ho6, hu6⟩
      rw [HM1.out] at ho6 ⊢
      simp only [Nat.add_sub_cancel] at ho6 ⊢
      have c0 := hu6.1.cell c0 (fun e => by have := HOK.out _ e.symm; simp only at this; omega)
      have q2 := hu6.1.cell q2 (fun e => by have := HOK.out _ e.symm; simp only at this; omega)
      have HF6 := Lib.hid ((HF.out.below HB5.out).under (hu6.below (by omega) (own_base HO5.out)) hg)
      obtain ⟨A6, c6, rfl, -⟩ := own_slice ho6
      have hz6 := hu6.1.size
      have HC2 := Lib.hid (HI2.out w6 (.slice A6 (m1 + 1) c6) (m1 + 1) (xs ++ R1.form n) base HF6.out hg ho6 (by omega) (by have := HM2.out; omega))
      have HU6 := Lib.hid hu6
      clear ho6 hu6 HC1 HI2 q1
      go_wp2_with fail
      (with_reducible refine HC2.out.mono ?_)
      rintro _ w7 ⟨v7, rfl, ho7, hu7⟩
      rw [HM2.out] at ho7 ⊢
      simp only [Nat.add_sub_cancel] at ho7 ⊢
      obtain ⟨A7, c7, rfl, -⟩ := own_slice ho7
      have HO7 := Lib.hid ho7
      have HU7 := Lib.hid hu7
      have hz7 := hu7.1.size
      clear ho7 hu7 HC2 c0 q2
      go_wp2_with (at_builtin; refine walk_append1 HO7.out (by omega) (by omega) 24 Try.underlying24 info_br ⟨rfl, by decide, by decide⟩ _ (one3 _ _ _) (by exact ⟨rfl, rfl, rfl, rfl, rfl⟩) ?_; intro v1 w8 ho8 hu8)
      go_ret2
      have e2 : n + (NT.fork R1 R2).size = m2 + 1 + 1 := by have := HM1.out; have := HM2.out; simp only [NT.size]; omega
      rw [e2]
      refine ⟨v1, rfl, ?_, Upd.after HB5.out ((HU6.out.trans HU7.out).trans hu8)⟩
      have e1 : brs (xs ++ (NT.fork R1 R2).form n) = brs (xs ++ R1.form n ++ R2.form (m1 + 1)) ++ (Br.cells ⟨0, (m1 : Int), (m2 : Int)⟩) := by
        rw [← brs_snoc, ← HM1.out]
        have f1 : ((n + R1.size : Nat) : Int) - 1 = (m1 : Int) := by have := HM1.out; omega
        have f2 : ((n + R1.size + R2.size : Nat) : Int) - 1 = (m2 : Int) := by have := HM1.out; have := HM2.out; omega
        simp [NT.form, ← f1, ← f2]
      rw [e1]
      simpa [Br.cells] using ho8
end Go.Proofs.Ytbmlkomfelkckaa

namespace Go.Proofs.Ytbmlkomfelkckaa
open Go Go.RowKit
set_option maxRecDepth 100000

set_option maxHeartbeats 4000000 in
theorem swapped_calls (g c n x y : Nat) (T R : NT) (w : World) (hT : T.On n) (hf : FAt w g c (T.form 0)) (hx : x < T.size) (hy : y < T.size) (hp : PutTo T x y (T.size - 1) R) (hR : R.On n) :
    Calls Try.prog 108 #[.agg #[.slice (some ⟨g, 0, none⟩) T.size c], .int .i64 (x : Int), .int .i64 (y : Int), .int .i64 (n : Int)] w (RetHang w R.norm) := by
  have hzT := hT.size
  have hpos := hT.pos
  have hzR := hR.size
  have HRT := Lib.hid hR.root
  have hpT := T.size_pos
  have hpR := R.size_pos
  have hn12 : n ≤ 12 := hT.few
  obtain ⟨sz, hsz⟩ : ∃ sz, T.size = sz + 1 := ⟨T.size - 1, by omega⟩
  obtain ⟨rz, hrz⟩ : ∃ rz, R.size = rz + 1 := ⟨R.size - 1, by omega⟩
  rw [hsz]
  have hb1 := below_alloc w (.cells #[.slice (some ⟨g, 0, none⟩) (sz + 1) c] 26)
  have hb2 := below_alloc (w.alloc (.cells #[.slice (some ⟨g, 0, none⟩) (sz + 1) c] 26)) (.cells #[.slice none 0 0] 26)
  have c0 := cell_below hb2 (by simp) (new_cell w #[.slice (some ⟨g, 0, none⟩) (sz + 1) c] 26 0)
  have c1 := new_cell (w.alloc (.cells #[.slice (some ⟨g, 0, none⟩) (sz + 1) c] 26)) #[.slice none 0 0] 26 0
  have f1 := new_frozen (w.alloc (.cells #[.slice (some ⟨g, 0, none⟩) (sz + 1) c] 26)) #[.slice none 0 0] 26 0
  rw [World.size_alloc] at c1 f1
  have hz : w.heap.size + 1 < ((w.alloc (.cells #[.slice (some ⟨g, 0, none⟩) (sz + 1) c] 26)).alloc (.cells #[.slice none 0 0] 26)).heap.size := by simp
  have HB0 := Lib.hid (Below.then hb1 hb1.size hb2)
  have HF0 := Lib.hid (hf.below HB0.out)
  have hpc := put_calls g c x y T (by omega) hx hy hp ((w.alloc (.cells #[.slice (some ⟨g, 0, none⟩) (sz + 1) c] 26)).alloc (.cells #[.slice none 0 0] 26)) (.slice none 0 0) 0 [] ((w.alloc (.cells #[.slice (some ⟨g, 0, none⟩) (sz + 1) c] 26)).alloc (.cells #[.slice none 0 0] 26)).heap.size HF0.out HF0.out.lt (World.ownsRow_nil _ _ _ _) (Nat.le_refl _) (by omega)
  simp only [hsz, hrz, Nat.zero_add, Nat.add_sub_cancel, List.nil_append] at hpc
  have HPC := Lib.hid hpc
  clear hpc
  have HSZ := Lib.hid hsz
  have HRZ := Lib.hid hrz
  have hszI : (sz : Int) + 1 ≤ 23 := by omega
  have hrzI : rz + 1 ≤ 23 := by omega
  clear hT hf hx hy hp hR hzT hzR hpT hpR hb1 hb2 hsz hrz
  go_enter Try.func108, Try.ntmps108
  go_wp2_with fail
  (with_reducible refine HPC.out.mono ?_)
  rintro _ w1 ⟨v1, rfl, ho1, hu1⟩
  obtain ⟨A1, c1', rfl, -⟩ := own_slice ho1
  have hb1 := hu1.below_nil
  have c1 := cell_below hb1 hz c1
  have f1 := frozen_below hb1 hz f1
  have HB1 := Lib.hid (Below.then HB0.out HB0.out.size hb1)
  have hz1 := Nat.lt_of_lt_of_le hz hb1.size
  have HRF := Lib.hid (rform_calls A1 (rz + 1) c1' (R.form 0) (n : Int) w1 (own_rd ho1).1 (own_rd ho1).2 (by omega))
  rw [HRT.out] at HRF
  have hpN := R.norm.size_pos
  clear hb1 hu1 ho1 HPC c0
  go_wp2_with fail
  (with_reducible refine HRF.out.mono ?_)
  rintro _ w2 ⟨hb2, A2, c2, rfl, ho2⟩
  obtain ⟨g', he, -, -, hf'⟩ := FAt.own ho2 hpN
  subst he
  have c1 := cell_below hb2 hz1 c1
  have f1 := frozen_below hb2 hz1 f1
  have HF := Lib.hid hf'
  have HB2 := Lib.hid (Below.then HB1.out HB1.out.size hb2)
  have hz2 := Nat.lt_of_lt_of_le hz1 hb2.size
  clear hb2 ho2 hf' HRF
  go_wp2_with fail
  have hb3 := below_alloc (w2.setCell ⟨w.heap.size + 1, 0, none⟩ (.slice (some ⟨g', 0, none⟩) R.norm.size c2)) (.cells #[.slice (some ⟨g', 0, none⟩) R.norm.size c2] 26)
  have HBS := Lib.hid (below_set HB2.out (Nat.le_succ _) 0 (.slice (some ⟨g', 0, none⟩) R.norm.size c2))
  have hcell := cell_below hb3 (by simpa using hz2) (set_cell_eq c1 (.slice (some ⟨g', 0, none⟩) R.norm.size c2))
  refine bodyPost_ret (v := .agg #[.slice (some ⟨g', 0, none⟩) R.norm.size c2]) (by simp [results, Try.results108, hcell, go_sem]) rfl ⟨g', c2, rfl, (HF.out.set c1 _).below hb3, Below.then HBS.out HBS.out.size hb3⟩
end Go.Proofs.Ytbmlkomfelkckaa

namespace Go.Proofs.Ytbmlkomfelkckaa
open Go Go.RowKit
set_option maxRecDepth 100000

theorem info_treeN : (Try.prog.info? 26).map (fun i => (i.zero, i.size, i.bytes)) = some (some (.agg #[.slice none 0 0]), 1, 24) := by kernel_rfl

/-- A list of trees, a cell each; each tree's branches lie somewhere. -/
structure TrF (W : World) (base : Nat) (v : Value) (L : List NT) (vs : List Value) : Prop where
  own : W.ownsRow base 26 1 v L.length vs
  rows : ∀ (i : Nat) (T : NT), L[i]? = some T → ∃ g c, vs[i]? = some (.slice (some ⟨g, 0, none⟩) T.size c) ∧ FAt W g c (T.form 0)

theorem TrF.nil (W : World) (base : Nat) : TrF W base (.slice none 0 0) [] [] := ⟨World.ownsRow_nil _ _ _ _, fun i T h => by simp at h⟩

theorem TrF.below {W W' : World} {base : Nat} {v : Value} {L : List NT} {vs : List Value} (h : TrF W base v L vs) (hb : Below W.heap.size W W') : TrF W' base v L vs :=
  ⟨own_below h.own hb, fun i T hi => by obtain ⟨g, c, h1, h2⟩ := h.rows i T hi; exact ⟨g, c, h1, h2.below hb⟩⟩

theorem TrF.mono {W : World} {base base' : Nat} {v : Value} {L : List NT} {vs : List Value} (h : TrF W base v L vs) (hb : base' ≤ base) : TrF W base' v L vs := ⟨own_mono h.own hb, h.rows⟩

theorem FAt.updL {W W' : World} {g c : Nat} {xs : List Br} {base n : Nat} {v v' : Value} {vs : List Value} (hf : FAt W g c xs) (hu : Upd W W' v v') (ho : W.ownsRow base 26 1 v n vs)
    (hv : v = .slice none 0 0 ∨ ∃ A k d, vs[0]? = some (.slice A k d)) : FAt W' g c xs := by
  have hne : ∀ k, v.ownBlock = some k → g ≠ k := by
    rintro k hk rfl
    rcases hv with rfl | ⟨A, m, d, h0⟩
    · simp [Value.ownBlock] at hk
    · obtain ⟨x, hx⟩ : ∃ x, xs[0]? = some x := ⟨_, List.getElem?_eq_getElem hf.pos⟩
      have h1 := hf.cells 0 _ (brs_get xs 0 x hx).1
      obtain ⟨A2, c2, rfl, -⟩ := own_slice ho
      have hn : 0 < n := by
        have := ho.1
        have := (List.getElem?_eq_some_iff.1 h0).1
        omega
      obtain ⟨g2, hg2, -, -, h2⟩ := own_at ho hn
      subst hg2
      have h3 := h2 0 _ h0
      rw [add_plain] at h3
      obtain rfl : g2 = g := by simpa [Value.ownBlock] using hk
      rw [h1] at h3
      cases h3
  refine ⟨hf.cap, hf.pos, Nat.lt_of_lt_of_le hf.lt hu.1.size, hf.top, fun j u hj => ?_⟩
  refine (World.cell?_of_block (hu.1.block g hf.lt ?_)).trans (hf.cells j u hj)
  intro e
  exact hne g e.symm rfl

theorem TrF.two {W W' : World} {base g1 c1 g2 c2 : Nat} {v v' : Value} {L : List NT} {vs : List Value} {X Y : NT} (h : TrF W base v L vs) (ho : W'.ownsRow base 26 1 v' (L.length + 2) (vs ++ [.slice (some ⟨g1, 0, none⟩) X.size c1, .slice (some ⟨g2, 0, none⟩) Y.size c2])) (hu : Upd W W' v v') (h1 : FAt W g1 c1 (X.form 0)) (h2 : FAt W g2 c2 (Y.form 0))
    (hv : L.length = 0 → v = .slice none 0 0) : TrF W' base v' (L ++ [X, Y]) (vs ++ [.slice (some ⟨g1, 0, none⟩) X.size c1, .slice (some ⟨g2, 0, none⟩) Y.size c2]) := by
  have hl : vs.length = L.length := by simpa using h.own.1
  have hvs : v = .slice none 0 0 ∨ ∃ A k d, vs[0]? = some (.slice A k d) := by
    by_cases h0 : L.length = 0
    · exact .inl (hv h0)
    · obtain ⟨S, hS⟩ : ∃ S, L[0]? = some S := ⟨_, List.getElem?_eq_getElem (by omega)⟩
      obtain ⟨g0, c0, h1, -⟩ := h.rows 0 S hS
      exact .inr ⟨_, _, _, h1⟩
  refine ⟨by simpa using ho, fun i S hi => ?_⟩
  by_cases hil : i < L.length
  · rw [List.getElem?_append_left hil] at hi
    obtain ⟨g3, c3, h3, h4⟩ := h.rows i S hi
    exact ⟨g3, c3, by rw [List.getElem?_append_left (by omega)]; exact h3, h4.updL hu h.own hvs⟩
  · have hlt := (List.getElem?_eq_some_iff.1 hi).1
    simp only [List.length_append, List.length_cons, List.length_nil] at hlt
    rw [List.getElem?_append_right (by omega)] at hi
    rw [List.getElem?_append_right (by omega), hl]
    by_cases e : i = L.length
    · rw [e, Nat.sub_self] at hi ⊢
      obtain rfl : X = S := by simpa using hi
      exact ⟨g1, c1, rfl, h1.updL hu h.own hvs⟩
    · rw [show i - L.length = 1 by omega] at hi ⊢
      obtain rfl : Y = S := by simpa using hi
      exact ⟨g2, c2, rfl, h2.updL hu h.own hvs⟩

theorem sw1_len (a b : NT) : (sw1 a b).length ≤ 2 := by
  cases a <;> simp [sw1]

theorem nbrsAt_len (T : NT) (p : Nat) : (nbrsAt T p).length ≤ 4 := by
  unfold nbrsAt
  rw [List.length_map]
  cases T.at p with
  | leaf _ => simp [swaps]
  | fork a b =>
    have := sw1_len a b
    have := sw1_len b a
    simp only [swaps, List.length_append]
    omega

theorem nbrsUp_len (T : NT) : ∀ p, (nbrsUp T p).length ≤ 4 * p
  | 0 => by simp [nbrsUp]
  | p + 1 => by
    have := nbrsUp_len T p
    have := nbrsAt_len T p
    rw [nbrsUp_succ, List.length_append]
    omega

/-- The trees that one arm's parts make. -/
def arm (T : NT) (p : Nat) (a b : NT) : List NT := (sw1 a b).map fun S => (T.put (p : Int) S).norm

theorem nbrsAt_fork {T a b : NT} {p : Nat} (h : T.pieces[p]? = some (.fork a b)) : nbrsAt T p = arm T p a b ++ arm T p b a := by
  unfold nbrsAt arm
  rw [at_some h, swaps, List.map_append]

theorem nbrsAt_leaf {T : NT} {p k : Nat} (h : T.pieces[p]? = some (.leaf k)) : nbrsAt T p = [] := by
  unfold nbrsAt
  rw [at_some h]
  rfl

/-- What the document's two exchanges make of an arm that is a fork. -/
structure Two (T : NT) (n x y o : Nat) (X Y : NT) (l : List NT) : Prop where
  one : ∃ R, PutTo T x o (T.size - 1) R ∧ R.On n ∧ R.norm = X
  two : ∃ R, PutTo T y o (T.size - 1) R ∧ R.On n ∧ R.norm = Y
  list : l = [X, Y]

theorem piece_nodup : ∀ (T P : NT), T.leaves.Nodup → P ∈ T.pieces → P.leaves.Nodup
  | .leaf k, P, h, hp => by
    rw [NT.pieces, List.mem_singleton] at hp
    rw [hp]; exact h
  | .fork a b, P, h, hp => by
    have h' := h
    rw [NT.leaves] at h'
    obtain ⟨ha, hb, _⟩ := List.nodup_append.1 h'
    rw [NT.pieces, List.mem_append, List.mem_append, List.mem_singleton] at hp
    rcases hp with (hp | hp) | hp
    · exact piece_nodup a P ha hp
    · exact piece_nodup b P hb hp
    · rw [hp]; exact h

theorem piece_on {T P : NT} {n p : Nat} (hT : T.On n) (h : T.pieces[p]? = some P) : P.leaves.Nodup := piece_nodup T P hT.nodup (List.mem_of_getElem? h)

theorem two_left {T x1 x2 b : NT} {n p : Nat} (hT : T.On n) (h : T.pieces[p]? = some (.fork (.fork x1 x2) b)) :
    Two T n (p - b.size - 1 - x2.size - 1) (p - b.size - 1 - 1) (p - 1) (T.put (p : Int) (.fork (.fork b x2) x1)).norm (T.put (p : Int) (.fork (.fork x1 b) x2)).norm (arm T p (.fork x1 x2) b) := by
  have hS : ∀ S ∈ sw1 (.fork x1 x2) b, (T.put (p : Int) S).On n := fun S hS => hT.swap (piece_lt h) (by rw [at_some h, swaps]; exact List.mem_append_left _ hS)
  exact ⟨⟨_, pt_left1 h, hS _ (by simp [sw1]), rfl⟩, ⟨_, pt_left2 h, hS _ (by simp [sw1]), rfl⟩, by simp [arm, sw1]⟩

theorem two_right {T a y1 y2 : NT} {n p : Nat} (hT : T.On n) (h : T.pieces[p]? = some (.fork a (.fork y1 y2))) :
    Two T n (p - 1 - y2.size - 1) (p - 1 - 1) (p - (NT.fork y1 y2).size - 1) (T.put (p : Int) (.fork (.fork a y2) y1)).norm (T.put (p : Int) (.fork (.fork y1 a) y2)).norm (arm T p (.fork y1 y2) a) := by
  have hS : ∀ S ∈ sw1 (.fork y1 y2) a, S.leaves.Nodup ∧ (T.put (p : Int) S).On n := fun S hS => by
    have hm : S ∈ swaps (T.at p) := by rw [at_some h, swaps]; exact List.mem_append_right _ hS
    refine ⟨(swaps_leaves hm).symm.nodup ?_, hT.swap (piece_lt h) hm⟩
    rw [at_some h]
    exact piece_on hT h
  have h1 := hS (.fork (.fork a y2) y1) (by simp [sw1])
  have h2 := hS (.fork (.fork y1 a) y2) (by simp [sw1])
  have c1 : (NT.fork y1 (.fork a y2)).norm = (NT.fork (.fork a y2) y1).norm := (norm_comm h1.1).symm
  have c2 : (NT.fork y2 (.fork y1 a)).norm = (NT.fork (.fork y1 a) y2).norm := (norm_comm h2.1).symm
  have e1 := norm_put_congr c1 T (p : Int)
  have e2 := norm_put_congr c2 T (p : Int)
  have on1 : (T.put (p : Int) (.fork y1 (.fork a y2))).On n := h1.2.norm.perm (by rw [← e1]; exact (leaves_norm _).symm)
  have on2 : (T.put (p : Int) (.fork y2 (.fork y1 a))).On n := h2.2.norm.perm (by rw [← e2]; exact (leaves_norm _).symm)
  exact ⟨⟨_, pt_right1 h, on1, e1⟩, ⟨_, pt_right2 h, on2, e2⟩, by simp [arm, sw1]⟩

/-- Behind the append of two trees: the row, longer; all else as it was. -/
theorem nb_meet {W0 w7 w' w1 : World} {bb m c5 g1 cc1 g2 cc2 : Nat} {A5 : Option Addr} {vs : List Value} {L : List NT} {X Y : NT} {v1 a b : Value}
    (hB : Below W0.heap.size W0 w7) (hT : TrF w7 W0.heap.size (.slice A5 m c5) L vs) (hM : L.length = m ∧ (m = 0 → Value.slice A5 m c5 = .slice none 0 0) ∧ ∀ i, (Value.slice A5 m c5).ownBlock = some i → i ≠ bb)
    (hz : bb < w7.heap.size) (q1 : w7.cell? ⟨bb, 1, none⟩ = some a) (q2 : w7.cell? ⟨bb, 2, none⟩ = some b) (h1 : FAt w' g1 cc1 (X.form 0)) (h2 : FAt w' g2 cc2 (Y.form 0)) (hch : Below w7.heap.size w7 w')
    (ho : w1.ownsRow W0.heap.size 26 1 v1 (m + 2) (vs ++ #[.slice (some ⟨g1, 0, none⟩) X.size cc1, .slice (some ⟨g2, 0, none⟩) Y.size cc2].toList))
    (hu : Upd (w'.alloc (.cells #[.slice (some ⟨g1, 0, none⟩) X.size cc1, .slice (some ⟨g2, 0, none⟩) Y.size cc2] 26)) w1 (.slice A5 m c5) v1) :
    ∃ A6 c6 vs6, v1 = .slice A6 (m + 2) c6 ∧ Below W0.heap.size W0 w1 ∧ TrF w1 W0.heap.size (.slice A6 (m + 2) c6) (L ++ [X, Y]) vs6 ∧
      ((L ++ [X, Y]).length = m + 2 ∧ (m + 2 = 0 → Value.slice A6 (m + 2) c6 = .slice none 0 0) ∧ ∀ i, (Value.slice A6 (m + 2) c6).ownBlock = some i → i ≠ bb) ∧ w1.cell? ⟨bb, 1, none⟩ = some a ∧ w1.cell? ⟨bb, 2, none⟩ = some b ∧ bb < w1.heap.size := by
  obtain ⟨hM1, hM2, hM3⟩ := hM
  subst hM1
  obtain ⟨A6, c6, rfl, -⟩ := own_slice ho
  have ha := below_alloc w' (.cells #[.slice (some ⟨g1, 0, none⟩) X.size cc1, .slice (some ⟨g2, 0, none⟩) Y.size cc2] 26)
  have hch2 := Below.then hch hch.size ha
  have HT2 := hT.below hch2
  have hl := hB.size
  have hl2 := hch2.size
  have hT6 := HT2.two ho hu (h1.below ha) (h2.below ha) (fun h => hM2 h)
  refine ⟨A6, c6, _, rfl, (Below.then hB hl hch2).trans (hu.below (by omega) (own_base hT.own)), hT6, ⟨by simp, fun h => by omega, fun i hi => ?_⟩, ?_, ?_, ?_⟩
  · rcases hu.2 with e | ⟨b', e, hb'⟩
    · rw [e] at hi
      exact hM3 i hi
    · rw [e] at hi
      obtain rfl := Option.some.inj hi
      omega
  · exact hu.1.cell (cell_below hch2 hz q1) (fun e => hM3 _ e.symm rfl)
  · exact hu.1.cell (cell_below hch2 hz q2) (fun e => hM3 _ e.symm rfl)
  · have := hu.1.size
    omega
end Go.Proofs.Ytbmlkomfelkckaa

namespace Go.Proofs.Ytbmlkomfelkckaa
open Go Go.RowKit
set_option maxRecDepth 100000

/-- What is made of the first k arms. -/
def armsTo (T : NT) (p : Nat) (a b : NT) : Nat → List NT
  | 0 => []
  | 1 => arm T p a b
  | _ => arm T p a b ++ arm T p b a

theorem arms_len (T : NT) (p : Nat) (a b : NT) (k : Nat) : (armsTo T p a b k).length ≤ 4 := by
  have h1 := sw1_len a b
  have h2 := sw1_len b a
  match k with
  | 0 => simp [armsTo]
  | 1 => simp [armsTo, arm]; omega
  | k + 2 => simp [armsTo, arm]; omega

set_option maxHeartbeats 16000000 in
theorem nbrs_calls (g c n : Nat) (T : NT) (w : World) (hT : T.On n) (hf : FAt w g c (T.form 0)) :
    Calls Try.prog 81 #[.agg #[.slice (some ⟨g, 0, none⟩) T.size c], .int .i64 (n : Int)] w fun e w' => Below w.heap.size w w' ∧ ∃ A cc vs, e = .returned (.slice A (nbrsUp T T.size).length cc) ∧ TrF w' w.heap.size (.slice A (nbrsUp T T.size).length cc) (nbrsUp T T.size) vs := by
  have hzT := hT.size
  have hfew := hT.few
  have hpos := hT.pos
  have HSW0 : Hid (∀ (W : World) (x y : Nat) (R : NT), Below (w.alloc (.cells #[.slice (some ⟨g, 0, none⟩) T.size c] 26)).heap.size (w.alloc (.cells #[.slice (some ⟨g, 0, none⟩) T.size c] 26)) W → PutTo T x y (T.size - 1) R → R.On n → x < T.size → y < T.size → Calls Try.prog 108 #[.agg #[.slice (some ⟨g, 0, none⟩) T.size c], .int .i64 (x : Int), .int .i64 (y : Int), .int .i64 (n : Int)] W (RetHang W R.norm)) :=
    Lib.hid fun W x y R h hp hR hx hy => swapped_calls g c n x y T R W hT ((hf.below (below_alloc w _)).below h) hx hy hp hR
  obtain ⟨sz, hsz⟩ : ∃ sz, T.size = sz := ⟨_, rfl⟩
  have HSW : Hid (∀ (W : World) (x y : Nat) (R : NT), Below (w.alloc (.cells #[.slice (some ⟨g, 0, none⟩) sz c] 26)).heap.size (w.alloc (.cells #[.slice (some ⟨g, 0, none⟩) sz c] 26)) W → PutTo T x y (T.size - 1) R → R.On n → x < T.size → y < T.size → Calls Try.prog 108 #[.agg #[.slice (some ⟨g, 0, none⟩) sz c], .int .i64 (x : Int), .int .i64 (y : Int), .int .i64 (n : Int)] W (RetHang W R.norm)) := by rw [← hsz]; exact HSW0
  clear HSW0
  have HSZ := Lib.hid hsz
  have hszI : sz ≤ 23 := by omega
  have c0 := new_cell w #[.slice (some ⟨g, 0, none⟩) sz c] 26 0
  have hz0 : w.heap.size < (w.alloc (.cells #[.slice (some ⟨g, 0, none⟩) sz c] 26)).heap.size := by simp
  have HB0 := Lib.hid (below_alloc w (.cells #[.slice (some ⟨g, 0, none⟩) sz c] 26))
  have HF0 := Lib.hid (hf.below HB0.out)
  have hg0 := HF0.out.lt
  have HON := Lib.hid hT
  rw [hsz]
  clear hT hf hzT hfew hpos hsz
  go_enter Try.func81, Try.ntmps81
  go_wp2_with fail
  generalize w.alloc (.cells #[.slice (some ⟨g, 0, none⟩) sz c] 26) = W0 at *
  go_loopg [5, 6] sz (fun gk v5 v6 wr => ∃ (p m : Nat) (A5 : Option Addr) (c5 : Nat) (vs : List Value), v5 = .slice A5 m c5 ∧ v6 = .int .i64 p ∧ p ≤ sz ∧ sz - p ≤ gk ∧ Hid (Below W0.heap.size W0 wr) ∧ Hid (TrF wr W0.heap.size (.slice A5 m c5) (nbrsUp T p) vs) ∧ Hid ((nbrsUp T p).length = m ∧ (m = 0 → Value.slice A5 m c5 = .slice none 0 0)))
  case atStart => exact ⟨0, 0, none, 0, [], rfl, rfl, Nat.zero_le _, by omega, Below.refl _ _, TrF.nil _ _, rfl, fun _ => rfl⟩
  case round =>
    obtain ⟨p, m, A5, c5, vs, rfl, rfl, hp, hg, HB, HT, HM⟩ := hrel
    have t0 := cell_below HB.out hz0 c0
    by_cases hpn : p < sz
    rotate_left
    · obtain rfl : p = sz := by omega
      have i1 : ¬ (p : Int) < (p : Int) := by omega
      go_wp2_with fail
      go_ret
      rw [HM.out.1]
      exact ⟨Below.then HB0.out HB0.out.size HB.out, A5, c5, rfl, vs, HT.out.mono HB0.out.size⟩
    have pI : (p : Int) < (sz : Int) := by omega
    obtain ⟨gk0, rfl⟩ : ∃ g, g = gk := ⟨_, rfl⟩
    have hPc : T.pieces[p]? = some (T.at p) := some_at (by rw [HSZ.out]; exact hpn)
    cases hPa : T.at p with
    | leaf j =>
      rw [hPa] at hPc
      have hbp := put_at hPc
      obtain ⟨ad, he, d0, d1, d2⟩ := (HF0.out.under HB.out hg0).rd _ _ hbp
      obtain rfl : (⟨g, 0, none⟩ : Addr) = ad := by simpa using he
      rw [add_plain] at d0 d1 d2
      dsimp only at d0 d1 d2
      have HL := leaf_calls ⟨(j : Int), 0, 0⟩ (wr.alloc (.cells #[.int .i64 (j : Int), .int .i64 0, .int .i64 0] 64))
      rw [show (((0 : Int) == 0) && ((0 : Int) == 0)) = true from rfl] at HL
      have HLF := Lib.hid HL
      have HNX : Hid (nbrsUp T (p + 1) = nbrsUp T p) := by show _ = _; rw [nbrsUp_succ, nbrsAt_leaf hPc, List.append_nil]
      clear hbp he HL hPa hPc
      go_wp2_with fail
      (with_reducible refine HLF.out.mono ?_)
      rintro _ w5 ⟨rfl, hb5⟩
      have hb5 := Below.then (below_alloc wr (.cells #[.int .i64 (j : Int), .int .i64 0, .int .i64 0] 64)) (below_alloc wr _).size hb5
      have HT5 := Lib.hid (HT.out.below hb5)
      have HB5 := Lib.hid (Below.then HB.out HB.out.size hb5)
      clear hb5 HLF d0 d1 d2 t0
      go_wp2_with fail
      go_roundg (gk0 - 1)
      case measure => omega
      case rel => exact ⟨p + 1, m, A5, c5, vs, rfl, by go_num, by omega, by omega, HB5.out, by rw [HNX.out]; exact HT5.out, by rw [HNX.out]; exact HM.out⟩
    | fork a b =>
      rw [hPa] at hPc
      obtain ⟨hbp, hi2⟩ := put_at hPc
      obtain ⟨_, _, hpa, hpb⟩ := piece_at T 0 p _ hPc
      obtain ⟨ia, hia⟩ : ∃ ia, p - b.size - 1 = ia := ⟨_, rfl⟩
      obtain ⟨ib, hib⟩ : ∃ ib, p - 1 = ib := ⟨_, rfl⟩
      rw [hia, hib] at hbp
      rw [hia] at hpa
      rw [hib] at hpb hi2
      obtain ⟨ad, he, d0, d1, d2⟩ := (HF0.out.under HB.out hg0).rd _ _ hbp
      obtain rfl : (⟨g, 0, none⟩ : Addr) = ad := by simpa using he
      rw [add_plain] at d0 d1 d2
      dsimp only at d0 d1 d2
      have HL := leaf_calls ⟨0, (ia : Int), (ib : Int)⟩ (wr.alloc (.cells #[.int .i64 0, .int .i64 (ia : Int), .int .i64 (ib : Int)] 64))
      rw [show (((ia : Int) == 0) && ((ib : Int) == 0)) = false by rw [Bool.and_eq_false_iff, beq_eq_false_iff_ne, beq_eq_false_iff_ne]; exact .inr (by omega)] at HL
      have HLF := Lib.hid HL
      have q1 := new_cell wr #[.int .i64 0, .int .i64 (ia : Int), .int .i64 (ib : Int)] 64 1
      have q2 := new_cell wr #[.int .i64 0, .int .i64 (ia : Int), .int .i64 (ib : Int)] 64 2
      have hzb : wr.heap.size < (wr.alloc (.cells #[.int .i64 0, .int .i64 (ia : Int), .int .i64 (ib : Int)] 64)).heap.size := by simp
      have HM2 : Hid ((nbrsUp T p ++ armsTo T p a b 0).length = m ∧ (m = 0 → Value.slice A5 m c5 = .slice none 0 0) ∧ ∀ i, (Value.slice A5 m c5).ownBlock = some i → i ≠ wr.heap.size) := by
        refine ⟨by rw [armsTo, List.append_nil]; exact HM.out.1, HM.out.2, fun i hi => ?_⟩
        have := (HT.out.own.lt i hi).2
        omega
      have HPC := Lib.hid hPc
      have HPA := Lib.hid hpa
      have HPB := Lib.hid hpb
      have HIA := Lib.hid hia
      have HIB := Lib.hid hib
      clear hbp he HL hPa hPc hpa hpb hia hib hi2
      go_wp2_with fail
      (with_reducible refine HLF.out.mono ?_)
      rintro _ w5 ⟨rfl, hb5⟩
      have q1 := cell_below hb5 hzb q1
      have q2 := cell_below hb5 hzb q2
      have hz5 : wr.heap.size < w5.heap.size := Nat.lt_of_lt_of_le hzb hb5.size
      have hb5 := Below.then (below_alloc wr (.cells #[.int .i64 0, .int .i64 (ia : Int), .int .i64 (ib : Int)] 64)) (below_alloc wr _).size hb5
      have HT5 : Hid (TrF w5 W0.heap.size (.slice A5 m c5) (nbrsUp T p ++ armsTo T p a b 0) vs) := by show TrF _ _ _ _ _; rw [armsTo, List.append_nil]; exact HT.out.below hb5
      have HB5 := Lib.hid (Below.then HB.out HB.out.size hb5)
      clear hb5 HLF d0 d1 d2 t0 HB HT HM hzb
      go_wp2_with fail
      generalize wr.heap.size = bb at *
      go_loopg [5, 8] 2 (fun gk v5 v8 wk => ∃ (k m : Nat) (A5 : Option Addr) (c5 : Nat) (vs : List Value), v5 = .slice A5 m c5 ∧ v8 = .int .i64 k ∧ k ≤ 2 ∧ 2 - k ≤ gk ∧ Hid (Below W0.heap.size W0 wk) ∧ Hid (TrF wk W0.heap.size (.slice A5 m c5) (nbrsUp T p ++ armsTo T p a b k) vs) ∧ Hid ((nbrsUp T p ++ armsTo T p a b k).length = m ∧ (m = 0 → Value.slice A5 m c5 = .slice none 0 0) ∧ ∀ i, (Value.slice A5 m c5).ownBlock = some i → i ≠ bb) ∧ wk.cell? ⟨bb, 1, none⟩ = some (.int .i64 (ia : Int)) ∧ wk.cell? ⟨bb, 2, none⟩ = some (.int .i64 (ib : Int)) ∧ bb < wk.heap.size)
      case atStart => exact ⟨0, m, A5, c5, vs, rfl, rfl, by omega, by omega, HB5.out, HT5.out, HM2.out, q1, q2, hz5⟩
      case round =>
        clear HB5 HT5 HM2 q1 q2 hz5
        obtain ⟨k, m, A5, c5, vs, rfl, rfl, hk, hgk, HB, HT, HM, q1, q2, hbz⟩ := hrel
        have t0 := cell_below HB.out hz0 c0
        have hPc := HPC.out
        have hpa := HPA.out
        have hpb := HPB.out
        have hia := HIA.out
        have hib := HIB.out
        obtain rfl | rfl | rfl : k = 0 ∨ k = 1 ∨ k = 2 := by omega
        · clear hpb
          have iqI : (ia : Int) < (sz : Int) := by have := piece_lt hpa; rw [HSZ.out] at this; omega
          cases a with
          | leaf j =>
            have hbq := put_at hpa
            obtain ⟨ad, he, d0, d1, d2⟩ := (HF0.out.under HB.out hg0).rd _ _ hbq
            obtain rfl : (⟨g, 0, none⟩ : Addr) = ad := by simpa using he
            rw [add_plain] at d0 d1 d2
            dsimp only at d0 d1 d2
            have HL := leaf_calls ⟨(j : Int), 0, 0⟩ (wr.alloc (.cells #[.int .i64 (j : Int), .int .i64 0, .int .i64 0] 64))
            rw [show (((0 : Int) == 0) && ((0 : Int) == 0)) = true from rfl] at HL
            have HLF := Lib.hid HL
            have HNX : Hid (armsTo T p (.leaf j) b 1 = armsTo T p (.leaf j) b 0) := by show _ = _; simp [armsTo, arm, sw1]
            clear hbq he HL
            go_wp2_with fail
            (with_reducible refine HLF.out.mono ?_)
            rintro _ w7 ⟨rfl, hb7⟩
            have hb7 := Below.then (below_alloc wr (.cells #[.int .i64 (j : Int), .int .i64 0, .int .i64 0] 64)) (below_alloc wr _).size hb7
            have q1 := cell_below hb7 hbz q1
            have q2 := cell_below hb7 hbz q2
            have HT7 := Lib.hid (HT.out.below hb7)
            have HB7 := Lib.hid (Below.then HB.out HB.out.size hb7)
            have hz7 := Nat.lt_of_lt_of_le hbz hb7.size
            clear hb7 HLF d0 d1 d2
            go_wp2_with fail
            go_roundg (gk - 1)
            case measure => omega
            case rel => exact ⟨1, m, A5, c5, vs, rfl, by first | rfl | go_num, by omega, by omega, HB7.out, by rw [HNX.out]; exact HT7.out, by rw [HNX.out]; exact HM.out, q1, q2, hz7⟩
          | fork x1 x2 =>
            obtain ⟨hbq, hj2⟩ := put_at hpa
            have htw := two_left HON.out hPc
            rw [hia, hib] at htw
            obtain ⟨j1, hj1⟩ : ∃ j1, ia - x2.size - 1 = j1 := ⟨_, rfl⟩
            obtain ⟨j2, hj2e⟩ : ∃ j2, ia - 1 = j2 := ⟨_, rfl⟩
            rw [hj1, hj2e] at hbq htw
            rw [hj2e] at hj2
            have hjj : j1 < T.size ∧ j2 < T.size ∧ ib < T.size := by have := piece_lt hpa; have := piece_lt hPc; omega
            obtain ⟨⟨R1, r1, r2, r5⟩, ⟨R2, r3, r4, r6⟩, hl⟩ := htw
            rw [← r5, ← r6] at hl
            obtain ⟨ad, he, d0, d1, d2⟩ := (HF0.out.under HB.out hg0).rd _ _ hbq
            obtain rfl : (⟨g, 0, none⟩ : Addr) = ad := by simpa using he
            rw [add_plain] at d0 d1 d2
            dsimp only at d0 d1 d2
            have HL := leaf_calls ⟨0, (j1 : Int), (j2 : Int)⟩ (wr.alloc (.cells #[.int .i64 0, .int .i64 (j1 : Int), .int .i64 (j2 : Int)] 64))
            rw [show (((j1 : Int) == 0) && ((j2 : Int) == 0)) = false by rw [Bool.and_eq_false_iff, beq_eq_false_iff_ne, beq_eq_false_iff_ne]; exact .inr (by omega)] at HL
            have HLF := Lib.hid HL
            have HS1 := Lib.hid (fun (W : World) (h : Below W0.heap.size W0 W) => HSW.out W j1 ib R1 h r1 r2 hjj.1 hjj.2.2)
            have HS2 := Lib.hid (fun (W : World) (h : Below W0.heap.size W0 W) => HSW.out W j2 ib R2 h r3 r4 hjj.2.1 hjj.2.2)
            have HNX : Hid (armsTo T p (.fork x1 x2) b 1 = armsTo T p (.fork x1 x2) b 0 ++ [R1.norm, R2.norm]) := by show _ = _; rw [← hl]; simp [armsTo]
            have e1 := new_cell wr #[.int .i64 0, .int .i64 (j1 : Int), .int .i64 (j2 : Int)] 64 1
            have e2 := new_cell wr #[.int .i64 0, .int .i64 (j1 : Int), .int .i64 (j2 : Int)] 64 2
            have hzk : wr.heap.size < (wr.alloc (.cells #[.int .i64 0, .int .i64 (j1 : Int), .int .i64 (j2 : Int)] 64)).heap.size := by simp
            clear hbq he HL hj1 hj2e hj2 hjj r1 r2 r3 r4 r5 r6 hl
            go_wp2_with fail
            (with_reducible refine HLF.out.mono ?_)
            rintro _ w7 ⟨rfl, hb7⟩
            have e1 := cell_below hb7 hzk e1
            have e2 := cell_below hb7 hzk e2
            have hz8 : wr.heap.size < w7.heap.size := Nat.lt_of_lt_of_le hzk hb7.size
            have hb7 := Below.then (below_alloc wr (.cells #[.int .i64 0, .int .i64 (j1 : Int), .int .i64 (j2 : Int)] 64)) (below_alloc wr _).size hb7
            have q1 := cell_below hb7 hbz q1
            have q2 := cell_below hb7 hbz q2
            have HT7 := Lib.hid (HT.out.below hb7)
            have HB7 := Lib.hid (Below.then HB.out HB.out.size hb7)
            have t0 := cell_below HB7.out hz0 c0
            have hz7 := Nat.lt_of_lt_of_le hbz hb7.size
            have hzw : w.heap.size < w7.heap.size := Nat.lt_of_lt_of_le hz0 HB7.out.size
            have HOW : Hid (∀ i, (Value.slice A5 m c5).ownBlock = some i → W0.heap.size ≤ i ∧ i < wr.heap.size ∧ i ≠ bb) := fun i hi => ⟨(HT.out.own.lt i hi).1, (HT.out.own.lt i hi).2, HM.out.2.2 i hi⟩
            have HOV : Hid (w7.ownsRow W0.heap.size 26 1 (.slice A5 m c5) m vs) := by have := HT7.out.own; rw [HM.out.1] at this; exact this
            have hmb : m ≤ 96 := by
              have h1 := HM.out.1
              have h2 := nbrsUp_len T p
              have h3 := arms_len T p (.fork x1 x2) b 0
              rw [List.length_append] at h1
              omega
            have HK : Hid (∀ W, Below w7.heap.size w7 W → W.cell? ⟨w.heap.size, 0, none⟩ = some (.slice (some ⟨g, 0, none⟩) sz c) ∧ W.cell? ⟨wr.heap.size, 1, none⟩ = some (.int .i64 (j1 : Int)) ∧ W.cell? ⟨wr.heap.size, 2, none⟩ = some (.int .i64 (j2 : Int))) := fun W h => ⟨cell_below h hzw t0, cell_below h hz8 e1, cell_below h hz8 e2⟩
            have hd7 : Below w7.heap.size w7 w7.drew := (Below.refl _ _).drew
            clear hb7 HLF d0 d1 d2 t0 e1 e2 hzk
            go_wp2_with fail
            go_region_held3 (fun w' => w'.cell? ⟨w.heap.size, 0, none⟩ = some (.slice (some ⟨g, 0, none⟩) sz c) ∧ w'.cell? ⟨wr.heap.size, 1, none⟩ = some (.int .i64 (j1 : Int)) ∧ w'.cell? ⟨wr.heap.size, 2, none⟩ = some (.int .i64 (j2 : Int)))
              (first
                | exact hKA
                | exact HK.out _ hd7
                | exact HK.out _ hch
                | exact HK.out _ (Below.then hch hch.size (below_alloc _ _)))
              (first
                | (go_at_call 108; have hq := hF1; (with_reducible refine (HS2.out _ (Below.then HB7.out HB7.out.size hch)).mono ?_); rintro e w' ⟨g2, cc2, rfl, hF2, hB2⟩; have hF1 := hq.below hB2; have hch := Below.then hch hch.size hB2)
                | (go_at_call 108; have hq := hF2; (with_reducible refine (HS1.out _ (Below.then HB7.out HB7.out.size hch)).mono ?_); rintro e w' ⟨g1, cc1, rfl, hF1, hB1⟩; have hF2 := hq.below hB1; have hch := Below.then hch hch.size hB1)
                | (go_at_call 108; (with_reducible refine (HS1.out _ (Below.then HB7.out HB7.out.size hd7)).mono ?_); rintro e w' ⟨g1, cc1, rfl, hF1, hB1⟩; have hch := Below.then hd7 hd7.size hB1)
                | (go_at_call 108; (with_reducible refine (HS2.out _ (Below.then HB7.out HB7.out.size hd7)).mono ?_); rintro e w' ⟨g2, cc2, rfl, hF2, hB2⟩; have hch := Below.then hd7 hd7.size hB2)
                | (refine step_appendRow (own_below HOV.out (Below.then hch hch.size (below_alloc _ _))) (own_new _ #[.slice (some ⟨g1, 0, none⟩) R1.norm.size cc1, .slice (some ⟨g2, 0, none⟩) R2.norm.size cc2] 26 1 2 _ (Nat.le_refl _) rfl (by omega)) (by omega) (Nat.le_trans HB7.out.size (Below.then hch hch.size (below_alloc _ _)).size) (by omega) 38 Try.underlying38 info_treeN ⟨rfl, by decide, by decide⟩ (by intro u hu; simp at hu; rcases hu with rfl | rfl <;> rfl) (by exact ⟨rfl, rfl, rfl, rfl⟩) ?_
                   intro v1 w1 ho1 hu1
                   have hch2 := Below.then hch hch.size (below_alloc _ (.cells #[.slice (some ⟨g1, 0, none⟩) R1.norm.size cc1, .slice (some ⟨g2, 0, none⟩) R2.norm.size cc2] 26))
                   have hKA := (HK.out _ hch2)
                   have hKA := And.intro (hu1.1.cell hKA.1 (fun e => by have := HOW.out _ e.symm; simp only at this; omega)) (And.intro (hu1.1.cell hKA.2.1 (fun e => by have := HOW.out _ e.symm; simp only at this; omega)) (hu1.1.cell hKA.2.2 (fun e => by have := HOW.out _ e.symm; simp only at this; omega)))))
            all_goals
              obtain ⟨A6, c6, vs6, rfl, hb1, ht1, hm1, q1, q2, hz1⟩ := nb_meet HB7.out HT7.out HM.out hz7 q1 q2 hF1 hF2 hch ho1 hu1
              have HB1 := Lib.hid hb1
              have HT1 := Lib.hid ht1
              have HM1 := Lib.hid hm1
              clear hb1 ht1 hm1 hKA hch2 hu1 ho1 hF1 hF2 hch HS1 HS2 HK HOV HOW HB7 HT7 HB HT HM hd7
              go_wp2_with fail
              go_roundg (gk - 1)
              case measure => omega
              case rel => exact ⟨1, m + 2, A6, c6, vs6, rfl, by first | rfl | go_num, by omega, by omega, HB1.out, by rw [HNX.out, ← List.append_assoc]; exact HT1.out, by rw [HNX.out, ← List.append_assoc]; exact HM1.out, q1, q2, hz1⟩
        · clear hpa
          have iqI : (ib : Int) < (sz : Int) := by have := piece_lt hpb; rw [HSZ.out] at this; omega
          cases b with
          | leaf j =>
            have hbq := put_at hpb
            obtain ⟨ad, he, d0, d1, d2⟩ := (HF0.out.under HB.out hg0).rd _ _ hbq
            obtain rfl : (⟨g, 0, none⟩ : Addr) = ad := by simpa using he
            rw [add_plain] at d0 d1 d2
            dsimp only at d0 d1 d2
            have HL := leaf_calls ⟨(j : Int), 0, 0⟩ (wr.alloc (.cells #[.int .i64 (j : Int), .int .i64 0, .int .i64 0] 64))
            rw [show (((0 : Int) == 0) && ((0 : Int) == 0)) = true from rfl] at HL
            have HLF := Lib.hid HL
            have HNX : Hid (armsTo T p a (.leaf j) 2 = armsTo T p a (.leaf j) 1) := by show _ = _; simp [armsTo, arm, sw1]
            clear hbq he HL
            go_wp2_with fail
            (with_reducible refine HLF.out.mono ?_)
            rintro _ w7 ⟨rfl, hb7⟩
            have hb7 := Below.then (below_alloc wr (.cells #[.int .i64 (j : Int), .int .i64 0, .int .i64 0] 64)) (below_alloc wr _).size hb7
            have q1 := cell_below hb7 hbz q1
            have q2 := cell_below hb7 hbz q2
            have HT7 := Lib.hid (HT.out.below hb7)
            have HB7 := Lib.hid (Below.then HB.out HB.out.size hb7)
            have hz7 := Nat.lt_of_lt_of_le hbz hb7.size
            clear hb7 HLF d0 d1 d2
            go_wp2_with fail
            go_roundg (gk - 1)
            case measure => omega
            case rel => exact ⟨2, m, A5, c5, vs, rfl, by first | rfl | go_num, by omega, by omega, HB7.out, by rw [HNX.out]; exact HT7.out, by rw [HNX.out]; exact HM.out, q1, q2, hz7⟩
          | fork x1 x2 =>
            obtain ⟨hbq, hj2⟩ := put_at hpb
            have htw := two_right HON.out hPc
            rw [hib, hia] at htw
            obtain ⟨j1, hj1⟩ : ∃ j1, ib - x2.size - 1 = j1 := ⟨_, rfl⟩
            obtain ⟨j2, hj2e⟩ : ∃ j2, ib - 1 = j2 := ⟨_, rfl⟩
            rw [hj1, hj2e] at hbq htw
            rw [hj2e] at hj2
            have hjj : j1 < T.size ∧ j2 < T.size ∧ ia < T.size := by have := piece_lt hpb; have := piece_lt hPc; omega
            obtain ⟨⟨R1, r1, r2, r5⟩, ⟨R2, r3, r4, r6⟩, hl⟩ := htw
            rw [← r5, ← r6] at hl
            obtain ⟨ad, he, d0, d1, d2⟩ := (HF0.out.under HB.out hg0).rd _ _ hbq
            obtain rfl : (⟨g, 0, none⟩ : Addr) = ad := by simpa using he
            rw [add_plain] at d0 d1 d2
            dsimp only at d0 d1 d2
            have HL := leaf_calls ⟨0, (j1 : Int), (j2 : Int)⟩ (wr.alloc (.cells #[.int .i64 0, .int .i64 (j1 : Int), .int .i64 (j2 : Int)] 64))
            rw [show (((j1 : Int) == 0) && ((j2 : Int) == 0)) = false by rw [Bool.and_eq_false_iff, beq_eq_false_iff_ne, beq_eq_false_iff_ne]; exact .inr (by omega)] at HL
            have HLF := Lib.hid HL
            have HS1 := Lib.hid (fun (W : World) (h : Below W0.heap.size W0 W) => HSW.out W j1 ia R1 h r1 r2 hjj.1 hjj.2.2)
            have HS2 := Lib.hid (fun (W : World) (h : Below W0.heap.size W0 W) => HSW.out W j2 ia R2 h r3 r4 hjj.2.1 hjj.2.2)
            have HNX : Hid (armsTo T p a (.fork x1 x2) 2 = armsTo T p a (.fork x1 x2) 1 ++ [R1.norm, R2.norm]) := by show _ = _; rw [← hl]; simp [armsTo]
            have e1 := new_cell wr #[.int .i64 0, .int .i64 (j1 : Int), .int .i64 (j2 : Int)] 64 1
            have e2 := new_cell wr #[.int .i64 0, .int .i64 (j1 : Int), .int .i64 (j2 : Int)] 64 2
            have hzk : wr.heap.size < (wr.alloc (.cells #[.int .i64 0, .int .i64 (j1 : Int), .int .i64 (j2 : Int)] 64)).heap.size := by simp
            clear hbq he HL hj1 hj2e hj2 hjj r1 r2 r3 r4 r5 r6 hl
            go_wp2_with fail
            (with_reducible refine HLF.out.mono ?_)
            rintro _ w7 ⟨rfl, hb7⟩
            have e1 := cell_below hb7 hzk e1
            have e2 := cell_below hb7 hzk e2
            have hz8 : wr.heap.size < w7.heap.size := Nat.lt_of_lt_of_le hzk hb7.size
            have hb7 := Below.then (below_alloc wr (.cells #[.int .i64 0, .int .i64 (j1 : Int), .int .i64 (j2 : Int)] 64)) (below_alloc wr _).size hb7
            have q1 := cell_below hb7 hbz q1
            have q2 := cell_below hb7 hbz q2
            have HT7 := Lib.hid (HT.out.below hb7)
            have HB7 := Lib.hid (Below.then HB.out HB.out.size hb7)
            have t0 := cell_below HB7.out hz0 c0
            have hz7 := Nat.lt_of_lt_of_le hbz hb7.size
            have hzw : w.heap.size < w7.heap.size := Nat.lt_of_lt_of_le hz0 HB7.out.size
            have HOW : Hid (∀ i, (Value.slice A5 m c5).ownBlock = some i → W0.heap.size ≤ i ∧ i < wr.heap.size ∧ i ≠ bb) := fun i hi => ⟨(HT.out.own.lt i hi).1, (HT.out.own.lt i hi).2, HM.out.2.2 i hi⟩
            have HOV : Hid (w7.ownsRow W0.heap.size 26 1 (.slice A5 m c5) m vs) := by have := HT7.out.own; rw [HM.out.1] at this; exact this
            have hmb : m ≤ 96 := by
              have h1 := HM.out.1
              have h2 := nbrsUp_len T p
              have h3 := arms_len T p a (.fork x1 x2) 1
              rw [List.length_append] at h1
              omega
            have HK : Hid (∀ W, Below w7.heap.size w7 W → W.cell? ⟨w.heap.size, 0, none⟩ = some (.slice (some ⟨g, 0, none⟩) sz c) ∧ W.cell? ⟨wr.heap.size, 1, none⟩ = some (.int .i64 (j1 : Int)) ∧ W.cell? ⟨wr.heap.size, 2, none⟩ = some (.int .i64 (j2 : Int))) := fun W h => ⟨cell_below h hzw t0, cell_below h hz8 e1, cell_below h hz8 e2⟩
            have hd7 : Below w7.heap.size w7 w7.drew := (Below.refl _ _).drew
            clear hb7 HLF d0 d1 d2 t0 e1 e2 hzk
            go_wp2_with fail
            go_region_held3 (fun w' => w'.cell? ⟨w.heap.size, 0, none⟩ = some (.slice (some ⟨g, 0, none⟩) sz c) ∧ w'.cell? ⟨wr.heap.size, 1, none⟩ = some (.int .i64 (j1 : Int)) ∧ w'.cell? ⟨wr.heap.size, 2, none⟩ = some (.int .i64 (j2 : Int)))
              (first
                | exact hKA
                | exact HK.out _ hd7
                | exact HK.out _ hch
                | exact HK.out _ (Below.then hch hch.size (below_alloc _ _)))
              (first
                | (go_at_call 108; have hq := hF1; (with_reducible refine (HS2.out _ (Below.then HB7.out HB7.out.size hch)).mono ?_); rintro e w' ⟨g2, cc2, rfl, hF2, hB2⟩; have hF1 := hq.below hB2; have hch := Below.then hch hch.size hB2)
                | (go_at_call 108; have hq := hF2; (with_reducible refine (HS1.out _ (Below.then HB7.out HB7.out.size hch)).mono ?_); rintro e w' ⟨g1, cc1, rfl, hF1, hB1⟩; have hF2 := hq.below hB1; have hch := Below.then hch hch.size hB1)
                | (go_at_call 108; (with_reducible refine (HS1.out _ (Below.then HB7.out HB7.out.size hd7)).mono ?_); rintro e w' ⟨g1, cc1, rfl, hF1, hB1⟩; have hch := Below.then hd7 hd7.size hB1)
                | (go_at_call 108; (with_reducible refine (HS2.out _ (Below.then HB7.out HB7.out.size hd7)).mono ?_); rintro e w' ⟨g2, cc2, rfl, hF2, hB2⟩; have hch := Below.then hd7 hd7.size hB2)
                | (refine step_appendRow (own_below HOV.out (Below.then hch hch.size (below_alloc _ _))) (own_new _ #[.slice (some ⟨g1, 0, none⟩) R1.norm.size cc1, .slice (some ⟨g2, 0, none⟩) R2.norm.size cc2] 26 1 2 _ (Nat.le_refl _) rfl (by omega)) (by omega) (Nat.le_trans HB7.out.size (Below.then hch hch.size (below_alloc _ _)).size) (by omega) 38 Try.underlying38 info_treeN ⟨rfl, by decide, by decide⟩ (by intro u hu; simp at hu; rcases hu with rfl | rfl <;> rfl) (by exact ⟨rfl, rfl, rfl, rfl⟩) ?_
                   intro v1 w1 ho1 hu1
                   have hch2 := Below.then hch hch.size (below_alloc _ (.cells #[.slice (some ⟨g1, 0, none⟩) R1.norm.size cc1, .slice (some ⟨g2, 0, none⟩) R2.norm.size cc2] 26))
                   have hKA := (HK.out _ hch2)
                   have hKA := And.intro (hu1.1.cell hKA.1 (fun e => by have := HOW.out _ e.symm; simp only at this; omega)) (And.intro (hu1.1.cell hKA.2.1 (fun e => by have := HOW.out _ e.symm; simp only at this; omega)) (hu1.1.cell hKA.2.2 (fun e => by have := HOW.out _ e.symm; simp only at this; omega)))))
            all_goals
              obtain ⟨A6, c6, vs6, rfl, hb1, ht1, hm1, q1, q2, hz1⟩ := nb_meet HB7.out HT7.out HM.out hz7 q1 q2 hF1 hF2 hch ho1 hu1
              have HB1 := Lib.hid hb1
              have HT1 := Lib.hid ht1
              have HM1 := Lib.hid hm1
              clear hb1 ht1 hm1 hKA hch2 hu1 ho1 hF1 hF2 hch HS1 HS2 HK HOV HOW HB7 HT7 HB HT HM hd7
              go_wp2_with fail
              go_roundg (gk - 1)
              case measure => omega
              case rel => exact ⟨2, m + 2, A6, c6, vs6, rfl, by first | rfl | go_num, by omega, by omega, HB1.out, by rw [HNX.out, ← List.append_assoc]; exact HT1.out, by rw [HNX.out, ← List.append_assoc]; exact HM1.out, q1, q2, hz1⟩
        · have HNX : Hid (nbrsUp T (p + 1) = nbrsUp T p ++ armsTo T p a b 2) := by show _ = _; rw [nbrsUp_succ, nbrsAt_fork hPc]; rfl
          clear hPc hpa hpb hia hib
          go_wp2_with fail
          go_roundg (gk0 - 1)
          case measure => omega
          case rel => exact ⟨p + 1, m, A5, c5, vs, rfl, by go_num, by omega, by omega, HB.out, by rw [HNX.out]; exact HT.out, by rw [HNX.out]; exact ⟨HM.out.1, HM.out.2.1⟩⟩
end Go.Proofs.Ytbmlkomfelkckaa
