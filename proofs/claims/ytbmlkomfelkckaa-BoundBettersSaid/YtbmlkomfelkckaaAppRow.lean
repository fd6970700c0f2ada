/- A row of the call's own that is appended to another one. -/
import Derived.Test.YtbmlkomfelkckaaMem
namespace Go.Proofs.Ytbmlkomfelkckaa
open Go Go.RowKit

/-- Where an own row's cells lie. -/
theorem own_at {w : World} {base n c : Nat} {e : TypeId} {size : Nat} {A : Option Addr} {xs : List Value} (h : w.ownsRow base e size (.slice A n c) n xs) (hn : 0 < n) : ∃ g, A = some ⟨g, 0, none⟩ ∧ g < w.heap.size ∧ base ≤ g ∧ ∀ j u, xs[j]? = some u → w.cell? ((⟨g, 0, none⟩ : Addr).add j) = some u := by
  rcases h.2 with ⟨_, h1⟩ | ⟨g, cap, cur, h1, hg, hh, _⟩
  · omega
  · obtain ⟨A', c', he, _, hc⟩ := cells_of_own h
    obtain ⟨rfl, rfl⟩ : A = A' ∧ c = c' := by simpa using he
    obtain ⟨rfl, _⟩ : A = some ⟨g, 0, none⟩ ∧ c = cap := by simpa using h1
    refine ⟨g, rfl, (Array.getElem?_eq_some_iff.1 hh).1, hg, fun j u hu => ?_⟩
    obtain ⟨g', hg', hcell⟩ := hc j u hu
    obtain rfl : g = g' := by simpa using hg'
    rw [add_plain]
    exact hcell

/-- 'append(s, x...)' of an own row, at the walk. -/
theorem walk_appendRow {P : Program} {ops : Array Oper} {rest : List Oper} {o : Oper} {a : Act} {Q : Exit → Act → World → Prop} {W : World} {base base2 : Nat} {e : TypeId} {size : Nat} {v : Value} {n m c2 : Nat} {A2 : Option Addr} {xs ys : List Value}
    (HO : W.ownsRow base e size v n xs) (HO2 : W.ownsRow base2 e size (.slice A2 m c2) m ys) (hm : 0 < m) (hbase : base ≤ W.heap.size) (hl : n + m ≤ 1000000000) (t : TypeId) (ht : P.underlying t = some (.slice e)) {z : Value} {bytes : Nat}
    (hinfo : (P.info? e).map (fun i => (i.zero, i.size, i.bytes)) = some (some z, size, bytes)) (hz : z.cells.size = size ∧ 0 < size ∧ bytes ≤ 1000) (h1 : ∀ u ∈ ys, u.oneCell' = true)
    {s x : Operand} (hop : o.guard = none ∧ o.op = .call { callee := .builtin .append, args := #[s, x], argTypes := #[t, t] } ∧ a.eval s = v ∧ a.eval x = .slice A2 m c2)
    (h : ∀ v1 w1, w1.ownsRow base e size v1 (n + m) (xs ++ ys) → Upd W w1 v v1 → wpList P ops Q rest (a.put o.dst v1) w1) :
    wpList P ops Q (o :: rest) a W := by
  obtain ⟨hgd, ho, hs, hx⟩ := hop
  obtain ⟨g, rfl, _, _, hc⟩ := own_at HO2 hm
  obtain ⟨i0, hi, hz0, hz1, hz2⟩ := info_parts hinfo
  have hb : (n + m) * bytes ≤ 1000000000 * 1000 := Nat.mul_le_mul hl hz.2.2
  refine wpList_append_own_at W hgd s x t ho base e i0 z size bytes ht hi hz0 hz1 hz2 hz.1 hz.2.1 v n xs hs HO ⟨g, 0, none⟩ m c2 ys hx HO2.1 hc h1 (by simp only [maxLen]; omega) (by omega) hbase ?_
  intro v1 w1 hown hg _ hat
  refine h v1 w1 hown ⟨hg, ?_⟩
  rcases hat with hat | hat
  · exact .inl hat
  · exact .inr ⟨_, hat, Nat.le_refl _⟩

/-- The same as one step of a region that draws its order. -/
theorem step_appendRow {P : Program} {ops : Array Oper} {o : Oper} {a : Act} {K : Act → World → Prop} {Q : Exit → Act → World → Prop} {E : Prop} {W : World} {base base2 : Nat} {e : TypeId} {size : Nat} {v : Value} {n m c2 : Nat} {A2 : Option Addr} {xs ys : List Value}
    (HO : W.ownsRow base e size v n xs) (HO2 : W.ownsRow base2 e size (.slice A2 m c2) m ys) (hm : 0 < m) (hbase : base ≤ W.heap.size) (hl : n + m ≤ 1000000000) (t : TypeId) (ht : P.underlying t = some (.slice e)) {z : Value} {bytes : Nat}
    (hinfo : (P.info? e).map (fun i => (i.zero, i.size, i.bytes)) = some (some z, size, bytes)) (hz : z.cells.size = size ∧ 0 < size ∧ bytes ≤ 1000) (h1 : ∀ u ∈ ys, u.oneCell' = true)
    {s x : Operand} (hop : o.guard = none ∧ o.op = .call { callee := .builtin .append, args := #[s, x], argTypes := #[t, t] } ∧ a.eval s = v ∧ a.eval x = .slice A2 m c2)
    (h : ∀ v1 w1, w1.ownsRow base e size v1 (n + m) (xs ++ ys) → Upd W w1 v v1 → K (a.put o.dst v1) w1) :
    if Region.wanted o (yielded ops a.tmps) = true then Oper.wp P o a W K Q else E := by
  obtain ⟨hgd, ho, hs, hx⟩ := hop
  obtain ⟨g, rfl, _, _, hc⟩ := own_at HO2 hm
  obtain ⟨i0, hi, hz0, hz1, hz2⟩ := info_parts hinfo
  have hb : (n + m) * bytes ≤ 1000000000 * 1000 := Nat.mul_le_mul hl hz.2.2
  refine step_append_lies W hgd s x t ho base e i0 z size bytes ht hi hz0 hz1 hz2 hz.1 hz.2.1 v n xs hs HO ⟨g, 0, none⟩ m c2 ys hx HO2.1 hc h1 hm (by simp only [maxLen]; omega) (by omega) hbase _ rfl ?_
  intro g' cap w1 hown hg hat _
  refine h _ w1 hown ⟨hg, ?_⟩
  rcases hat with hat | hat
  · exact .inl hat.symm
  · exact .inr ⟨g', rfl, Nat.le_of_eq hat.symm⟩

/-- A row that was laid by the call itself, as an own row. -/
theorem own_new (w : World) (cs : Array Value) (e : TypeId) (size n base : Nat) (hb : base ≤ w.heap.size) (hs : cs.size = n * size) (hn : n ≤ 1000000000) :
    (w.alloc (.cells cs e)).ownsRow base e size (.slice (some ⟨w.heap.size, 0, none⟩) n n) n cs.toList :=
  ⟨by simpa using hs, .inr ⟨w.heap.size, n, cs, rfl, hb, alloc_at w _, Nat.le_refl _, by simp only [maxLen]; omega, hs, by rw [← hs]; first | exact (List.take_of_length_le (Nat.le_refl _)).symm | exact (List.take_of_length_le (Nat.le_refl _)) | simp⟩⟩
end Go.Proofs.Ytbmlkomfelkckaa
