/- Circles: the search level by level, as paths. In plain Lean. -/
import Derived.Test.YteonpfomlmfkjaaRankP
import Derived.Test.YteonpfomlmfkjaaRkMem
namespace Go.Proofs.Yteonpfomlmfkjaa

/-- Where arcs lead from v, sorted. -/
def adj (arcs : List (Int × Int)) (v : Int) : List Int := sortI (outs arcs v)

def lastOf (P : List Int) : Int := P.getLastD 0
def nodesOf (line : List (List Int)) : List Int := line.map lastOf

/-- The neighbours of P's end come in, unless one of them is s. -/
def scan (s : Int) (P : List Int) : List Int → List (List Int) → Option (List (List Int))
  | [], line => some line
  | x :: r, line => if x = s then none else if s < x ∧ x ∉ nodesOf line then scan s P r (line ++ [P ++ [x]]) else scan s P r line

/-- c places of the line, from 'at' on. -/
def lev (arcs : List (Int × Int)) (s : Int) : Nat → Nat → List (List Int) → Option (List Int) × List (List Int)
  | 0, _, line => (none, line)
  | c + 1, k, line => match scan s (line.getD k []) (adj arcs (lastOf (line.getD k []))) line with
    | none => (some (line.getD k []), line)
    | some line' => lev arcs s c (k + 1) line'

/-- Level by level, up to so many. -/
def rnd (arcs : List (Int × Int)) (s : Int) : Nat → Nat → List (List Int) → Option (List Int)
  | 0, _, _ => none
  | m + 1, k, line => if line.length ≤ k then none else match lev arcs s (line.length - k) k line with
    | (some P, _) => some P
    | (none, line') => rnd arcs s m line.length line'

def rndNext (arcs : List (Int × Int)) (s : Int) (m len : Nat) : Option (List Int) × List (List Int) → Option (List Int)
  | (some P, _) => some P
  | (none, line') => rnd arcs s m len line'

theorem rnd_succ {arcs : List (Int × Int)} {s : Int} {m k : Nat} {line : List (List Int)} (h : k < line.length) : rnd arcs s (m + 1) k line = rndNext arcs s m line.length (lev arcs s (line.length - k) k line) := by
  rw [rnd, if_neg (by omega)]
  rcases lev arcs s (line.length - k) k line with ⟨_ | P, l'⟩ <;> rfl

def levNext (arcs : List (Int × Int)) (s : Int) (c k : Nat) (line : List (List Int)) : Option (List (List Int)) → Option (List Int) × List (List Int)
  | none => (some (line.getD k []), line)
  | some line' => lev arcs s c (k + 1) line'

theorem lev_succ (arcs : List (Int × Int)) (s : Int) (c k : Nat) (line : List (List Int)) : lev arcs s (c + 1) k line = levNext arcs s c k line (scan s (line.getD k []) (adj arcs (lastOf (line.getD k []))) line) := by
  rw [lev]
  cases scan s (line.getD k []) (adj arcs (lastOf (line.getD k []))) line <;> rfl

def roundOf (arcs : List (Int × Int)) (s : Int) (most : Nat) : Option (List Int) := rnd arcs s most 0 [[s]]

/-- The best circle from the first k nodes. -/
def cycUp (n : Nat) (arcs : List (Int × Int)) : Nat → Option (List Int)
  | 0 => none
  | k + 1 => match roundOf arcs (k : Int) (match cycUp n arcs k with | none => n | some l => l.length - 1) with
    | none => cycUp n arcs k
    | some l => some l

/-- The line as it lies: a node, and the place of the one it came from. -/
structure Line (s : Int) (nf : List (Int × Int)) (line : List (List Int)) : Prop where
  len : nf.length = line.length
  first : nf[0]? = some (s, -1) ∧ line[0]? = some [s]
  next : ∀ (i : Nat) a f, nf[i]? = some (a, f) → 0 < i → ∃ j : Nat, f = (j : Int) ∧ j < i ∧ line[i]? = some (line.getD j [] ++ [a])

theorem lastOf_snoc (P : List Int) (x : Int) : lastOf (P ++ [x]) = x := by simp [lastOf, List.getLastD_eq_getLast?]

theorem Line.start (s : Int) : Line s [(s, -1)] [[s]] := ⟨rfl, ⟨rfl, rfl⟩, fun i a f h hi => by
  obtain ⟨h1, _⟩ := List.getElem?_eq_some_iff.1 h
  simp at h1
  omega⟩

theorem Line.snoc {s : Int} {nf : List (Int × Int)} {line : List (List Int)} (h : Line s nf line) {k : Nat} (hk : k < line.length) (x : Int) : Line s (nf ++ [(x, (k : Int))]) (line ++ [line.getD k [] ++ [x]]) := by
  have hl := h.len
  refine ⟨by simp [hl], ?_, fun i a f hi hpos => ?_⟩
  · obtain ⟨h1, h2⟩ := h.first
    exact ⟨by rw [List.getElem?_append_left (by omega)]; exact h1, by rw [List.getElem?_append_left (by omega)]; exact h2⟩
  · by_cases hin : i < nf.length
    · rw [List.getElem?_append_left hin] at hi
      obtain ⟨j, h1, h2, h3⟩ := h.next i a f hi hpos
      refine ⟨j, h1, h2, ?_⟩
      rw [List.getElem?_append_left (by omega), h3]
      congr 2
      rw [List.getD_eq_getElem?_getD, List.getD_eq_getElem?_getD, List.getElem?_append_left (by omega)]
    · have hi1 := (List.getElem?_eq_some_iff.1 hi).1
      simp at hi1
      obtain rfl : i = nf.length := by omega
      rw [List.getElem?_append_right (Nat.le_refl _), Nat.sub_self] at hi
      obtain ⟨rfl, rfl⟩ : x = a ∧ (k : Int) = f := by simpa using hi
      refine ⟨k, rfl, by omega, ?_⟩
      rw [List.getElem?_append_right (by omega), hl, Nat.sub_self]
      have e : (line ++ [line.getD k [] ++ [x]]).getD k [] = line.getD k [] := by
        rw [List.getD_eq_getElem?_getD, List.getD_eq_getElem?_getD, List.getElem?_append_left hk]
      rw [e]
      rfl

theorem Line.node {s : Int} {nf : List (Int × Int)} {line : List (List Int)} (h : Line s nf line) {i : Nat} {a f : Int} (hi : nf[i]? = some (a, f)) : lastOf (line.getD i []) = a := by
  by_cases e : i = 0
  · subst e
    obtain ⟨h1, h2⟩ := h.first
    rw [h1] at hi
    obtain ⟨rfl, _⟩ : s = a ∧ (-1 : Int) = f := by simpa using hi
    rw [List.getD_eq_getElem?_getD, h2]
    rfl
  · obtain ⟨j, _, _, h3⟩ := h.next i a f hi (by omega)
    rw [List.getD_eq_getElem?_getD, h3, Option.getD_some, lastOf_snoc]

theorem nodesOf_snoc (line : List (List Int)) (P : List Int) (x : Int) : nodesOf (line ++ [P ++ [x]]) = nodesOf line ++ [x] := by simp [nodesOf, lastOf_snoc]

theorem nodesOf_length (line : List (List Int)) : (nodesOf line).length = line.length := by simp [nodesOf]

theorem mem_sortI {l : List Int} {x : Int} : x ∈ sortI l ↔ x ∈ l := (sortI_perm l).mem_iff

theorem mem_outs' {arcs : List (Int × Int)} {v x : Int} : x ∈ outs arcs v ↔ (v, x) ∈ arcs := by
  unfold outs
  rw [List.mem_map]
  constructor
  · rintro ⟨a, ha, rfl⟩
    obtain ⟨h1, h2⟩ := List.mem_filter.1 ha
    have : a.1 = v := by simpa using h2
    rw [← this]
    exact h1
  · intro h
    exact ⟨(v, x), List.mem_filter.2 ⟨h, by simp⟩, rfl⟩

theorem cycUp_succ (n : Nat) (arcs : List (Int × Int)) (k : Nat) : cycUp n arcs (k + 1) = (roundOf arcs (k : Int) (match cycUp n arcs k with | none => n | some l => l.length - 1)).or (cycUp n arcs k) := by
  rw [cycUp]
  cases roundOf arcs (k : Int) (match cycUp n arcs k with | none => n | some l => l.length - 1) <;> rfl
end Go.Proofs.Yteonpfomlmfkjaa
