/- A tree's text, read: by going down into each bracket, and by a stack of brackets that are open: the same. In plain Lean. -/
import Derived.Test.YtbmlkomfelkckaaNames
import Derived.Test.YtbmlkomfelkckaaFormP
import Derived.Test.YtbmlkomfelkckaaBnd
namespace Go.Proofs.Ytbmlkomfelkckaa

/-- The byte at a place; behind the end none is. -/
def byteAt (s : ByteArray) (i : Nat) : Nat := if h : i < s.size then (s[i]'h).toNat else 256

theorem byteAt_lt {s : ByteArray} {i : Nat} (h : i < s.size) : byteAt s i = (s[i]'h).toNat := by unfold byteAt; rw [dif_pos h]

/-- Where the word ends that begins at 'i', looking at no more than so many bytes. -/
def wordEnd (s : ByteArray) : Nat → Nat → Nat
  | 0, i => i
  | f + 1, i => if i < s.size ∧ wordI (byteAt s i : Int) = true then wordEnd s f (i + 1) else i

def wend (s : ByteArray) (i : Nat) : Nat := wordEnd s (s.size - i) i

structure IsEnd (s : ByteArray) (i j : Nat) : Prop where
  le : i ≤ j
  word : ∀ m, i ≤ m → m < j → m < s.size ∧ wordI (byteAt s m : Int) = true
  stop : j < s.size → wordI (byteAt s j : Int) = false

theorem IsEnd.unique {s : ByteArray} {i j k : Nat} (h : IsEnd s i j) (g : IsEnd s i k) : j = k := by
  rcases Nat.lt_trichotomy j k with hl | hl | hl
  · obtain ⟨h1, h2⟩ := g.word j h.le hl
    rw [h.stop h1] at h2
    cases h2
  · exact hl
  · obtain ⟨h1, h2⟩ := h.word k g.le hl
    rw [g.stop h1] at h2
    cases h2

theorem wordEnd_is (s : ByteArray) : ∀ f i, s.size - i ≤ f → IsEnd s i (wordEnd s f i)
  | 0, i, h => ⟨Nat.le_refl _, fun m h1 h2 => by simp only [wordEnd] at h2; omega, fun h1 => by simp only [wordEnd] at h1; omega⟩
  | f + 1, i, h => by
    rw [wordEnd]
    by_cases hc : i < s.size ∧ wordI (byteAt s i : Int) = true
    · rw [if_pos hc]
      have ih := wordEnd_is s f (i + 1) (by omega)
      refine ⟨by have := ih.le; omega, fun m h1 h2 => ?_, ih.stop⟩
      by_cases hm : m = i
      · subst hm; exact hc
      · exact ih.word m (by omega) h2
    · rw [if_neg hc]
      refine ⟨Nat.le_refl _, fun m h1 h2 => by omega, fun h1 => ?_⟩
      cases hw : wordI (byteAt s i : Int)
      · rfl
      · exact absurd ⟨h1, hw⟩ hc

theorem wend_is (s : ByteArray) (i : Nat) : IsEnd s i (wend s i) := wordEnd_is s _ i (Nat.le_refl _)

theorem wend_le {s : ByteArray} {i : Nat} (h : i ≤ s.size) : wend s i ≤ s.size := by
  have hw := wend_is s i
  rcases Nat.lt_or_ge s.size (wend s i) with hl | hl
  · have := (hw.word (wend s i - 1) (by omega) (by omega)).1
    omega
  · exact hl

theorem wend_word {s : ByteArray} {i : Nat} (h : i < s.size) : i < wend s i ↔ wordI (byteAt s i : Int) = true := by
  have hw := wend_is s i
  constructor
  · intro h1
    exact (hw.word i (Nat.le_refl _) h1).2
  · intro h1
    rcases Nat.lt_or_ge i (wend s i) with hl | hl
    · exact hl
    · have e : wend s i = i := by have := hw.le; omega
      have := hw.stop (by rw [e]; exact h)
      rw [e, h1] at this
      cases this

/-! ## Down into each bracket -/

inductive PR where
  | err (at' : Nat)
  | ok (at' : Nat) (T : NT) (had : List Nat)

/-- The bytes from 'i' to 'j'. -/
def wordOf (s : ByteArray) (i j : Nat) : List UInt8 := (s.extract i j).toList

/-- A name at 'i'. -/
def leafAt (s : ByteArray) (ns : List ByteArray) (i : Nat) (had : List Nat) : PR :=
  if wend s i = i then .err i
  else match idx ns (wordOf s i (wend s i)) with
    | some k => if k ∈ had then .err i else .ok (wend s i) (.leaf k) (had ++ [k])
    | none => .err i

def rdP (s : ByteArray) (ns : List ByteArray) : Nat → Nat → List Nat → PR
  | 0, i, _ => .err i
  | f + 1, i, had =>
    if i < s.size then
      if byteAt s i = 40 then
        match rdP s ns f (i + 1) had with
        | .err e => .err e
        | .ok a1 A h1 =>
          if a1 < s.size ∧ byteAt s a1 = 44 then
            match rdP s ns f (a1 + 1) h1 with
            | .err e => .err e
            | .ok b1 B h2 => if b1 < s.size ∧ byteAt s b1 = 41 then .ok (b1 + 1) (.fork A B) h2 else .err b1
          else .err a1
      else leafAt s ns i had
    else .err i

theorem leafAt_ok {s : ByteArray} {ns : List ByteArray} {i : Nat} {had : List Nat} {a : Nat} {T : NT} {h : List Nat} (hi : i < s.size) (he : leafAt s ns i had = .ok a T h) :
    ∃ k, T = .leaf k ∧ h = had ++ [k] ∧ k ∉ had ∧ a = wend s i ∧ i < a ∧ a ≤ s.size ∧ idx ns (wordOf s i (wend s i)) = some k := by
  unfold leafAt at he
  have h1 := (wend_is s i).le
  have h2 := wend_le (s := s) (i := i) (by omega)
  by_cases hw : wend s i = i
  · rw [if_pos hw] at he; cases he
  · rw [if_neg hw] at he
    cases hx : idx ns (wordOf s i (wend s i)) with
    | none => rw [hx] at he; cases he
    | some k =>
      rw [hx] at he
      simp only at he
      by_cases hk : k ∈ had
      · rw [if_pos hk] at he; cases he
      · rw [if_neg hk] at he
        cases he
        exact ⟨k, rfl, rfl, hk, rfl, by omega, h2, rfl⟩

theorem rdP_le (s : ByteArray) (ns : List ByteArray) : ∀ (f i : Nat) (had : List Nat) (a : Nat) (T : NT) (h : List Nat), rdP s ns f i had = .ok a T h → i < a ∧ a ≤ s.size
  | 0, i, had, a, T, h, he => by cases he
  | f + 1, i, had, a, T, h, he => by
    rw [rdP] at he
    by_cases hi : i < s.size
    · rw [if_pos hi] at he
      by_cases h40 : byteAt s i = 40
      · rw [if_pos h40] at he
        cases e1 : rdP s ns f (i + 1) had with
        | err e => rw [e1] at he; cases he
        | ok a1 A h1 =>
          rw [e1] at he
          simp only at he
          have k1 := rdP_le s ns f (i + 1) had a1 A h1 e1
          by_cases c1 : a1 < s.size ∧ byteAt s a1 = 44
          · rw [if_pos c1] at he
            cases e2 : rdP s ns f (a1 + 1) h1 with
            | err e => rw [e2] at he; cases he
            | ok b1 B h2 =>
              rw [e2] at he
              simp only at he
              have k2 := rdP_le s ns f (a1 + 1) h1 b1 B h2 e2
              by_cases c2 : b1 < s.size ∧ byteAt s b1 = 41
              · rw [if_pos c2] at he
                cases he
                omega
              · rw [if_neg c2] at he; cases he
          · rw [if_neg c1] at he; cases he
      · rw [if_neg h40] at he
        obtain ⟨k, _, _, _, _, q1, q2, _⟩ := leafAt_ok hi he
        exact ⟨q1, q2⟩
    · rw [if_neg hi] at he; cases he

/-! ## A stack of open brackets -/

structure MSt where
  at' : Nat
  stack : List (Option NT)
  had : List Nat

inductive MRes where
  | err (e : Nat)
  | whole (at' : Nat) (T : NT) (had : List Nat)

def topFree : List (Option NT) → Bool
  | [] => true
  | none :: _ => true
  | some _ :: _ => false

/-- A part is awaited: a bracket is opened at once. -/
def expect (s : ByteArray) (i : Nat) (stack : List (Option NT)) (had : List Nat) : MSt :=
  if i < s.size ∧ byteAt s i = 40 then ⟨i + 1, none :: stack, had⟩ else ⟨i, stack, had⟩

/-- A part is done: into its bracket, and what that ends. -/
def deliver (s : ByteArray) : Nat → List (Option NT) → NT → List Nat → MSt ⊕ MRes
  | i, [], T, had => .inr (.whole i T had)
  | i, none :: rest, T, had => if i < s.size ∧ byteAt s i = 44 then .inl (expect s (i + 1) (some T :: rest) had) else .inr (.err i)
  | i, some A :: rest, T, had => if i < s.size ∧ byteAt s i = 41 then deliver s (i + 1) rest (mkFork A T) had else .inr (.err i)

def mstep (s : ByteArray) (ns : List ByteArray) (st : MSt) : MSt ⊕ MRes :=
  if st.at' < s.size then
    if byteAt s st.at' = 40 ∧ topFree st.stack = true then .inl ⟨st.at' + 1, none :: st.stack, st.had⟩
    else match leafAt s ns st.at' st.had with
      | .err e => .inr (.err e)
      | .ok a T h => deliver s a st.stack T h
  else .inr (.err st.at')

inductive Runs (s : ByteArray) (ns : List ByteArray) : MSt → MRes → Prop
  | halt {st : MSt} {r : MRes} (h : mstep s ns st = .inr r) : Runs s ns st r
  | next {st st' : MSt} {r : MRes} (h : mstep s ns st = .inl st') (k : Runs s ns st' r) : Runs s ns st r

def RunsD (s : ByteArray) (ns : List ByteArray) (x : MSt ⊕ MRes) (r : MRes) : Prop :=
  match x with
  | .inl st => Runs s ns st r
  | .inr r' => r' = r

theorem Runs.inv {s : ByteArray} {ns : List ByteArray} {st : MSt} {r : MRes} (h : Runs s ns st r) : RunsD s ns (mstep s ns st) r := by
  cases h with
  | halt h => rw [h]; rfl
  | next h k => rw [h]; exact k

theorem RunsD.runs {s : ByteArray} {ns : List ByteArray} {st : MSt} {r : MRes} (h : RunsD s ns (mstep s ns st) r) : Runs s ns st r := by
  cases e : mstep s ns st with
  | inl st' => rw [e] at h; exact .next e h
  | inr r' => rw [e] at h; cases h; exact .halt e

/-- Before a bracket that may open the two are one. -/
theorem runs_expect {s : ByteArray} {ns : List ByteArray} {i : Nat} {stack : List (Option NT)} {had : List Nat} {r : MRes} (hf : topFree stack = true) (h : Runs s ns (expect s i stack had) r) : Runs s ns ⟨i, stack, had⟩ r := by
  unfold expect at h
  by_cases hc : i < s.size ∧ byteAt s i = 40
  · rw [if_pos hc] at h
    refine .next ?_ h
    unfold mstep
    rw [if_pos hc.1, if_pos ⟨hc.2, hf⟩]
  · rw [if_neg hc] at h
    exact h

theorem leaf_norm {s : ByteArray} {ns : List ByteArray} {i a : Nat} {had h : List Nat} {T : NT} (hi : i < s.size) (he : leafAt s ns i had = .ok a T h) : T.norm = T := by
  obtain ⟨k, rfl, _⟩ := leafAt_ok hi he
  rfl

theorem sim (s : ByteArray) (ns : List ByteArray) : ∀ (f i : Nat) (had : List Nat) (stack : List (Option NT)), s.size - i < f →
    (∀ a T h, rdP s ns f i had = .ok a T h → ∀ r, RunsD s ns (deliver s a stack T.norm h) r → Runs s ns (expect s i stack had) r) ∧
    (∀ e, rdP s ns f i had = .err e → Runs s ns (expect s i stack had) (.err e))
  | 0, i, had, stack, hf => by omega
  | f + 1, i, had, stack, hf => by
    rw [rdP]
    by_cases hi : i < s.size
    · rw [if_pos hi]
      by_cases h40 : byteAt s i = 40
      · rw [if_pos h40]
        have ex : expect s i stack had = ⟨i + 1, none :: stack, had⟩ := by unfold expect; rw [if_pos ⟨hi, h40⟩]
        rw [ex]
        obtain ⟨ih1, ih2⟩ := sim s ns f (i + 1) had (none :: stack) (by omega)
        cases e1 : rdP s ns f (i + 1) had with
        | err e =>
          refine ⟨fun a T h q => (by cases q), fun e' q => ?_⟩
          cases q
          exact runs_expect rfl (ih2 _ e1)
        | ok a1 A h1 =>
          have hle := rdP_le s ns f _ _ _ _ _ e1
          simp only
          have hgo : ∀ r, RunsD s ns (deliver s a1 (none :: stack) A.norm h1) r → Runs s ns ⟨i + 1, none :: stack, had⟩ r := fun r hr => runs_expect rfl (ih1 _ _ _ e1 r hr)
          by_cases c1 : a1 < s.size ∧ byteAt s a1 = 44
          · rw [if_pos c1]
            have hd1 : deliver s a1 (none :: stack) A.norm h1 = .inl (expect s (a1 + 1) (some A.norm :: stack) h1) := by rw [deliver, if_pos c1]
            obtain ⟨ih3, ih4⟩ := sim s ns f (a1 + 1) h1 (some A.norm :: stack) (by omega)
            cases e2 : rdP s ns f (a1 + 1) h1 with
            | err e =>
              refine ⟨fun a T h q => (by cases q), fun e' q => ?_⟩
              cases q
              exact hgo _ (by rw [hd1]; exact ih4 _ e2)
            | ok b1 B h2 =>
              simp only
              by_cases c2 : b1 < s.size ∧ byteAt s b1 = 41
              · rw [if_pos c2]
                refine ⟨fun a T h q r hr => ?_, fun e q => (by cases q)⟩
                cases q
                exact hgo r (by rw [hd1]; exact ih3 _ _ _ e2 r (by rw [deliver, if_pos c2]; exact hr))
              · rw [if_neg c2]
                refine ⟨fun a T h q => (by cases q), fun e' q => ?_⟩
                cases q
                exact hgo _ (by rw [hd1]; exact ih3 _ _ _ e2 _ (by rw [deliver, if_neg c2]; rfl))
          · rw [if_neg c1]
            refine ⟨fun a T h q => (by cases q), fun e' q => ?_⟩
            cases q
            exact hgo _ (by rw [deliver, if_neg c1]; rfl)
      · rw [if_neg h40]
        have ex : expect s i stack had = ⟨i, stack, had⟩ := by unfold expect; rw [if_neg (fun q => h40 q.2)]
        rw [ex]
        have hm : mstep s ns ⟨i, stack, had⟩ = match leafAt s ns i had with
            | .err e => .inr (.err e)
            | .ok a T h => deliver s a stack T h := by
          unfold mstep
          rw [if_pos hi, if_neg (fun q => h40 q.1)]
        refine ⟨fun a T h q r hr => RunsD.runs ?_, fun e q => RunsD.runs ?_⟩
        · rw [hm, q]
          simp only
          rw [leaf_norm hi q] at hr
          exact hr
        · rw [hm, q]
          rfl
    · rw [if_neg hi]
      refine ⟨fun a T h q => (by cases q), fun e q => ?_⟩
      cases q
      have ex : expect s i stack had = ⟨i, stack, had⟩ := by unfold expect; rw [if_neg (fun q => hi q.1)]
      rw [ex]
      refine .halt ?_
      unfold mstep
      rw [if_neg hi]

/-- The whole text. -/
def whole (s : ByteArray) (ns : List ByteArray) : PR := rdP s ns (s.size + 1) 0 []

def PR.res : PR → MRes
  | .err e => .err e
  | .ok a T h => .whole a T.norm h

theorem runs_whole (s : ByteArray) (ns : List ByteArray) : Runs s ns ⟨0, [], []⟩ (whole s ns).res := by
  obtain ⟨h1, h2⟩ := sim s ns (s.size + 1) 0 [] [] (by omega)
  refine runs_expect rfl ?_
  unfold whole
  cases e : rdP s ns (s.size + 1) 0 [] with
  | err e' => exact h2 _ e
  | ok a T h => exact h1 _ _ _ e _ rfl

/-! ## What is told -/

/-- What holds of what was read. -/
structure RdOk (ns : List ByteArray) (had : List Nat) (T : NT) (h : List Nat) : Prop where
  more : ∃ l, h = had ++ l ∧ l.Perm T.leaves
  nodup : had.Nodup → h.Nodup
  range : (∀ k ∈ had, k < ns.length) → ∀ k ∈ h, k < ns.length

theorem idxFrom_range {l : List UInt8} : ∀ {k : Nat} {ns : List ByteArray} {i : Nat}, idxFrom l k ns = some i → k ≤ i ∧ i < k + ns.length
  | _, [], _, h => by cases h
  | k, x :: xs, i, h => by
    rw [idxFrom] at h
    split at h
    · cases h
      simp
    · have := idxFrom_range h
      simp only [List.length_cons]
      omega

theorem rdP_ok (s : ByteArray) (ns : List ByteArray) : ∀ (f i : Nat) (had : List Nat) (a : Nat) (T : NT) (h : List Nat), rdP s ns f i had = .ok a T h → RdOk ns had T h
  | 0, i, had, a, T, h, he => by cases he
  | f + 1, i, had, a, T, h, he => by
    rw [rdP] at he
    by_cases hi : i < s.size
    · rw [if_pos hi] at he
      by_cases h40 : byteAt s i = 40
      · rw [if_pos h40] at he
        cases e1 : rdP s ns f (i + 1) had with
        | err e => rw [e1] at he; cases he
        | ok a1 A h1 =>
          rw [e1] at he
          simp only at he
          have k1 := rdP_ok s ns f (i + 1) had a1 A h1 e1
          by_cases c1 : a1 < s.size ∧ byteAt s a1 = 44
          · rw [if_pos c1] at he
            cases e2 : rdP s ns f (a1 + 1) h1 with
            | err e => rw [e2] at he; cases he
            | ok b1 B h2 =>
              rw [e2] at he
              simp only at he
              have k2 := rdP_ok s ns f (a1 + 1) h1 b1 B h2 e2
              by_cases c2 : b1 < s.size ∧ byteAt s b1 = 41
              · rw [if_pos c2] at he
                cases he
                obtain ⟨l1, r1, q1⟩ := k1.more
                obtain ⟨l2, r2, q2⟩ := k2.more
                exact ⟨⟨l1 ++ l2, by rw [r2, r1, List.append_assoc], by simp only [NT.leaves]; exact q1.append q2⟩, fun hn => k2.nodup (k1.nodup hn), fun hr => k2.range (k1.range hr)⟩
              · rw [if_neg c2] at he; cases he
          · rw [if_neg c1] at he; cases he
      · rw [if_neg h40] at he
        obtain ⟨k, rfl, rfl, hk, _, _, _, hx⟩ := leafAt_ok hi he
        refine ⟨⟨[k], rfl, List.Perm.refl _⟩, fun hn => ?_, fun hr j hj => ?_⟩
        · refine List.nodup_append.2 ⟨hn, by simp, ?_⟩
          intro x hxm y hy
          simp at hy
          subst hy
          exact fun e => hk (e ▸ hxm)
        · simp only [List.mem_append, List.mem_singleton] at hj
          rcases hj with hj | rfl
          · exact hr j hj
          · have := idxFrom_range hx
            omega
    · rw [if_neg hi] at he; cases he

theorem whole_ok {s : ByteArray} {ns : List ByteArray} {a : Nat} {T : NT} {h : List Nat} (he : whole s ns = .ok a T h) : T.leaves.Nodup ∧ (∀ k ∈ T.leaves, k < ns.length) ∧ h.length = T.leaves.length ∧ T.size + 1 = 2 * h.length ∧ h.Nodup ∧ a ≤ s.size := by
  have k := rdP_ok s ns _ _ _ _ _ _ he
  obtain ⟨l, r, p⟩ := k.more
  simp only [List.nil_append] at r
  subst r
  have h1 := k.nodup (by simp)
  have h2 := k.range (by simp)
  have h3 := size_leaves T
  refine ⟨p.nodup_iff.1 h1, fun j hj => h2 j (p.mem_iff.2 hj), p.length_eq, by rw [p.length_eq]; exact h3, h1, (rdP_le s ns _ _ _ _ _ _ he).2⟩

theorem norm_perm : ∀ T : NT, T.norm.leaves.Perm T.leaves
  | .leaf k => List.Perm.refl _
  | .fork a b => by
    have ha := norm_perm a
    have hb := norm_perm b
    rw [NT.norm]
    unfold mkFork
    split
    · simp only [NT.leaves]
      exact (hb.append ha).trans List.perm_append_comm
    · simp only [NT.leaves]
      exact ha.append hb

/-- What the stack's run tells of a whole text. -/
theorem whole_res {s : ByteArray} {ns : List ByteArray} {i : Nat} {T : NT} {h : List Nat} (he : (whole s ns).res = .whole i T h) : T.leaves.Nodup ∧ (∀ k ∈ T.leaves, k < ns.length) ∧ h.length = T.leaves.length ∧ T.size + 1 = 2 * h.length ∧ h.length ≤ ns.length ∧ T.Norm := by
  cases hw : whole s ns with
  | err e => rw [hw] at he; cases he
  | ok a U h' =>
    rw [hw] at he
    obtain ⟨rfl, rfl, rfl⟩ : a = i ∧ U.norm = T ∧ h' = h := by
      simp only [PR.res, MRes.whole.injEq] at he
      exact he
    obtain ⟨h1, h2, h3, h4, h5, h6⟩ := whole_ok hw
    have hp := norm_perm U
    have h7 : U.leaves.length ≤ ns.length := by
      have := nodup_len U.leaves (List.range ns.length) h1 (fun k hk => List.mem_range.2 (h2 k hk))
      simpa using this
    exact ⟨hp.nodup_iff.2 h1, fun k hk => h2 k (hp.mem_iff.1 hk), by rw [hp.length_eq, h3], by rw [norm_size]; exact h4, by omega, NT.norm_norm U⟩
end Go.Proofs.Ytbmlkomfelkckaa
