/- A region that draws its order, reads a cell and writes that cell last of all: what was read may be taken first. (The kit's law for held cells asks that they be held behind every operation; here: behind every operation but one, which waits for what is taken.) -/
import Derived.OrdersHeld
namespace Go.Proofs.Yteonpfomlmfkjaa
open Go

variable {P : Program} {ops : Array Oper} {Q : Exit → Act → World → Prop} {md : Region.Mode} {S : World → Prop} {st : Nat}

/-- What an operation waits for. -/
def waits (md : Region.Mode) (ops : Array Oper) (j : Nat) : List Nat :=
  match ops[j]? with
  | some o => (o.after.toList.filter (Region.binds md)).map (·.on)
  | none => []

def waitsAll (md : Region.Mode) (ops : Array Oper) : Nat → List Nat → List Nat
  | 0, l => l
  | f + 1, l => l ++ waitsAll md ops f (l.flatMap (waits md ops))

/-- What has come up has come up behind what it waits for. -/
def Shut (md : Region.Mode) (ops : Array Oper) (l : Array Bool) : Prop := ∀ j, l.getD j false = true → ∀ i ∈ waits md ops j, l.getD i false = true

theorem Shut.all {l : Array Bool} (h : Shut md ops l) : ∀ (f : Nat) (L : List Nat), (∀ j ∈ L, l.getD j false = true) → ∀ i ∈ waitsAll md ops f L, l.getD i false = true
  | 0, _, hL, i, hi => hL i hi
  | f + 1, L, hL, i, hi => by
    rcases List.mem_append.1 hi with hi | hi
    · exact hL i hi
    · refine h.all f _ (fun j hj => ?_) i hi
      obtain ⟨k, hk, hj⟩ := List.mem_flatMap.1 hj
      exact h k (hL k hk) j hj

theorem ready_waits {l : Array Bool} {j : Nat} (h : j ∈ Region.ready md ops l) : ∀ i ∈ waits md ops j, l.getD i false = true := by
  obtain ⟨_, o, ho, hall⟩ := mem_ready.1 h
  intro i hi
  unfold waits at hi
  rw [ho] at hi
  obtain ⟨e, he, rfl⟩ := List.mem_map.1 hi
  obtain ⟨he, hb⟩ := List.mem_filter.1 he
  exact hall e (by simpa using he) hb

theorem Shut.set {l : Array Bool} {j : Nat} (h : Shut md ops l) (hj : j ∈ Region.ready md ops l) : Shut md ops (l.setIfInBounds j true) := by
  intro k hk i hi
  refine getD_set_true ?_
  by_cases e : j = k
  · subst e
    exact ready_waits hj i hi
  · rw [getD_set_ne false e] at hk
    exact h k hk i hi

theorem shut_none (n : Nat) : Shut md ops (Array.replicate n false) := by
  intro j hj
  by_cases h : j < n <;> simp [h] at hj

/-- Whatever order is picked from here on, AND S HOLDS BEHIND EVERY OPERATION BUT st. -/
def wpAnyL (P : Program) (md : Region.Mode) (ops : Array Oper) (Q : Exit → Act → World → Prop) (S : World → Prop) (st : Nat) : Nat → Array Bool → Act → World → Prop
  | 0, listed, a, w => Region.ready md ops listed = [] ∧ Q .normal a w
  | fuel + 1, listed, a, w =>
    (Region.ready md ops listed = [] → Q .normal a w) ∧
    ∀ i ∈ Region.ready md ops listed, wpOp P ops Q i (fun a' w' => (i ≠ st → S w') ∧ wpAnyL P md ops Q S st fuel (listed.setIfInBounds i true) a' w') a w

theorem wpAny_of_last : ∀ (fuel : Nat) (listed : Array Bool) (a : Act) (w : World), wpAnyL P md ops Q S st fuel listed a w → wpAny P md ops Q fuel listed a w
  | 0, _, _, _, h => h
  | fuel + 1, _, _, _, h => ⟨h.1, fun i hi => wpOp_mono (fun a' w' h' => wpAny_of_last fuel _ a' w' h'.2) (h.2 i hi)⟩

theorem wpAnyL_first {i : Nat} {oi : Oper} {v : Value} (hi : ops[i]? = some oi) (hsel : ∀ (j : Nat) (o : Oper) cs b, ops[j]? = some o → o.op ≠ .select cs b)
    (hQ : ∀ c a w, Q (.panic c) (a.put oi.dst v) w → Q (.panic c) a w) (hw : ∃ f, i ∈ waitsAll md ops f (waits md ops st)) :
    ∀ (fuel : Nat) (listed : Array Bool) (a : Act) (w : World),
      (∀ j oj, ops[j]? = some oj → j ≠ i → listed.getD j true = false → (∀ e ∈ oj.after, Region.binds md e = true → e.on ≠ i) → oi.apart ops oj = true) →
      i ∈ Region.ready md ops listed → YieldsIf P ops S oi v a → S w → Shut md ops listed →
      wpAnyL P md ops Q S st fuel (listed.setIfInBounds i true) (a.put oi.dst v) w → wpAnyL P md ops Q S st (fuel + 1) listed a w := by
  intro fuel
  induction fuel with
  | zero =>
    intro listed a w _ hr hy hS _ H
    refine ⟨fun h => (by rw [h] at hr; cases hr), fun j hj => ?_⟩
    by_cases hji : j = i
    · subst hji; exact hy.wpOp hi hS ⟨fun _ => hS, H⟩
    · have := ready_mono hj hji
      rw [H.1] at this
      cases this
  | succ fuel ih =>
    intro listed a w hfree hr hy hS hC H
    refine ⟨fun h => (by rw [h] at hr; cases hr), fun j hj => ?_⟩
    by_cases hji : j = i
    · subst hji; exact hy.wpOp hi hS ⟨fun _ => hS, H⟩
    · have hjs : j ≠ st := by
        rintro rfl
        obtain ⟨f, hf⟩ := hw
        have h1 := hC.all f _ (ready_waits hj) i hf
        have h0 := (mem_ready.1 hr).1
        rcases Nat.lt_or_ge i listed.size with h' | h'
        · simp [h'] at h0 h1; rw [h0] at h1; cases h1
        · simp [Array.getElem?_eq_none h'] at h1
      have h1 := H.2 j (ready_mono hj hji)
      obtain ⟨hjun, oj, hoj, hall⟩ := mem_ready.1 hj
      have hnot : ∀ e ∈ oj.after, Region.binds md e = true → e.on ≠ i := fun e he hb heq => by
        have h1 := hall e he hb
        have h0 := (mem_ready.1 hr).1
        rw [heq] at h1
        rcases Nat.lt_or_ge i listed.size with h' | h'
        · simp [h'] at h0 h1; rw [h0] at h1; cases h1
        · simp [Array.getElem?_eq_none h'] at h1
      have h2 := wpOp_putIf hoj (hfree j oj hoj hji hjun hnot) (fun cs b => hsel i oi cs b hi) (fun cs b => hsel j oj cs b hoj) hQ hy h1
      have hfree' : ∀ k ok, ops[k]? = some ok → k ≠ i → (listed.setIfInBounds j true).getD k true = false →
          (∀ e ∈ ok.after, Region.binds md e = true → e.on ≠ i) → oi.apart ops ok = true := fun k ok hk hki hun hno => by
        refine hfree k ok hk hki ?_ hno
        by_cases hjk : j = k
        · subst hjk; exact hjun
        · rw [getD_set_ne true hjk] at hun; exact hun
      refine wpOp_mono (fun a' w' h3 => ⟨h3.2.1, ih (listed.setIfInBounds j true) a' w' hfree' (ready_mono hr (Ne.symm hji)) h3.1 (h3.2.1 hjs) (hC.set hj) ?_⟩) h2
      rw [Array.setIfInBounds_comm _ _ hji]
      exact h3.2.2

theorem wpAnyL_take {i : Nat} {oi : Oper} {v : Value} {fuel : Nat} {listed : Array Bool} {a : Act} {w : World} (hi : ops[i]? = some oi)
    (hs : Region.noSelect ops = true) (hf : Region.free md ops listed i = true) (hr : (Region.ready md ops listed).contains i = true) (hw : (waitsAll md ops 9 (waits md ops st)).contains i = true)
    (hC : Shut md ops listed) (hQ : ∀ c a w, Q (.panic c) (a.put oi.dst v) w → Q (.panic c) a w) (hy : YieldsIf P ops S oi v a) (hS : S w)
    (h : Shut md ops (listed.setIfInBounds i true) → wpAnyL P md ops Q S st fuel (listed.setIfInBounds i true) (a.put oi.dst v) w) : wpAnyL P md ops Q S st (fuel + 1) listed a w := by
  have hr' : i ∈ Region.ready md ops listed := by simpa using hr
  exact wpAnyL_first hi (Region.noSelect_spec hs) hQ ⟨9, by simpa using hw⟩ fuel listed a w (Region.free_spec hi hf) hr' hy hS hC (h (hC.set hr'))

/-- One alone may come up. -/
theorem wpAnyL_one {i : Nat} {oi : Oper} {fuel : Nat} {listed : Array Bool} {a : Act} {w : World} (hr : Region.ready md ops listed = [i]) (hi : ops[i]? = some oi)
    (h : ∀ (K : Act → World → Prop), (∀ a' w', ((i ≠ st → S w') ∧ wpAnyL P md ops Q S st fuel (listed.setIfInBounds i true) a' w') → K a' w') → if Region.wanted oi (yielded ops a.tmps) = true then Oper.wp P oi a w K Q else K (a.put oi.dst undef) w) :
    wpAnyL P md ops Q S st (fuel + 1) listed a w := by
  refine ⟨fun h0 => (by rw [hr] at h0; cases h0), fun j hj => ?_⟩
  rw [hr] at hj
  obtain rfl : j = i := by simpa using hj
  have h1 := h _ (fun a' w' h => h)
  unfold wpOp
  simp only [hi]
  split
  · rename_i hw
    rw [if_pos hw] at h1
    exact .inl h1
  · rename_i hw
    rw [if_neg hw] at h1
    exact h1

theorem wpAnyL_done {listed : Array Bool} {a : Act} {w : World} (hr : Region.ready md ops listed = []) (h : Q .normal a w) :
    ∀ fuel, wpAnyL P md ops Q S st fuel listed a w
  | 0 => ⟨hr, h⟩
  | _ + 1 => ⟨fun _ => h, by rw [hr]; simp⟩

theorem wp_region_last {id : Nat} {a : Act} {w : World} (hm : P.follows .mixedOrders = true)
    (h : Shut .any ops (Array.replicate ops.size false) → wpAnyL P .any ops Q S st ops.size (Array.replicate ops.size false) a { w with drawn := w.drawn + 1 }) : (Code.region id ops true).wp P Q a w :=
  wp_region_any hm (wpAny_of_last _ _ _ _ (h (shut_none _)))
end Go.Proofs.Yteonpfomlmfkjaa
