/- PROVED: siglumlaw21.FitchStates returns true for every tree, every matrix, every site and all states, and what it was given reads behind the call as before: its row, and its tied card. CONDITIONS: none but the card's own (the two tables of math/bits are tied to the program's text). -/
import Derived.Test.YtbmlkomfelkckaaDoorCards
import Derived.Test.YtbmlkomfelkckaaDoorTie
import Derived.Test.YtbmlkomfelkckaaDoorOpen
import Derived.Test.YtbmlkomfelkckaaDoorLaid
import Derived.Test.YtbmlkomfelkckaaDoorLawStates
import Derived.ChangeSame
import Derived.ChangeVars
import Derived.Handed
import Derived.OpenShut
import Derived.SevenTiedAt
import Derived.Lib.SmallJoins
namespace Go.Proofs.YtbmlkomfelkckaaDoor
open Go Go.ChangeShapes Go.WideShapes Go.ChangeAt Go.RowKit
set_option maxRecDepth 100000

theorem own : ownKnob Tryd.prog.godebug = none := by kernel_rfl
theorem laidOut : laidOutB Tryd.prog = true := by kernel_rfl

theorem states_lifted (os : Os) (started : os.Started) (H : Type) (enc : TypeId × Value → H) :
    ReturnsInHanded {} Tryd.checked os 6 .any (fun w args => (Rows.fitchStatesSpec.pre enc Tryd.prog Tryd.f6 [] false w args ∧ laidMet Tryd.prog laidTabs w) ∧ sizedMet enc Tryd.prog Tryd.f6 (OpenSpec.ofChange Rows.fitchStatesSpec) false w args)
      (Rows.fitchStatesSpec.post enc Tryd.prog Tryd.f6 false true false false) := by
  refine returnsInHanded_of_change_and (C := Tryd.checked) (X := fun w _ => laidMet Tryd.prog laidTabs w) (fun _ _ _ hh h => h.of_heap hh) own started (by kernel_rfl) Tryd.func6
    (ChangeSpec.witness_at (enc := enc) (C := Tryd.checked) (os := os) (X := fun w _ => laidMet Tryd.prog laidTabs w) false (laidWorld os) #[.agg #[.slice none 0 0, .slice none 0 0, .int .i64 0, .slice none 0 0]] 8 rfl (by kernel_rfl) (by kernel_rfl) (by kernel_rfl) (by kernel_rfl) (by kernel_rfl) (laidWorld_met os _)) ?_
  intro W base args ds gs before hval0 hW _ _ hL _
  have hval : ∀ (j : Nat) t v, Tryd.f6.params[j]? = some t → args[j]? = some v → Value.okWide Tryd.prog W .any base t v := hval0
  have hW' := hW
  obtain ⟨p, q, hA0, hV, rfl, hfz, hnd⟩ := hW
  have hA : DataW.TrodAll enc Tryd.prog W 0 (fun _ => true) true Tryd.f6.params.toList args.toList ds p := hA0
  rw [Tryd.params6] at hA hval
  obtain ⟨v0, vs0, d0, ds0, p0, q0, hargs, rfl, rfl, h0, r0⟩ := trodAll_cons hA
  obtain ⟨rfl, rfl, rfl⟩ := trodAll_nil r0
  obtain rfl : args = #[v0] := by cases args; simp_all
  obtain ⟨rfl, rfl⟩ := trodVars_none hV
  obtain ⟨u0, u1, u2, u3, y0, y1, y2, y3, fu, rfl, -, -, t0, t1, t2, t3⟩ := Joins.open_agg4 Tryd.underlying40 (by kernel_rfl) (by kernel_rfl) (hval 0 40 v0 rfl rfl) h0
  obtain ⟨A, n, c, bs, rfl, hbr, hn, hcap⟩ := open_tree_cell t0
  obtain ⟨A2, n2, c2, rows, rfl, hrw, hn2, hcap2⟩ := open_matrix_cell t1
  obtain ⟨site, e2, _, w2⟩ := DataW.trod_int Tryd.underlying3 t2
  obtain ⟨AS, m, cS, l, rfl, hl, hm, hcapm⟩ := open_ints_cell t3
  obtain rfl := List.head_eq_of_cons_eq e2
  have lt0 : ∀ x ∈ p0, x.block < W.heap.size := by obtain ⟨m, hm⟩ := h0; exact DataW.trod_lt m _ _ _ hm
  clear hA0 hval0
  refine (lawStates_calls A n c bs A2 n2 c2 rows site AS m cS l W ⟨hbr, hn, hcap, hrw, hn2, hcap2⟩ hl hm (tz_of_laid hL)).mono fun e W' ⟨he, bel⟩ => ?_
  subst he
  exact ⟨_, rfl, _, _, _, [], _, [], hW', trodAll_mk1 (shut_bool Tryd.underlying4 _),
    trodAll_mk1 (Below.trod laidOut (by kernel_rfl) (of_decide_eq_true (by kernel_rfl)) h0 bel lt0), rfl, bel.frame _, fun h => by cases h⟩

theorem states_holds : Rows.FitchStatesSaid :=
  OpenClaim.holds_of_wide 6 Tryd.f6 rfl rfl rfl rfl rfl rfl rfl ⟨rfl, rfl, rfl, rfl, rfl⟩ rfl rfl rfl rfl rfl (by kernel_rfl) Tryd.func6 (by kernel_rfl)
    (of_decide_eq_true (by kernel_rfl)) (by unfold Func.isWrapper; first | (rw [if_pos (by decide +kernel)]; kernel_rfl) | (rw [if_neg (by decide +kernel)]; exact ⟨rfl, rfl⟩))
    (fun os started H enc _ => states_lifted os started H enc)

/-- The tied card. -/
theorem states_card : Rows.FitchStatesCardSaid :=
  Claim7.holds_tied_plain_at .later [] [.data, .data] true (true, "8428e75131b9b625fb0b21c2efe0a723847438bb1fefefff96f78b60e706208f") false
    states_holds (fun _ h => by cases h) (by kernel_rfl) (fun _ h => by cases h) fitchStates_row_tie rfl ⟨rfl, rfl⟩ (by kernel_rfl) rfl
    (fun f fn hf hfn => by
      obtain rfl : f = 6 := Option.some.inj ((show Tryd.prog.funcNamed "siglum/siglumlaw21.FitchStates" = some 6 by kernel_rfl).symm.trans hf) |>.symm
      obtain rfl : fn = Tryd.f6 := (Option.some.inj (Tryd.func6.symm.trans hfn)).symm
      exact ⟨by kernel_rfl, fun j t ht => by
        rw [Tryd.params6] at ht
        have h3 : t = 40 := by
          rcases j with _ | j <;> simp at ht <;> simp [← ht]
        subst h3
        exact (show Tryd.prog.wantsStandIn 40 = false by kernel_rfl)⟩)
    (by kernel_rfl)
#print axioms states_card
end Go.Proofs.YtbmlkomfelkckaaDoor
