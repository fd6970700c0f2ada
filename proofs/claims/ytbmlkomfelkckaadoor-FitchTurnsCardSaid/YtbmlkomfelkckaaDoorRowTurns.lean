/- PROVED: siglumlaw21.FitchTurns returns true for every tree and every matrix, and what it was given reads behind the call as before: its row, and its tied card. CONDITIONS: none but the card's own (the two tables of math/bits are tied to the program's text). -/
import Derived.Test.YtbmlkomfelkckaaDoorCards
import Derived.Test.YtbmlkomfelkckaaDoorTie
import Derived.Test.YtbmlkomfelkckaaDoorOpen
import Derived.Test.YtbmlkomfelkckaaDoorLaid
import Derived.Test.YtbmlkomfelkckaaDoorLawTurns
import Derived.ChangeSame
import Derived.ChangeVars
import Derived.Handed
import Derived.OpenShut
import Derived.SevenTiedAt
namespace Go.Proofs.YtbmlkomfelkckaaDoor
open Go Go.ChangeShapes Go.WideShapes Go.ChangeAt Go.RowKit
set_option maxRecDepth 100000

theorem own : ownKnob Tryd.prog.godebug = none := by kernel_rfl
theorem laidOut : laidOutB Tryd.prog = true := by kernel_rfl

theorem turns_lifted (os : Os) (started : os.Started) (H : Type) (enc : TypeId × Value → H) :
    ReturnsInHanded {} Tryd.checked os 8 .any (fun w args => (Rows.fitchTurnsSpec.pre enc Tryd.prog Tryd.f8 [] false w args ∧ laidMet Tryd.prog laidTabs w) ∧ sizedMet enc Tryd.prog Tryd.f8 (OpenSpec.ofChange Rows.fitchTurnsSpec) false w args)
      (Rows.fitchTurnsSpec.post enc Tryd.prog Tryd.f8 false true false false) := by
  refine returnsInHanded_of_change_and (C := Tryd.checked) (X := fun w _ => laidMet Tryd.prog laidTabs w) (fun _ _ _ hh h => h.of_heap hh) own started (by kernel_rfl) Tryd.func8
    (ChangeSpec.witness_at (enc := enc) (C := Tryd.checked) (os := os) (X := fun w _ => laidMet Tryd.prog laidTabs w) false (laidWorld os) #[.agg #[.slice none 0 0], .agg #[.slice none 0 0]] 8 rfl (by kernel_rfl) (by kernel_rfl) (by kernel_rfl) (by kernel_rfl) (by kernel_rfl) (laidWorld_met os _)) ?_
  intro W base args ds gs before hval0 hW _ _ hL _
  have hval : ∀ (j : Nat) t v, Tryd.f8.params[j]? = some t → args[j]? = some v → Value.okWide Tryd.prog W .any base t v := hval0
  have hW' := hW
  obtain ⟨p, q, hA0, hV, rfl, hfz, hnd⟩ := hW
  have hA : DataW.TrodAll enc Tryd.prog W 0 (fun _ => true) true Tryd.f8.params.toList args.toList ds p := hA0
  rw [Tryd.params8] at hA hval
  obtain ⟨v0, vs0, d0, ds0, p0, q0, hargs, rfl, rfl, h0, r0⟩ := trodAll_cons hA
  obtain ⟨v1, vs1, d1, ds1, p1, q1, rfl, rfl, rfl, h1, r1⟩ := trodAll_cons r0
  obtain ⟨rfl, rfl, rfl⟩ := trodAll_nil r1
  obtain rfl : args = #[v0, v1] := by cases args; simp_all
  obtain ⟨rfl, rfl⟩ := trodVars_none hV
  obtain ⟨A, n, c, bs, rfl, hbr, hn, hcap⟩ := open_tree (hval 0 24 v0 rfl rfl) h0
  obtain ⟨A2, n2, c2, rows, rfl, hrw, hn2, hcap2⟩ := open_matrix (hval 1 27 v1 rfl rfl) h1
  have lt0 : ∀ x ∈ p0, x.block < W.heap.size := by obtain ⟨m, hm⟩ := h0; exact DataW.trod_lt m _ _ _ hm
  have lt1 : ∀ x ∈ p1, x.block < W.heap.size := by obtain ⟨m, hm⟩ := h1; exact DataW.trod_lt m _ _ _ hm
  clear hA0 hval0
  refine (lawTurns_calls A n c bs A2 n2 c2 rows W ⟨hbr, hn, hcap, hrw, hn2, hcap2⟩ (tz_of_laid hL)).mono fun e W' ⟨he, bel⟩ => ?_
  subst he
  exact ⟨_, rfl, _, _, _, [], _, [], hW', trodAll_mk1 (shut_bool Tryd.underlying4 _),
    trodAll_cons_mk (Below.trod laidOut (by kernel_rfl) (of_decide_eq_true (by kernel_rfl)) h0 bel lt0) (trodAll_mk1 (Below.trod laidOut (by kernel_rfl) (of_decide_eq_true (by kernel_rfl)) h1 bel lt1)), rfl, bel.frame _, fun h => by cases h⟩

theorem turns_holds : Rows.FitchTurnsSaid :=
  OpenClaim.holds_of_wide 8 Tryd.f8 rfl rfl rfl rfl rfl rfl rfl ⟨rfl, rfl, rfl, rfl, rfl⟩ rfl rfl rfl rfl rfl (by kernel_rfl) Tryd.func8 (by kernel_rfl)
    (of_decide_eq_true (by kernel_rfl)) (by unfold Func.isWrapper; first | (rw [if_pos (by decide +kernel)]; kernel_rfl) | (rw [if_neg (by decide +kernel)]; exact ⟨rfl, rfl⟩))
    (fun os started H enc _ => turns_lifted os started H enc)

/-- The tied card. -/
theorem turns_card : Rows.FitchTurnsCardSaid :=
  Claim7.holds_tied_plain_at .later [] [.data, .data] true (true, "8428e75131b9b625fb0b21c2efe0a723847438bb1fefefff96f78b60e706208f") false
    turns_holds (fun _ h => by cases h) (by kernel_rfl) (fun _ h => by cases h) fitchTurns_row_tie rfl ⟨rfl, rfl⟩ (by kernel_rfl) rfl
    (fun f fn hf hfn => by
      obtain rfl : f = 8 := Option.some.inj ((show Tryd.prog.funcNamed "siglum/siglumlaw21.FitchTurns" = some 8 by kernel_rfl).symm.trans hf) |>.symm
      obtain rfl : fn = Tryd.f8 := (Option.some.inj (Tryd.func8.symm.trans hfn)).symm
      exact ⟨by kernel_rfl, fun j t ht => by
        rw [Tryd.params8] at ht
        have h3 : t = 24 ∨ t = 27 := by
          rcases j with _ | _ | j <;> simp at ht <;> simp [← ht]
        rcases h3 with rfl | rfl
        · exact (show Tryd.prog.wantsStandIn 24 = false by kernel_rfl)
        · exact (show Tryd.prog.wantsStandIn 27 = false by kernel_rfl)⟩)
    (by kernel_rfl)
#print axioms turns_card
end Go.Proofs.YtbmlkomfelkckaaDoor
