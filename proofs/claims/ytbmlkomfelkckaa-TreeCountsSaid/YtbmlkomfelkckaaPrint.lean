/- tree.Print. -/
import Derived.Test.YtbmlkomfelkckaaNText
import Derived.Test.YtbmlkomfelkckaaTree
import Derived.Test.YtbmlkomfelkckaaNamed
namespace Go.Proofs.Ytbmlkomfelkckaa
open Go Go.RowKit
set_option maxRecDepth 100000

def printOut (bs : List Br) (ns : List ByteArray) : ByteArray × Int :=
  if namesOk ns = false then (⟨#[]⟩, 120) else match rdRoot (ns.length : Int) bs with
    | none => (⟨#[]⟩, 200)
    | some T => (textOf ns T, 0)

theorem names_8 {ns : List ByteArray} (h : namesOk ns = true) (k : Nat) : (nameAt ns k).size ≤ 8 := by
  by_cases hk : k < ns.length
  · have h1 := (namesOk_true h).2.2 k hk
    unfold nameGood at h1
    rw [Bool.and_eq_true] at h1
    by_cases h2 : 1 ≤ (nameAt ns k).size ∧ (nameAt ns k).size ≤ 8
    · exact h2.2
    · have := nameOk_size h2
      rw [h1.1] at this
      cases this
  · unfold nameAt
    rw [List.getD_eq_getElem?_getD, List.getElem?_eq_none (by omega)]
    exact Nat.zero_le _

set_option maxHeartbeats 2000000 in
theorem print_calls (A : Option Addr) (n c : Nat) (bs : List Br) (A2 : Option Addr) (n2 c2 : Nat) (ns : List ByteArray) (w : World) (hb : RdBr w A bs) (hbn : bs.length = n) (hcapn : n ≤ 9223372036854775807) (hr : RdStr w A2 ns) (hs : ∀ s ∈ ns, s.size ≤ 9223372036854775807) (hn : ns.length = n2) (hcap : n2 ≤ 9223372036854775807) (hnc : n2 ≤ c2) :
    Calls Try.prog 32 #[.agg #[.slice A n c], .slice A2 n2 c2] w fun e w' => e = .returned (.tuple #[.string (printOut bs ns).1, .int .i64 (printOut bs ns).2]) ∧ Below w.heap.size w w' := by
  have HNM := Lib.hid (fun (W : World) (hw : Below w.heap.size w W) => named_calls A2 n2 c2 ns W (hr.below hw) hs hn hcap hnc)
  have hb0 := below_alloc w (.cells #[.slice A n c] 26)
  have c0 := new_cell w #[.slice A n c] 26 0
  have HB0 := Lib.hid hb0
  cases hok : namesOk ns with
  | false =>
    have HO : Hid (printOut bs ns = (⟨#[]⟩, 120)) := by show printOut bs ns = _; unfold printOut; rw [if_pos hok]
    rw [hok] at HNM
    rw [HO.out]
    clear hok hb hr hs hn hb0
    go_enter Try.func32, Try.ntmps32
    go_wp2_with fail
    refine (HNM.out _ HB0.out).mono ?_
    rintro e w' ⟨rfl, rfl⟩
    go_wp2_with fail
    exact bodyPost_ret (v := .tuple #[.string ⟨#[]⟩, .int .i64 120]) (by simp [results, Try.results32, go_sem]) rfl ⟨rfl, HB0.out⟩
  | true =>
    have hnil := fun (W : World) => Lib.run_eql_slice_nil (P := Try.prog) W 94 93 none 0 0 0 0 Try.underlying94
    simp only [Option.isNone_none] at hnil
    have hsl := fun (W : World) (a : Addr) (k q : Nat) => Lib.run_eql_slice_nil (P := Try.prog) W 94 93 (some a) k q 0 0 Try.underlying94
    simp only [Option.isNone_some] at hsl
    have hread := fun W (h : RdBr W A bs) => read_all A n c bs (n2 : Int) W h hbn hcapn (by omega) (by omega)
    rw [hok] at HNM
    have H8 := Lib.hid (names_8 hok)
    cases hrd : rdTree (n2 : Int) bs with
    | none =>
      have HO : Hid (printOut bs ns = (⟨#[]⟩, 200)) := by
        show printOut bs ns = _
        unfold printOut rdRoot
        rw [hok, if_neg (by decide), hn, hrd]
        rfl
      rw [hrd] at hread
      have HRD := Lib.hid hread
      have HBR := Lib.hid (hb.below hb0)
      rw [HO.out]
      clear hok hb hr hs hn hb0 hread hrd
      go_enter Try.func32, Try.ntmps32
      go_wp2_with fail
      refine (HNM.out _ HB0.out).mono ?_
      rintro e w' ⟨rfl, rfl⟩
      go_wp2_with fail
      refine (HRD.out _ HBR.out).mono ?_
      rintro e w1 ⟨hb1, rfl⟩
      have HB1 := Lib.hid (Below.then HB0.out HB0.out.size hb1)
      clear hb1
      go_wp2_with fail
      exact bodyPost_ret (v := .tuple #[.string ⟨#[]⟩, .int .i64 200]) (by simp [results, Try.results32, go_sem]) rfl ⟨rfl, HB1.out⟩
    | some l =>
      have hroot : rdRoot (n2 : Int) bs = some (l.getD (l.length - 1) (.leaf 0)) := by unfold rdRoot; rw [hrd]; rfl
      obtain ⟨T, hT⟩ : ∃ T, l.getD (l.length - 1) (.leaf 0) = T := ⟨_, rfl⟩
      rw [hT] at hroot
      have hsize := rdRoot_size hroot
      have hleaf := (rdRoot_leaves hroot).2.1
      have HO : Hid (printOut bs ns = (textOf ns T, 0)) := by
        show printOut bs ns = _
        unfold printOut
        rw [hok, if_neg (by decide), hn, hroot]
      have HT := Lib.hid hT
      rw [hrd] at hread
      have HRD := Lib.hid hread
      have HD := Lib.hid hrd
      have HBR := Lib.hid (hb.below hb0)
      have HTX := Lib.hid (fun (W : World) (hw : Below w.heap.size w W) (p : Value) (hnd : Nd W T p) => ntext_calls A2 n2 c2 ns hn hcap H8.out T p W hnd (hr.below hw) (fun k hk => by have := hleaf k hk; omega) (by omega))
      rw [HO.out]
      clear hok hb hr hs hn hb0 hread hrd hT hroot hsize hleaf
      go_enter Try.func32, Try.ntmps32
      go_wp2_with fail
      refine (HNM.out _ HB0.out).mono ?_
      rintro e w' ⟨rfl, rfl⟩
      go_wp2_with fail
      refine (HRD.out _ HBR.out).mono ?_
      rintro e w1 hres
      have HB1 := Lib.hid (Below.then HB0.out HB0.out.size hres.1)
      obtain ⟨g, c', b, rfl, p0, p1, hc, hn'⟩ := hres.last HD.out
      rw [HT.out] at hn'
      have p2 : ((l.length : Int) - 1).toNat = l.length - 1 := by omega
      clear hres hnil
      go_wp2_with fail
      refine (HTX.out _ HB1.out _ hn').mono ?_
      rintro _ w2 ⟨rfl, hb2⟩
      have HB2 := Lib.hid (Below.then HB1.out HB1.out.size hb2)
      clear hb2
      go_wp2_with fail
      exact bodyPost_ret (v := .tuple #[.string (textOf ns T), .int .i64 0]) (by simp [results, Try.results32, go_sem]) rfl ⟨rfl, HB2.out⟩
end Go.Proofs.Ytbmlkomfelkckaa
