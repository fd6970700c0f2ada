/- Law 20's awake. -/
import Derived.Test.YtbmlkomfelkckaaCnt4
import Derived.Test.YtbmlkomfelkckaaParse
import Derived.Test.YtbmlkomfelkckaaTree
import Derived.Test.YtbmlkomfelkckaaAppRow
namespace Go.Proofs.Ytbmlkomfelkckaa
open Go Go.RowKit
set_option maxRecDepth 100000

def awkBs : List Br := [⟨1, 0, 0⟩, ⟨0, 0, 0⟩, ⟨0, 0, 1⟩]
def awkNs : List ByteArray := [⟨#[65]⟩, ⟨#[66]⟩]
theorem awk_root : rdRoot 2 awkBs = some (.fork (.leaf 0) (.leaf 1)) := by decide
def awkS : ByteArray := ⟨#[40, 65, 44, 65, 41]⟩
theorem awk_a : (⟨#[65]⟩ : ByteArray).toList = [65] := by simp [ByteArray.toList, ByteArray.toList.loop, ByteArray.size, ByteArray.get!]
theorem awk_b : (⟨#[66]⟩ : ByteArray).toList = [66] := by simp [ByteArray.toList, ByteArray.toList.loop, ByteArray.size, ByteArray.get!]
theorem awk_idx : idx awkNs [65] = some 0 := by
  unfold idx awkNs
  rw [idxFrom, awk_a]
  rfl
theorem awk_names : namesOk awkNs = true := by
  refine namesOk_all (by decide) (by decide) fun i hi => ?_
  have : i = 0 ∨ i = 1 := by simp [awkNs] at hi; omega
  rcases this with rfl | rfl
  · rfl
  · unfold nameGood
    rw [show nameAt awkNs 1 = ⟨#[66]⟩ from rfl, awk_b, show awkNs.take 1 = [⟨#[65]⟩] from rfl]
    unfold idx
    rw [idxFrom, awk_a]
    rfl
theorem awk_w1 : wordOf awkS 1 2 = [65] := by
  unfold wordOf
  rw [show awkS.extract 1 2 = ⟨#[65]⟩ from by decide, awk_a]
theorem awk_w3 : wordOf awkS 3 4 = [65] := by
  unfold wordOf
  rw [show awkS.extract 3 4 = ⟨#[65]⟩ from by decide, awk_a]
theorem awk_l1 : leafAt awkS awkNs 1 [] = .ok 2 (.leaf 0) [0] := by
  unfold leafAt
  rw [show wend awkS 1 = 2 from by decide, awk_w1, awk_idx]
  rfl
theorem awk_l3 : leafAt awkS awkNs 3 [0] = .err 3 := by
  unfold leafAt
  rw [show wend awkS 3 = 4 from by decide, awk_w3, awk_idx]
  rfl
theorem awk_whole : whole awkS awkNs = .err 3 := by
  unfold whole
  rw [show awkS.size + 1 = 6 from rfl, rdP, if_pos (by decide), if_pos (by decide), rdP, if_pos (by decide), if_neg (by decide), awk_l1]
  simp only
  rw [if_pos (by decide), rdP, if_pos (by decide), if_neg (by decide), awk_l3]
theorem awk_parse : parseOut awkS awkNs = ⟨200, 3, none⟩ := by
  unfold parseOut
  rw [awk_names, if_neg (by decide), if_neg (by decide), awk_whole]

theorem rdbr_new (w : World) : RdBr (w.alloc (.cells #[.int .i64 1, .int .i64 0, .int .i64 0, .int .i64 0, .int .i64 0, .int .i64 0, .int .i64 0, .int .i64 0, .int .i64 1] 64)) (some ⟨w.heap.size, 0, none⟩) awkBs := by
  have := own_new w #[.int .i64 1, .int .i64 0, .int .i64 0, .int .i64 0, .int .i64 0, .int .i64 0, .int .i64 0, .int .i64 0, .int .i64 1] 64 3 3 w.heap.size (Nat.le_refl _) rfl (by decide)
  exact (own_rd (xs := awkBs) this).1

theorem rdstr_new (w : World) : RdStr (w.alloc (.cells #[.string ⟨#[65]⟩, .string ⟨#[66]⟩] 9)) (some ⟨w.heap.size, 0, none⟩) awkNs := by
  intro i s hs
  refine ⟨_, rfl, ?_⟩
  rw [add_plain, new_cell]
  have hi := (List.getElem?_eq_some_iff.1 hs).1
  have : i = 0 ∨ i = 1 := by simp [awkNs] at hi; omega
  rcases this with rfl | rfl <;> (simp [awkNs] at hs; subst hs; rfl)

set_option maxHeartbeats 1000000 in
theorem awake20 (w : World) : Calls Try.prog 21 #[] w fun e w' => e = .returned (.bool true) ∧ Below w.heap.size w w' := by
  have hb0 := below_alloc w (.cells #[.int .i64 1, .int .i64 0, .int .i64 0, .int .i64 0, .int .i64 0, .int .i64 0, .int .i64 0, .int .i64 0, .int .i64 1] 64)
  have HB0 := Lib.hid hb0
  have HF := Lib.hid (form_calls (some ⟨w.heap.size, 0, none⟩) 3 3 awkBs 2 _ (rdbr_new w) rfl (by decide) (by decide) (by decide))
  rw [awk_root] at HF
  have HP := Lib.hid (fun (W : World) => parse_calls awkS (some ⟨W.heap.size, 0, none⟩) 2 2 awkNs _ (by decide) (rdstr_new W) (by decide) rfl (by decide) (by decide))
  rw [awk_parse] at HP
  have HC := Lib.hid (fun W => count4_calls W)
  clear hb0
  go_enter Try.func21, Try.ntmps21
  go_wp2_with fail
  refine HF.out.mono ?_
  rintro _ w1 ⟨hb1, A1, c1, he, ho1⟩
  rw [show ((NT.leaf 0).fork (NT.leaf 1)).size = 3 from rfl] at he ho1
  subst he
  obtain ⟨g, rfl, hg, hg2, hcs⟩ := own_at ho1 (by decide)
  have p0 := hcs 0 (.int .i64 0) rfl
  have p1 := hcs 3 (.int .i64 1) rfl
  rw [add_plain] at p0 p1
  have HB1 := Lib.hid (Below.then HB0.out HB0.out.size hb1)
  have HP1 := HP.out (w1.alloc (.cells #[.slice (some ⟨g, 0, none⟩) 3 c1] 26))
  rw [World.size_alloc] at HP1
  have HP2 := Lib.hid HP1
  have hb2 := below_alloc w1 (.cells #[.slice (some ⟨g, 0, none⟩) 3 c1] 26)
  have hb3 := below_alloc (w1.alloc (.cells #[.slice (some ⟨g, 0, none⟩) 3 c1] 26)) (.cells #[.string ⟨#[65]⟩, .string ⟨#[66]⟩] 9)
  have HB3 := Lib.hid (Below.then hb2 hb2.size hb3)
  have q0 := cell_below hb3 (by simp) (new_cell w1 #[.slice (some ⟨g, 0, none⟩) 3 c1] 26 0)
  have hz : w1.heap.size < ((w1.alloc (.cells #[.slice (some ⟨g, 0, none⟩) 3 c1] 26)).alloc (.cells #[.string ⟨#[65]⟩, .string ⟨#[66]⟩] 9)).heap.size := by simp; omega
  clear hb1 ho1 hcs HP1 hb2 hb3
  go_wp2_with fail
  refine HP2.out.mono ?_
  rintro _ w2 ⟨hb4, rfl⟩
  have q0 := cell_below hb4 hz q0
  have p0 := cell_below hb4 (Nat.lt_trans hg hz) (cell_below HB3.out hg p0)
  have p1 := cell_below hb4 (Nat.lt_trans hg hz) (cell_below HB3.out hg p1)
  have HB4 := Lib.hid (Below.then (Below.then HB1.out HB1.out.size HB3.out) (Nat.le_trans HB1.out.size HB3.out.size) hb4)
  have hg4 := Nat.lt_of_lt_of_le (Nat.lt_trans hg hz) hb4.size
  have hz4 := Nat.lt_of_lt_of_le hz hb4.size
  have hb5 := below_alloc w2 (.cells #[.slice none 0 0] 26)
  have q0 := cell_below hb5 hz4 q0
  have p0 := cell_below hb5 hg4 p0
  have p1 := cell_below hb5 hg4 p1
  have HB5 := Lib.hid (Below.then HB4.out HB4.out.size hb5)
  clear hb4 hb5
  go_wp2_with fail
  refine (HC.out _).mono ?_
  rintro _ w3 ⟨rfl, rfl⟩
  go_wp2_with fail
  go_ret
  exact ⟨rfl, HB5.out⟩
end Go.Proofs.Ytbmlkomfelkckaa
