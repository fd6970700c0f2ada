/- siglumref15.far. -/
import Derived.Test.YteonpfomlmfkjaaRkRef2
import Derived.Test.YteonpfomlmfkjaaCycF
namespace Go.Proofs.Yteonpfomlmfkjaa
open Go Go.RowKit
set_option maxRecDepth 100000

/-- Known up to K arcs. -/
def DistS (arcs : List (Int × Int)) (s : Int) (m K : Nat) (h : Int → Int) : Prop := ∀ x : Int, 0 ≤ x → x < (m : Int) → (h x = -1 ∧ ∀ j, j ≤ K → ¬ To arcs s j x) ∨ ∃ j : Nat, h x = (j : Int) ∧ j ≤ K ∧ To arcs s j x ∧ ∀ i, i < j → ¬ To arcs s i x

/-- .. and one more for the first i arcs. -/
def MidS (arcs : List (Int × Int)) (s : Int) (m K i : Nat) (h : Int → Int) (mo : Bool) : Prop := ∀ x : Int, 0 ≤ x → x < (m : Int) → (h x = -1 ∧ (∀ j, j ≤ K → ¬ To arcs s j x) ∧ (s < x → ∀ b, (x, b) ∈ arcs.take i → ¬ To arcs s K b)) ∨ ∃ j : Nat, h x = (j : Int) ∧ j ≤ K + 1 ∧ To arcs s j x ∧ (∀ i, i < j → ¬ To arcs s i x) ∧ (j = K + 1 → mo = true)

theorem DistS.mid {arcs : List (Int × Int)} {s : Int} {m K : Nat} {h : Int → Int} (k : DistS arcs s m K h) : MidS arcs s m K 0 h false := by
  intro x h0 h1
  rcases k x h0 h1 with ⟨a, b⟩ | ⟨j, a, b, c, d⟩
  · exact .inl ⟨a, b, fun _ b hb => (by cases hb)⟩
  · exact .inr ⟨j, a, by omega, c, d, fun e => by omega⟩

theorem mem_take_succ {arcs : List (Int × Int)} {i : Nat} {p q : Int × Int} (h : arcs[i]? = some p) (hq : q ∈ arcs.take (i + 1)) : q ∈ arcs.take i ∨ q = p := by
  obtain ⟨h1, h2⟩ := List.getElem?_eq_some_iff.1 h
  rw [List.take_succ_eq_append_getElem h1, h2] at hq
  rcases List.mem_append.1 hq with hq | hq
  · exact .inl hq
  · exact .inr (List.mem_singleton.1 hq)

theorem MidS.hit {arcs : List (Int × Int)} {s : Int} {m K i : Nat} {h : Int → Int} {mo : Bool} (k : MidS arcs s m K i h mo) (hok : Ranged m arcs) {a b : Int} (hi : arcs[i]? = some (a, b)) (h1 : s < a) (h2 : h a = -1) (h3 : h b = (K : Int)) : MidS arcs s m K (i + 1) (fun u => if u = a then ((K + 1 : Nat) : Int) else h u) true := by
  obtain ⟨a0, a1, b0, b1⟩ := hok _ (List.mem_of_getElem? hi)
  intro x x0 x1
  by_cases e : x = a
  · subst e
    refine .inr ⟨K + 1, if_pos rfl, Nat.le_refl _, ?_, ?_, fun _ => rfl⟩
    · rcases k b b0 b1 with ⟨c, _⟩ | ⟨j, c, _, d, _⟩
      · omega
      · obtain rfl : j = K := by omega
        exact .step (List.mem_of_getElem? hi) h1 d
    · rcases k x x0 x1 with ⟨_, c, _⟩ | ⟨j, c, _⟩
      · exact fun j hj => c j (by omega)
      · omega
  · rcases k x x0 x1 with ⟨c, d, f⟩ | ⟨j, c, d, f, g, _⟩
    · refine .inl ⟨(if_neg e).trans c, d, fun hs y hy => ?_⟩
      rcases mem_take_succ hi hy with hy | hy
      · exact f hs y hy
      · exact absurd (Prod.mk.inj hy).1 e
    · exact .inr ⟨j, (if_neg e).trans c, by omega, f, g, fun _ => rfl⟩

theorem MidS.miss {arcs : List (Int × Int)} {s : Int} {m K i : Nat} {h : Int → Int} {mo : Bool} (k : MidS arcs s m K i h mo) (hok : Ranged m arcs) {a b : Int} (hi : arcs[i]? = some (a, b)) (hno : ¬ (s < a ∧ h a < 0 ∧ s ≤ b ∧ h b = (K : Int))) : MidS arcs s m K (i + 1) h mo := by
  obtain ⟨a0, a1, b0, b1⟩ := hok _ (List.mem_of_getElem? hi)
  intro x x0 x1
  rcases k x x0 x1 with ⟨c, d, f⟩ | hh
  · refine .inl ⟨c, d, fun hs y hy => ?_⟩
    rcases mem_take_succ hi hy with hy | hy
    · exact f hs y hy
    · obtain ⟨e1, e2⟩ := Prod.mk.inj hy
      subst e1 e2
      intro hT
      have hb := hT.ge
      rcases k y b0 b1 with ⟨_, c2, _⟩ | ⟨j, c1, _, c2, c3, _⟩
      · exact c2 K (Nat.le_refl _) hT
      · have hjK : j ≤ K := Nat.le_of_not_lt fun hlt => c3 K hlt hT
        by_cases e : j = K
        · subst e
          exact hno ⟨hs, by omega, hb, c1⟩
        · exact d (j + 1) (by omega) (.step (List.mem_of_getElem? hi) hs c2)
  · exact .inr hh

theorem MidS.more {arcs : List (Int × Int)} {s : Int} {m K i : Nat} {h : Int → Int} (k : MidS arcs s m K i h true) (hi : arcs.length ≤ i) : DistS arcs s m (K + 1) h := by
  intro x x0 x1
  rcases k x x0 x1 with ⟨c, d, f⟩ | ⟨j, c, d, f, g, _⟩
  · refine .inl ⟨c, fun j hj hT => ?_⟩
    by_cases e : j ≤ K
    · exact d j e hT
    · rcases hT.cases with ⟨h1, _⟩ | ⟨h1, j', b, h2, h3, h4⟩
      · omega
      · obtain rfl : j' = K := by omega
        exact f h1 b (by rw [List.take_of_length_le hi]; exact h3) h4
  · exact .inr ⟨j, c, d, f, g⟩

theorem MidS.fin {arcs : List (Int × Int)} {s : Int} {m K i : Nat} {h : Int → Int} (k : MidS arcs s m K i h false) (hok : Ranged m arcs) (hi : arcs.length ≤ i) : Far arcs s m h := by
  have key : ∀ (j : Nat) (x : Int), 0 ≤ x → x < (m : Int) → To arcs s j x → h x ≠ -1 := by
    intro j
    induction j with
    | zero =>
      intro x x0 x1 hT hx
      rcases k x x0 x1 with ⟨_, d, _⟩ | ⟨j, c, _⟩
      · exact d 0 (Nat.zero_le _) hT
      · omega
    | succ j ih =>
      intro x x0 x1 hT hx
      rcases hT.cases with ⟨h1, _⟩ | ⟨h1, j', b, h2, h3, h4⟩
      · omega
      · obtain rfl : j' = j := by omega
        obtain ⟨_, _, b0, b1⟩ := hok _ h3
        have hb := ih b b0 b1 h4
        rcases k b b0 b1 with ⟨c, _⟩ | ⟨q, c, d, f, g, e⟩
        · exact hb c
        · have hqK : q ≤ K := by
            apply Classical.byContradiction
            intro hh
            have := e (by omega)
            cases this
          rcases k x x0 x1 with ⟨_, d2, f2⟩ | ⟨j2, c2, _⟩
          · by_cases e2 : q = K
            · subst e2
              exact f2 h1 b (by rw [List.take_of_length_le hi]; exact h3) f
            · exact d2 (q + 1) (by omega) (.step h3 h1 f)
          · omega
  intro x x0 x1
  rcases k x x0 x1 with ⟨c, _⟩ | ⟨j, c, _, d, f, _⟩
  · exact .inl ⟨c, fun j hT => key j x x0 x1 hT c⟩
  · exact .inr ⟨j, c, d, f⟩

/-- How many nodes are not known yet. -/
def unk (m : Nat) (h : Int → Int) : Nat := (List.range m).countP fun x : Nat => h (x : Int) == -1

theorem countP_less {α : Type} {p q : α → Bool} : ∀ {l : List α}, (∀ x ∈ l, p x = true → q x = true) → (∃ x ∈ l, q x = true ∧ p x = false) → l.countP p < l.countP q
  | [], _, h => by obtain ⟨x, hx, _⟩ := h; cases hx
  | y :: l, h, hx => by
    have hle : l.countP p ≤ l.countP q := List.countP_mono_left fun x hx => h x (by simp [hx])
    rw [List.countP_cons, List.countP_cons]
    obtain ⟨x, hm, h1, h2⟩ := hx
    rcases List.mem_cons.1 hm with rfl | hm
    · rw [if_pos h1, if_neg (by simp [h2])]; omega
    · have := countP_less (fun x hx => h x (by simp [hx])) ⟨x, hm, h1, h2⟩
      by_cases hp : p y = true
      · rw [if_pos hp, if_pos (h y (by simp) hp)]; omega
      · rw [if_neg hp]; omega

theorem unk_upd {m a : Nat} {h : Int → Int} {v : Int} (ha : a < m) (h1 : h (a : Int) = -1) (hv : v ≠ -1) : unk m (fun u => if u = (a : Int) then v else h u) < unk m h := by
  unfold unk
  refine countP_less (fun x _ hx => ?_) ⟨a, List.mem_range.2 ha, by simp [h1], by simp [hv]⟩
  by_cases e : (x : Int) = (a : Int)
  · simp only [e, if_true] at hx
    have : v = -1 := by simpa using hx
    exact absurd this hv
  · simpa [e] using hx

theorem unk_le (m : Nat) (h : Int → Int) : unk m h ≤ m := by
  have := List.countP_le_length (p := fun x : Nat => h (x : Int) == -1) (l := List.range m)
  rwa [List.length_range] at this

set_option maxHeartbeats 8000000 in
theorem far_calls (A : Option Addr) (n c m s : Nat) (arcs : List (Int × Int)) (w : World) (hr : RdArcs w A arcs) (hn : arcs.length = n) (hcap : n ≤ 9223372036854775807) (hok : Ranged m arcs) (hm : m ≤ 4096) (hs : s < m) :
    Calls Try.prog 20 #[.int .i64 m, .slice A n c, .int .i64 s] w fun e w' => Below w.heap.size w w' ∧ ∃ h : Int → Int, e = .returned (.slice (some ⟨w.heap.size, 0, none⟩) m m) ∧ (w'.rowIs w.heap.size 3 m fun x => .int .i64 (h x)) ∧ Far arcs (s : Int) m h := by
  have HR := Lib.hid hr
  have HN := Lib.hid hn
  have HOK := Lib.hid hok
  have hmk := run_make_row' (P := Try.prog) 25 3 (.int .i64 0) 8 Try.underlying25 info_intK rfl .i64 .i64 m (by omega) (by omega)
  have HB0 := Lib.hid (below_alloc w (.cells (madeCells #[.int .i64 0] m) 3))
  have HR0 := Lib.hid (World.rowIs_made w (.int .i64 0) m 3)
  have sI : (s : Int) < (m : Int) := by omega
  clear hr hn hok
  go_enter Try.func20, Try.ntmps20
  go_wp2_with fail
  go_loopg [8] m (fun gk v8 wr => ∃ i : Nat, v8 = .int .i64 i ∧ i ≤ m ∧ m - i ≤ gk ∧ Hid (Below w.heap.size w wr) ∧ Hid (wr.rowIs w.heap.size 3 m fun x => .int .i64 (if x < i then -1 else 0)))
  case atStart => exact ⟨0, rfl, Nat.zero_le _, by omega, HB0.out, HR0.out.congr fun x _ => by simp⟩
  case round =>
    clear HR0 HB0 hmk
    obtain ⟨i, rfl, hi, hg, HB, HRW⟩ := hrel
    by_cases him : i < m
    · have i1 : (i : Int) < (m : Int) := by omega
      have c1 := HRW.out.cell him
      have c2 := HRW.out.frozen i
      have HRW2 := Lib.hid (HRW.out.set i (.int .i64 (-1)))
      have HBS := Lib.hid (below_set HB.out (Nat.le_refl _) i (.int .i64 (-1)))
      clear HRW
      go_wp2_with fail
      go_roundg (gk - 1)
      case measure => omega
      case rel => exact ⟨i + 1, by go_num, by omega, by omega, HBS.out, HRW2.out.congr fun x _ => by
        by_cases e : x = i
        · subst e; rw [if_pos rfl, if_pos (by omega)]
        · rw [if_neg e]
          by_cases e2 : x < i
          · rw [if_pos e2, if_pos (by omega)]
          · rw [if_neg e2, if_neg (by omega)]⟩
    · obtain rfl : i = m := by omega
      have i1 : ¬ (i : Int) < (i : Int) := by omega
      obtain ⟨m, rfl⟩ : ∃ m, m = i := ⟨_, rfl⟩
      have c1 := HRW.out.cell hs
      have c2 := HRW.out.frozen s
      have HRW2 : Hid ((wr.setCell ⟨w.heap.size, s, none⟩ (.int .i64 0)).rowIs w.heap.size 3 m fun x => .int .i64 ((fun u : Int => if u = (s : Int) then 0 else -1) (x : Int))) := (HRW.out.set s (.int .i64 0)).congr fun x hx => by
        by_cases e : x = s
        · subst e; simp
        · rw [if_neg e, if_pos hx]
          have : (x : Int) ≠ (s : Int) := by omega
          simp only [if_neg this]
      have HBS := Lib.hid (below_set HB.out (Nat.le_refl _) s (.int .i64 0))
      have HD : Hid (DistS arcs (s : Int) m 0 (fun u : Int => if u = (s : Int) then 0 else -1)) := by
        intro x _ _
        by_cases e : x = (s : Int)
        · subst e
          exact .inr ⟨0, by simp, Nat.le_refl _, .zero, fun i hi => by omega⟩
        · refine .inl ⟨by simp [e], fun j hj hT => ?_⟩
          obtain rfl : j = 0 := by omega
          rcases hT.cases with ⟨_, h⟩ | ⟨_, _, _, h, _⟩
          · exact e h
          · omega
      clear HRW HB
      go_wp2_with fail
      generalize wr.setCell ⟨w.heap.size, s, none⟩ (.int .i64 0) = W1 at *
      clear c1
      go_loopg [9] m (fun gk v9 wr => ∃ (K : Nat) (h : Int → Int), v9 = .int .i64 K ∧ K + unk m h ≤ m ∧ unk m h ≤ gk ∧ Hid (Below w.heap.size w wr) ∧ Hid (wr.rowIs w.heap.size 3 m fun x => .int .i64 (h x)) ∧ Hid (DistS arcs (s : Int) m K h))
      case atStart => exact ⟨0, fun u : Int => if u = (s : Int) then 0 else -1, rfl, by have := unk_le m (fun u : Int => if u = (s : Int) then 0 else -1); omega, unk_le _ _, HBS.out, HRW2.out, HD.out⟩
      case round =>
        clear HBS HRW2 HD
        obtain ⟨K, h0, rfl, hK, hgk, HB, HRW, HD⟩ := hrel
        obtain ⟨gk1, rfl⟩ : ∃ gk1 : Nat, gk1 = gk := ⟨_, rfl⟩
        obtain ⟨u0, hu0⟩ : ∃ u0, unk m h0 = u0 := ⟨_, rfl⟩
        rw [hu0] at hK hgk
        have HU := Lib.hid hu0
        have HMD := Lib.hid HD.out.mid
        clear hu0 HD
        go_wp2_with fail
        go_loopg [10, 11] n (fun gk v10 v11 wr => ∃ (i : Nat) (h : Int → Int) (mo : Bool), v10 = .bool mo ∧ v11 = .int .i64 i ∧ i ≤ n ∧ n - i ≤ gk ∧ Hid (Below w.heap.size w wr) ∧ Hid (wr.rowIs w.heap.size 3 m fun x => .int .i64 (h x)) ∧ Hid (MidS arcs (s : Int) m K i h mo) ∧ Hid (unk m h ≤ u0 ∧ (mo = true → unk m h < u0)))
        case atStart => exact ⟨0, h0, false, rfl, rfl, Nat.zero_le _, by omega, HB.out, HRW.out, HMD.out, by rw [HU.out]; exact Nat.le_refl _, fun e => by cases e⟩
        case round =>
          clear HB HRW HMD
          obtain ⟨i, h, mo, rfl, rfl, hi, hgi, HB, HRW, HMD, HUK⟩ := hrel
          by_cases hin : i < n
          · have i1 : (i : Int) < (n : Int) := by omega
            obtain ⟨a, b, ad, hab, rfl, e0, e1⟩ := arc_get (HR.out.below HB.out) (k := i) (by have := HN.out; omega)
            obtain ⟨a0, a1, b0, b1⟩ := HOK.out _ (List.mem_of_getElem? hab)
            obtain ⟨a, rfl⟩ : ∃ a' : Nat, a = (a' : Int) := ⟨a.toNat, by simp only at a0; omega⟩
            obtain ⟨b, rfl⟩ : ∃ a' : Nat, b = (a' : Int) := ⟨b.toNat, by simp only at b0; omega⟩
            have ham : a < m := by simp only at a1; omega
            have hbm : b < m := by simp only at b1; omega
            have aI : (a : Int) < (m : Int) := by omega
            have bI : (b : Int) < (m : Int) := by omega
            have c1 := HRW.out.cell ham
            have c2 := HRW.out.cell hbm
            have c3 := HRW.out.frozen a
            have HAB := Lib.hid hab
            have HMS := Lib.hid (fun hno => HMD.out.miss HOK.out hab hno)
            obtain ⟨ha, hha⟩ : ∃ x, h (a : Int) = x := ⟨_, rfl⟩
            obtain ⟨hb, hhb⟩ : ∃ x, h (b : Int) = x := ⟨_, rfl⟩
            rw [hha] at c1
            rw [hhb] at c2
            have HHA := Lib.hid hha
            have HHB := Lib.hid hhb
            clear hab a0 a1 b0 b1 hha hhb
            by_cases t1 : (s : Int) < (a : Int)
            · by_cases t2 : ha < 0
              · by_cases t3 : (s : Int) ≤ (b : Int)
                · by_cases t4 : hb = (K : Int)
                  · have f4 : (hb == (K : Int)) = true := by simp [t4]
                    have hm1 : ha = -1 := by
                      rcases HMD.out (a : Int) (by omega) aI with ⟨q, _⟩ | ⟨j, q, _⟩
                      · rw [HHA.out] at q; exact q
                      · rw [HHA.out] at q; omega
                    have HMD2 := Lib.hid (HMD.out.hit HOK.out HAB.out t1 (by rw [HHA.out]; exact hm1) (by rw [HHB.out]; exact t4))
                    have HRW2 : Hid ((wr.setCell ⟨w.heap.size, a, none⟩ (.int .i64 ((K : Int) + 1))).rowIs w.heap.size 3 m fun x => .int .i64 ((fun u : Int => if u = (a : Int) then ((K + 1 : Nat) : Int) else h u) (x : Int))) := (HRW.out.set a _).congr fun x _ => by
                      by_cases e : x = a
                      · subst e; simp
                      · rw [if_neg e]
                        have : (x : Int) ≠ (a : Int) := by omega
                        simp only [if_neg this]
                    have hun := unk_upd (h := h) (v := ((K + 1 : Nat) : Int)) ham (by rw [HHA.out]; exact hm1) (by omega)
                    have HUK2 : Hid (unk m (fun u : Int => if u = (a : Int) then ((K + 1 : Nat) : Int) else h u) ≤ u0 ∧ ((true : Bool) = true → unk m (fun u : Int => if u = (a : Int) then ((K + 1 : Nat) : Int) else h u) < u0)) := by
                      have := HUK.out.1
                      exact ⟨by omega, fun _ => by omega⟩
                    have HBS := Lib.hid (below_set HB.out (Nat.le_refl _) a (.int .i64 ((K : Int) + 1)))
                    have kk : -9223372036854775808 ≤ (K : Int) + 1 ∧ (K : Int) + 1 ≤ 9223372036854775807 := by omega
                    clear hm1 t4 hun HMS
                    go_wp2_with fail
                    go_roundg (gk - 1)
                    case measure => omega
                    case rel => exact ⟨i + 1, fun u : Int => if u = (a : Int) then ((K + 1 : Nat) : Int) else h u, true, rfl, by go_num, by omega, by omega, HBS.out, HRW2.out, HMD2.out, HUK2.out.1, fun _ => HUK2.out.2 trivial⟩
                  · have f4 : (hb == (K : Int)) = false := by rw [beq_eq_false_iff_ne]; exact t4
                    have HM2 := Lib.hid (HMS.out (fun hh => t4 (by rw [← HHB.out]; exact hh.2.2.2)))
                    clear t4 HMS
                    go_wp2_with fail
                    go_roundg (gk - 1)
                    case measure => omega
                    case rel => exact ⟨i + 1, h, mo, rfl, by go_num, by omega, by omega, HB.out, HRW.out, HM2.out, HUK.out⟩
                · have HM2 := Lib.hid (HMS.out (fun hh => t3 hh.2.2.1))
                  clear HMS
                  go_wp2_with fail
                  go_roundg (gk - 1)
                  case measure => omega
                  case rel => exact ⟨i + 1, h, mo, rfl, by go_num, by omega, by omega, HB.out, HRW.out, HM2.out, HUK.out⟩
              · have HM2 := Lib.hid (HMS.out (fun hh => t2 (by rw [← HHA.out]; exact hh.2.1)))
                clear HMS
                go_wp2_with fail
                go_roundg (gk - 1)
                case measure => omega
                case rel => exact ⟨i + 1, h, mo, rfl, by go_num, by omega, by omega, HB.out, HRW.out, HM2.out, HUK.out⟩
            · have HM2 := Lib.hid (HMS.out (fun hh => t1 hh.1))
              clear HMS
              go_wp2_with fail
              go_roundg (gk - 1)
              case measure => omega
              case rel => exact ⟨i + 1, h, mo, rfl, by go_num, by omega, by omega, HB.out, HRW.out, HM2.out, HUK.out⟩
          · obtain rfl : i = n := by omega
            have i1 : ¬ (i : Int) < (i : Int) := by omega
            cases mo with
            | false =>
              have HFR := Lib.hid (HMD.out.fin HOK.out (by have := HN.out; omega))
              go_wp2_with fail
              go_ret
              exact ⟨HB.out, rfl, h, HRW.out, HFR.out⟩
            | true =>
              have HDS := Lib.hid (HMD.out.more (by have := HN.out; omega))
              have hu := HUK.out.2 rfl
              have kk : -9223372036854775808 ≤ (K : Int) + 1 ∧ (K : Int) + 1 ≤ 9223372036854775807 := by omega
              go_wp2_with fail
              go_roundg (unk m h)
              case measure => omega
              case rel => exact ⟨K + 1, h, by go_num, by omega, Nat.le_refl _, HB.out, HRW.out, HDS.out⟩
end Go.Proofs.Yteonpfomlmfkjaa
