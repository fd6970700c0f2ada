/- tree.Parse: the text of a tree, by a stack of open brackets. -/
import Derived.Test.YtbmlkomfelkckaaStack
import Derived.Test.YtbmlkomfelkckaaNamed
import Derived.Test.YtbmlkomfelkckaaList
import Derived.Deep.DeepMust
import Derived.Deep.DeepCutAuto
import Derived.Deep.CutBlock
namespace Go.Proofs.Ytbmlkomfelkckaa
open Go Go.RowKit
set_option maxRecDepth 100000

/-- What is told of a text. -/
structure POut where
  err : Int
  at' : Nat
  tree : Option NT

def parseOut (s : ByteArray) (ns : List ByteArray) : POut :=
  if namesOk ns = false then ⟨120, 0, none⟩
  else if 65536 < s.size then ⟨1, 0, none⟩
  else match whole s ns with
    | .err e => ⟨200, e, none⟩
    | .ok a T h => if a < s.size then ⟨200, a, none⟩ else if h.length < ns.length then ⟨200, s.size, none⟩ else ⟨0, 0, some T.norm⟩

/-- What tree.Parse leaves. -/
def RetParse (w : World) (o : POut) (e : Ending) (w' : World) : Prop :=
  Below w.heap.size w w' ∧ match o.tree with
    | none => e = .returned (.tuple #[.agg #[.slice none 0 0], .int .i64 (o.at' : Int), .int .i64 o.err])
    | some T => ∃ A c, e = .returned (.tuple #[.agg #[.slice A T.size c], .int .i64 (o.at' : Int), .int .i64 o.err]) ∧ w'.ownsRow w.heap.size 64 3 (.slice A T.size c) T.size (brs (T.form 0))

/-- The text's own part of what is told. -/
def MRes.out (s : ByteArray) (ns : List ByteArray) : MRes → POut
  | .err e => ⟨200, e, none⟩
  | .whole a T h => if a < s.size then ⟨200, a, none⟩ else if h.length < ns.length then ⟨200, s.size, none⟩ else ⟨0, 0, some T⟩

theorem parseOut_run {s : ByteArray} {ns : List ByteArray} (h1 : namesOk ns = true) (h2 : ¬ 65536 < s.size) : parseOut s ns = (whole s ns).res.out s ns := by
  unfold parseOut
  rw [h1, if_neg (by decide), if_neg h2]
  cases whole s ns <;> rfl

/-- The head of the main loop. -/
def MLoop (w wr : World) (s : ByteArray) (ns : List ByteArray) (R : MRes) (gk : Nat) (v8 v9 v10 : Value) : Prop :=
  (∃ st us, v9 = .pointer none ∧ v10 = .int .i64 (st.at' : Int) ∧ st.at' ≤ s.size ∧ gk = s.size + 1 - st.at' ∧ Runs s ns st R ∧ PInv w wr st v8 us) ∨
  (∃ (i : Nat) (T : NT) (h : List Nat) (b : Nat), v9 = .pointer (some ⟨b, 0, none⟩) ∧ v10 = .int .i64 (i : Int) ∧ i ≤ s.size ∧ R = .whole i T h ∧ PBase w wr h ∧ Nd wr T (.pointer (some ⟨b, 0, none⟩)))

theorem info_lvl : (Try.prog.info? 94).map (fun i => (i.zero, i.size, i.bytes)) = some (some (.slice none 0 0), 1, 24) := by kernel_rfl

theorem one_nil : (#[Value.slice none 0 0] : Array Value).size = 1 ∧ ∀ u ∈ (#[Value.slice none 0 0] : Array Value).toList, u.oneCell' = true := by
  refine ⟨rfl, ?_⟩
  intro u hu
  simp at hu
  subst hu
  rfl

theorem set_size' (w : World) (a : Addr) (v : Value) : (w.setCell a v).heap.size = w.heap.size := by simp [World.setCell]

/-- The head of the loop in which a part is delivered. -/
def DLoop (w wr : World) (s : ByteArray) (ns : List ByteArray) (R : MRes) (i gk : Nat) (v8 v9 v10 v11 : Value) : Prop :=
  ∃ (j : Nat) (stack : List (Option NT)) (had : List Nat) (us : List Value) (T : NT) (b : Nat), v9 = .pointer none ∧ v10 = .int .i64 (j : Int) ∧ v11 = .pointer (some ⟨b, 0, none⟩) ∧ j ≤ s.size ∧ i < j ∧ gk = s.size + 1 - j ∧
    RunsD s ns (deliver s j stack T had) R ∧ PInv w wr ⟨j, stack, had⟩ v8 us ∧ Nd wr T (.pointer (some ⟨b, 0, none⟩))

set_option maxHeartbeats 8000000 in
theorem parse_calls (s : ByteArray) (A : Option Addr) (n c : Nat) (ns : List ByteArray) (w : World) (hss : s.size ≤ 9223372036854775807) (hr : RdStr w A ns) (hs : ∀ s ∈ ns, s.size ≤ 9223372036854775807) (hn : ns.length = n) (hcap : n ≤ 9223372036854775807) (hnc : n ≤ c) :
    Calls Try.prog 22 #[.string s, .slice A n c] w (RetParse w (parseOut s ns)) := by
  have HN := Lib.hid hn
  have HNM := Lib.hid (fun (W : World) (hb : Below w.heap.size w W) => named_calls A n c ns W (hr.below hb) hs hn hcap hnc)
  have HR := Lib.hid hr
  have c0 := new_cell w #[.slice none 0 0] 26 0
  have f0 := new_frozen w #[.slice none 0 0] 26 0
  cases hok : namesOk ns
  · rw [show parseOut s ns = ⟨120, 0, none⟩ by unfold parseOut; rw [if_pos hok]]
    rw [hok] at HNM
    clear hok hr hs hn
    go_enter Try.func22, Try.ntmps22
    go_wp2_with fail
    refine (HNM.out _ (below_alloc _ _)).mono ?_
    rintro e w' ⟨rfl, rfl⟩
    go_wp2_with fail
    exact bodyPost_ret (v := .tuple #[.agg #[.slice none 0 0], .int .i64 0, .int .i64 120]) (by simp [results, Try.results22, go_sem]) rfl ⟨below_alloc _ _, rfl⟩
  · by_cases hbig : 65536 < s.size
    · rw [show parseOut s ns = ⟨1, 0, none⟩ by unfold parseOut; rw [if_neg (by rw [hok]; decide), if_pos hbig]]
      rw [hok] at HNM
      clear hok hr hs hn
      go_enter Try.func22, Try.ntmps22
      go_wp2_with fail
      refine (HNM.out _ (below_alloc _ _)).mono ?_
      rintro e w' ⟨rfl, rfl⟩
      go_wp2_with fail
      exact bodyPost_ret (v := .tuple #[.agg #[.slice none 0 0], .int .i64 0, .int .i64 1]) (by simp [results, Try.results22, go_sem]) rfl ⟨below_alloc _ _, rfl⟩
    · rw [parseOut_run hok hbig]
      have HRUN := Lib.hid (runs_whole s ns)
      obtain ⟨R, hR⟩ : ∃ R, (whole s ns).res = R := ⟨_, rfl⟩
      rw [hR] at HRUN ⊢
      have HRES : Hid (R = (whole s ns).res) := hR.symm
      have HOKN : Hid (ns.length ≤ 12) := (namesOk_true hok).2.1
      rw [hok] at HNM
      have hmm := @run_makeMap Try.prog
      clear hok hr hs hn hR c0 f0
      go_enter Try.func22, Try.ntmps22
      go_wp2_with fail
      refine (HNM.out _ (below_alloc _ _)).mono ?_
      rintro e w' ⟨rfl, rfl⟩
      go_wp2_with fail
      go_loopg [8, 9, 10] (s.size + 1) (fun gk v8 v9 v10 wr => Hid (MLoop w wr s ns R gk v8 v9 v10))
      case atStart => exact .inl ⟨⟨0, [], []⟩, [], rfl, rfl, Nat.zero_le _, rfl, HRUN.out, pinv_start w⟩
      case round =>
        clear hmm
        rcases hrel.out with ⟨⟨i, stack, had⟩, us, rfl, rfl, hle, hg, hrun, hI⟩ | ⟨i, T, h, b, rfl, rfl, hle, hR, hB, hnd⟩
        · have HG := Lib.hid hg
          have HINV := Lib.hid hrun.inv
          have HI := Lib.hid hI
          have hle : i ≤ s.size := hle
          have hsz := hI.base.size
          have hst : stack.length ≤ i := hI.few
          have hs6 : s.size ≤ 65536 := by omega
          have HBW := Lib.hid hI.base.below
          have bx := hI.base.box
          have fx := hI.base.free
          clear hrel hg hrun hI
          show Code.wp _ _ _ _ _
          by_cases hi : i < s.size
          · by_cases h40 : (s[i]).toNat = 40
            · have hb0 : (((s[i]).toNat : Int) == 40) = true := by rw [beq_iff_eq]; omega
              have HB40 : Hid (byteAt s i = 40) := by show byteAt s i = 40; rw [byteAt_lt hi]; exact h40
              clear h40
              cases stack with
              | nil =>
                obtain ⟨v8a, cv8, rfl, hcv8⟩ := own_slice HI.out.row
                have HNXT : Hid (Runs s ns ⟨i + 1, [none], had⟩ R) := by
                  have h1 := HINV.out
                  unfold mstep at h1
                  rw [if_pos hi, if_pos ⟨HB40.out, rfl⟩] at h1
                  exact h1
                go_wp2_with (at_builtin; refine walk_append1 HI.out.row hsz (by simp) 92 Try.underlying92 info_lvl ⟨rfl, by decide, by decide⟩ _ one_nil (by exact ⟨rfl, rfl, rfl, rfl, rfl⟩) ?_; intro v4 w4 ho4 hu4)
                go_roundg (s.size + 1 - (i + 1))
                case measure => have := HG.out; omega
                case rel => exact .inl ⟨⟨i + 1, [none], had⟩, _, rfl, by go_num, by show i + 1 ≤ s.size; omega, rfl, HNXT.out, HI.out.push hu4 ho4⟩
              | cons o rest =>
                obtain ⟨u, us3, g, c3, rfl, rfl, hcc, hlv, hlen3, ct, ft, hg1, hg2⟩ := HI.out.top rfl
                simp only [List.length_cons] at hst
                cases o with
                | none =>
                  obtain rfl : u = .slice none 0 0 := hlv
                  have HNXT : Hid (Runs s ns ⟨i + 1, none :: none :: rest, had⟩ R) := by
                    have h1 := HINV.out
                    unfold mstep at h1
                    rw [if_pos hi, if_pos ⟨HB40.out, rfl⟩] at h1
                    exact h1
                  go_wp2_with (at_builtin; refine walk_append1 HI.out.row hsz (by simp; omega) 92 Try.underlying92 info_lvl ⟨rfl, by decide, by decide⟩ _ one_nil (by exact ⟨rfl, rfl, rfl, rfl, rfl⟩) ?_; intro v4 w4 ho4 hu4)
                  go_roundg (s.size + 1 - (i + 1))
                  case measure => have := HG.out; omega
                  case rel => exact .inl ⟨⟨i + 1, none :: none :: rest, had⟩, _, rfl, by go_num, by show i + 1 ≤ s.size; omega, rfl, HNXT.out, HI.out.push hu4 ho4⟩
                | some A2 =>
                  obtain ⟨ba, hou, -⟩ := hlv
                  obtain ⟨AU, cu, rfl, hcu⟩ := own_slice hou
                  have HWC := Lib.hid (fun W => word_calls ((s[i]).toNat : Int) W)
                  have hw : wordI ((s[i]).toNat : Int) = false := by
                    have h1 := HB40.out
                    rw [byteAt_lt hi] at h1
                    rw [h1]
                    rfl
                  rw [hw] at HWC
                  have HRE : Hid (R = .err i) := by
                    have h1 := HINV.out
                    unfold mstep at h1
                    rw [if_pos hi, if_neg (fun q => by simp [topFree] at q)] at h1
                    unfold leafAt at h1
                    rw [if_pos (show wend s i = i by
                      have := (wend_word (s := s) hi)
                      rw [byteAt_lt hi, hw] at this
                      have h2 := (wend_is s i).le
                      simp at this
                      omega)] at h1
                    exact h1.symm
                  clear hw hou
                  go_wp2_with fail
                  refine (HWC.out _).mono ?_
                  rintro _ w' ⟨rfl, rfl⟩
                  have hcell := set_cell_eq bx (.slice none 0 0)
                  go_wp2_with fail
                  have hre := HRE.out
                  subst hre
                  exact bodyPost_ret (v := .tuple #[.agg #[.slice none 0 0], .int .i64 (i : Int), .int .i64 200]) (by simp [results, Try.results22, hcell, go_sem]) rfl ⟨below_set HBW.out (Nat.le_refl _) _ _, rfl⟩
            · have hb0 : (((s[i]).toNat : Int) == 40) = false := by rw [beq_eq_false_iff_ne]; omega
              have HLF : Hid (mstep s ns ⟨i, stack, had⟩ = match leafAt s ns i had with
                  | .err e => .inr (.err e)
                  | .ok a T h => deliver s a stack T h) := by
                show mstep s ns ⟨i, stack, had⟩ = _
                unfold mstep
                rw [if_pos hi, if_neg (fun q => h40 (by rw [← byteAt_lt hi]; exact q.1))]
                rfl
              obtain ⟨v8len, cv8, rfl, hcv8⟩ := own_slice HI.out.row
              cases hw : wordI ((s[i]).toNat : Int)
              · have HWC := Lib.hid (fun W => word_calls ((s[i]).toNat : Int) W)
                rw [hw] at HWC
                have HRE : Hid (R = .err i) := by
                  have h1 := HINV.out
                  rw [HLF.out] at h1
                  unfold leafAt at h1
                  rw [if_pos (by
                    have := (wend_word (s := s) hi)
                    rw [byteAt_lt hi, hw] at this
                    have h2 := (wend_is s i).le
                    simp at this
                    omega)] at h1
                  exact h1.symm
                clear hw
                go_wp2_with fail
                refine (HWC.out _).mono ?_
                rintro e w' ⟨rfl, rfl⟩
                have hcell := set_cell_eq bx (.slice none 0 0)
                go_wp2_with fail
                have hre := HRE.out
                subst hre
                exact bodyPost_ret (v := .tuple #[.agg #[.slice none 0 0], .int .i64 (i : Int), .int .i64 200]) (by simp [results, Try.results22, hcell, go_sem]) rfl ⟨below_set HBW.out (Nat.le_refl _) _ _, rfl⟩
              · have HWC := Lib.hid (fun W => word_calls ((s[i]).toNat : Int) W)
                rw [hw] at HWC
                have hwi : i < wend s i := (wend_word hi).2 (by rw [byteAt_lt hi]; exact hw)
                have hwe := wend_le (s := s) (i := i) hle
                have HWE := Lib.hid (wend_is s i)
                have HLA : Hid (leafAt s ns i had = match idx ns (wordOf s i (wend s i)) with
                    | some k => if k ∈ had then .err i else .ok (wend s i) (.leaf k) (had ++ [k])
                    | none => .err i) := by
                  show leafAt s ns i had = _
                  unfold leafAt
                  rw [if_neg (by omega)]
                  rfl
                obtain ⟨e, he⟩ : ∃ e, wend s i = e := ⟨_, rfl⟩
                rw [he] at hwi hwe HWE HLA
                clear hw he
                go_wp2_with fail
                refine (HWC.out _).mono ?_
                rintro _ w' ⟨rfl, rfl⟩
                go_upto_block 3 with (fail)
                go_cut [13] (fun v13 wc => v13 = .int .i64 ((e : Nat) : Int) ∧ wc = w')
                case first =>
                  go_wp2_with fail
                  obtain ⟨wo, rfl⟩ : ∃ wo : World, wo = w' := ⟨_, rfl⟩
                  obtain ⟨g1, rfl⟩ : ∃ g1 : Nat, g1 = gk := ⟨_, rfl⟩
                  go_loopg [13] (s.size - i) (fun gk v13 wr => ∃ j : Nat, v13 = .int .i64 j ∧ j ≤ s.size ∧ Hid (gk + j = s.size) ∧ wr = wo ∧ Hid (i ≤ j ∧ ∀ m, i ≤ m → m < j → m < s.size ∧ wordI (byteAt s m : Int) = true))
                  case atStart => exact ⟨i, rfl, hle, by show s.size - i + i = s.size; omega, rfl, Nat.le_refl _, fun m h1 h2 => by omega⟩
                  case round =>
                    obtain ⟨j, rfl, hj, HJ, rfl, HM⟩ := hrel
                    by_cases hjs : j < s.size
                    · have HWC2 := Lib.hid (fun W => word_calls ((s[j]).toNat : Int) W)
                      cases hw : wordI ((s[j]).toNat : Int)
                      · rw [hw] at HWC2
                        have HEJ : Hid (j = e) := IsEnd.unique ⟨HM.out.1, HM.out.2, fun _ => by rw [byteAt_lt hjs]; exact hw⟩ HWE.out
                        clear hw
                        go_wp2_with fail
                        refine (HWC2.out _).mono ?_
                        rintro _ w' ⟨rfl, rfl⟩
                        go_wp2_with fail
                        go_meet
                        exact ⟨by rw [HEJ.out], rfl⟩
                      · rw [hw] at HWC2
                        have HW2 : Hid (wordI (byteAt s j : Int) = true) := by show wordI (byteAt s j : Int) = true; rw [byteAt_lt hjs]; exact hw
                        clear hw
                        go_wp2_with fail
                        refine (HWC2.out _).mono ?_
                        rintro _ w' ⟨rfl, rfl⟩
                        go_wp2_with fail
                        go_roundg (gk - 1)
                        case measure => have := HJ.out; omega
                        case rel => exact ⟨j + 1, by go_num, by omega, by have := HJ.out; show gk - 1 + (j + 1) = s.size; omega, rfl, by have := HM.out.1; omega, fun m h1 h2 => by
                          rcases Nat.lt_or_ge m j with h | h
                          · exact HM.out.2 m h1 h
                          · obtain rfl : m = j := by omega
                            exact ⟨hjs, HW2.out⟩⟩
                    · have HEJ : Hid (j = e) := IsEnd.unique ⟨HM.out.1, HM.out.2, fun q => absurd q hjs⟩ HWE.out
                      go_wp2_with fail
                      go_meet
                      exact ⟨by rw [HEJ.out], rfl⟩
                case rest =>
                  obtain ⟨rfl, rfl⟩ := hcut
                  have HIX := Lib.hid (index_calls A n c ns (s.extract i e) wc (HR.out.below HBW.out) HN.out hcap)
                  have hEI : (i : Int) ≤ (e : Int) := by omega
                  cases hx : idx ns (wordOf s i e) with
                  | none =>
                    rw [show idx ns (s.extract i e).toList = none from hx, show optInt none = -1 from rfl] at HIX
                    have HRE : Hid (R = .err i) := by
                      have h1 := HINV.out
                      rw [HLF.out, HLA.out, hx] at h1
                      exact h1.symm
                    clear hx
                    go_wp2_with fail
                    refine HIX.out.mono ?_
                    rintro _ w' ⟨rfl, rfl⟩
                    have hcell := set_cell_eq bx (.slice none 0 0)
                    go_wp2_with fail
                    have hre := HRE.out
                    subst hre
                    exact bodyPost_ret (v := .tuple #[.agg #[.slice none 0 0], .int .i64 (i : Int), .int .i64 200]) (by simp [results, Try.results22, hcell, go_sem]) rfl ⟨below_set HBW.out (Nat.le_refl _) _ _, rfl⟩
                  | some k =>
                    rw [show idx ns (s.extract i e).toList = some k from hx, show optInt (some k) = (k : Int) from rfl] at HIX
                    have hkI : ¬ (k : Int) < 0 := by omega
                    have hl : (Instr.lookup 91 (.map (some (w.heap.size + 1))) (.int .i64 (k : Int)) false).run Try.prog wc = .ok (.bool (decide ((k : Int) ∈ had.map fun k : Nat => (k : Int)))) wc :=
                      SetAt.lookup (key := (k : Int)) kint HI.out.base.set Try.underlying91 Try.underlying3 (zero_bool _)
                    by_cases hk : k ∈ had
                    · rw [show decide ((k : Int) ∈ had.map fun k : Nat => (k : Int)) = true from decide_eq_true (List.mem_map.2 ⟨k, hk, rfl⟩)] at hl
                      have HRE : Hid (R = .err i) := by
                        have h1 := HINV.out
                        rw [HLF.out, HLA.out, hx] at h1
                        simp only at h1
                        rw [if_pos hk] at h1
                        exact h1.symm
                      clear hx hk
                      go_wp2_with fail
                      refine HIX.out.mono ?_
                      rintro _ w' ⟨rfl, rfl⟩
                      have hcell := set_cell_eq bx (.slice none 0 0)
                      go_wp2_with fail
                      have hre := HRE.out
                      subst hre
                      exact bodyPost_ret (v := .tuple #[.agg #[.slice none 0 0], .int .i64 (i : Int), .int .i64 200]) (by simp [results, Try.results22, hcell, go_sem]) rfl ⟨below_set HBW.out (Nat.le_refl _) _ _, rfl⟩
                    · have hk' : (k : Int) ∉ had.map fun k : Nat => (k : Int) := by
                        intro q
                        obtain ⟨x, hx, e⟩ := List.mem_map.1 q
                        exact hk (by have : x = k := by omega
                                     exact this ▸ hx)
                      have HK' := Lib.hid hk'
                      rw [decide_eq_false hk'] at hl
                      have HRD : Hid (RunsD s ns (deliver s e stack (.leaf k) (had ++ [k])) R) := by
                        have h1 := HINV.out
                        rw [HLF.out, HLA.out, hx] at h1
                        simp only at h1
                        rw [if_neg hk] at h1
                        exact h1
                      clear hx hk hk'
                      go_wp2_with fail
                      refine HIX.out.mono ?_
                      rintro _ w' ⟨rfl, rfl⟩
                      go_wp2_with (at_mapUpdate; go_must (refine walk_put (key := (k : Int)) HI.out.base.set kint Try.underlying91 Try.underlying3 rfl _ _ _ rfl rfl rfl rfl ?_); intro w5 hs5 hg5 hz5)
                      have HP0 := Lib.hid ((HI.out.put (j := e) hs5 hg5 HK'.out (by omega)).next (below_alloc w5 (.cells #[.int .i64 (k : Int), .pointer none, .pointer none] 98)))
                      have HND : Hid (Nd (w5.alloc (.cells #[.int .i64 (k : Int), .pointer none, .pointer none] 98)) (.leaf k) (.pointer (some ⟨w'.heap.size, 0, none⟩))) := ⟨_, rfl, by rw [← hz5]; exact alloc_at w5 _⟩
                      generalize w5.alloc (.cells #[.int .i64 (k : Int), .pointer none, .pointer none] 98) = W3 at *
                      obtain ⟨g1, rfl⟩ : ∃ g1 : Nat, g1 = gk := ⟨_, rfl⟩
                      clear hs5 hg5 hz5 hl bx fx hsz
                      go_loopg [8, 9, 10, 11] (s.size + 1 - e) (fun gk v8 v9 v10 v11 wr => Hid (DLoop w wr s ns R i gk v8 v9 v10 v11))
                      case atStart => exact ⟨e, stack, had ++ [k], us, .leaf k, w'.heap.size, rfl, rfl, rfl, hwe, hwi, rfl, HRD.out, HP0.out, HND.out⟩
                      case round =>
                        obtain ⟨j, stack2, had2, us2, T, b, rfl, rfl, rfl, hj, hij, hjg, hrd, hp, hnd⟩ := hrel.out
                        have HJ := Lib.hid hjg
                        have HRD2 := Lib.hid hrd
                        have HP := Lib.hid hp
                        have HND2 := Lib.hid hnd
                        have HBW2 := Lib.hid hp.base.below
                        have bx := hp.base.box
                        have fx := hp.base.free
                        have hsz := hp.base.size
                        clear hrel hjg hrd hp hnd
                        cases stack2 with
                        | nil =>
                          obtain ⟨A2, c2, rfl, hcc2⟩ := own_slice HP.out.row
                          have HRE : Hid (R = .whole j T had2) := HRD2.out.symm
                          go_wp2_with fail
                          go_roundg (g1 - 1)
                          case measure => have := HG.out; omega
                          case rel => exact .inr ⟨j, T, had2, b, rfl, rfl, hj, HRE.out, HP.out.base, HND2.out⟩
                        | cons o rest =>
                          obtain ⟨u, us3, g, c3, rfl, rfl, hcc, hlv, hlen3, ct, ft, hg1, hg2⟩ := HP.out.top rfl
                          have hfew : rest.length + 1 ≤ j := HP.out.few
                          by_cases hjs : j < s.size
                          · have b1 : ((j : Int) == (s.size : Int)) = false := by rw [beq_eq_false_iff_ne]; omega
                            cases o with
                            | none =>
                              obtain rfl : u = .slice none 0 0 := hlv
                              by_cases h44 : (s[j]).toNat = 44
                              · have t1 : (((s[j]).toNat : Int) != 44) = false := by rw [bne_eq_false_iff_eq]; omega
                                have HDV : Hid (Runs s ns (expect s (j + 1) (some T :: rest) had2) R) := by
                                  have h1 := HRD2.out
                                  rw [deliver, if_pos ⟨hjs, by rw [byteAt_lt hjs]; exact h44⟩] at h1
                                  exact h1
                                clear h44
                                have HI1 := fun (v1 : Value) (w1 : World) (ho1 : w1.ownsRow (w.heap.size + 2) 93 1 v1 (0 + 1) ([] ++ (#[Value.pointer (some ⟨b, 0, none⟩)] : Array Value).toList)) (hu1 : Upd wr w1 (.slice none 0 0) v1) =>
                                  PInv.setTop (o' := some T) (x := v1) (HP.out.next hu1.below_nil) rfl ⟨b, by simpa using ho1, HND2.out.below hu1.below_nil⟩ (fun q hq u' hu' hq' => by
                                    have h1 := (HP.out.lv.block u' (by simp [hu']) q hq').2
                                    have h2 := elem_lt h1
                                    rcases hu1.2 with h3 | ⟨b', h3, h4⟩
                                    · rw [hq] at h3; simp [Value.ownBlock] at h3
                                    · rw [hq] at h3
                                      have := Option.some.inj h3
                                      omega)
                                have HI2 := Lib.hid HI1
                                clear HI1
                                by_cases hop : j + 1 < s.size ∧ byteAt s (j + 1) = 40
                                · have HEX : Hid (expect s (j + 1) (some T :: rest) had2 = ⟨j + 1 + 1, none :: some T :: rest, had2⟩) := by show expect s (j + 1) (some T :: rest) had2 = _; unfold expect; rw [if_pos hop]
                                  obtain ⟨hj1, hj2⟩ := hop
                                  have t2 : (((s[j + 1]).toNat : Int) == 40) = true := by
                                    rw [beq_iff_eq]
                                    rw [byteAt_lt hj1] at hj2
                                    omega
                                  have hj1I : (j : Int) + 1 < (s.size : Int) := by omega
                                  clear hj2
                                  go_wp2_with (first | (at_builtin; refine walk_append1 (World.ownsRow_nil wr (w.heap.size + 2) 93 1) hsz (by omega) 94 Try.underlying94 info_ptr ⟨rfl, by decide, by decide⟩ _ (one1 _) (by exact ⟨rfl, rfl, rfl, rfl, rfl⟩) ?_; intro v1 w1 ho1 hu1; have hb1 := hu1.below_nil; have ct := cell_below hb1 hg2 ct; have ft := frozen_below hb1 hg2 ft; have bx := cell_below hb1 (by omega) bx; have fx := frozen_below hb1 (by omega) fx; obtain ⟨A1, c1, rfl, hc1⟩ := own_slice ho1) | (at_builtin; go_must (refine walk_append1 (HI2.out _ _ ho1 hu1).row (by rw [set_size']; have := hb1.size; omega) (by simp; omega) 92 Try.underlying92 info_lvl ⟨rfl, by decide, by decide⟩ _ one_nil (by exact ⟨rfl, rfl, rfl, rfl, (set_size' _ _ _).symm⟩) ?_); intro v4 w4 ho4 hu4))
                                  go_roundg (s.size + 1 - (j + 2))
                                  case measure => have := HG.out; omega
                                  case rel =>
                                    have hpu := ((HI2.out _ _ ho1 hu1).on (i := j + 1) (by show j ≤ j + 1; omega)).push hu4 (by simpa using ho4)
                                    exact .inl ⟨⟨j + 1 + 1, none :: some T :: rest, had2⟩, _, rfl, by go_num, by show j + 1 + 1 ≤ s.size; omega, rfl, by rw [← HEX.out]; exact HDV.out, hpu⟩
                                · have HEX : Hid (expect s (j + 1) (some T :: rest) had2 = ⟨j + 1, some T :: rest, had2⟩) := by show expect s (j + 1) (some T :: rest) had2 = _; unfold expect; rw [if_neg hop]
                                  by_cases hj1 : j + 1 < s.size
                                  · have t2 : (((s[j + 1]).toNat : Int) == 40) = false := by
                                      rw [beq_eq_false_iff_ne]
                                      intro q
                                      exact hop ⟨hj1, by rw [byteAt_lt hj1]; omega⟩
                                    have hj1I : (j : Int) + 1 < (s.size : Int) := by omega
                                    clear hop
                                    go_wp2_with (at_builtin; refine walk_append1 (World.ownsRow_nil wr (w.heap.size + 2) 93 1) hsz (by omega) 94 Try.underlying94 info_ptr ⟨rfl, by decide, by decide⟩ _ (one1 _) (by exact ⟨rfl, rfl, rfl, rfl, rfl⟩) ?_; intro v1 w1 ho1 hu1; have hb1 := hu1.below_nil; have ct := cell_below hb1 hg2 ct; have ft := frozen_below hb1 hg2 ft; have bx := cell_below hb1 (by omega) bx; have fx := frozen_below hb1 (by omega) fx; obtain ⟨A1, c1, rfl, hc1⟩ := own_slice ho1)
                                    go_roundg (s.size + 1 - (j + 1))
                                    case measure => have := HG.out; omega
                                    case rel => exact .inl ⟨⟨j + 1, some T :: rest, had2⟩, _, rfl, by go_num, by show j + 1 ≤ s.size; omega, rfl, by rw [← HEX.out]; exact HDV.out, (HI2.out _ _ ho1 hu1).on (by show j ≤ j + 1; omega)⟩
                                  · have hje : (j : Int) + 1 = (s.size : Int) := by omega
                                    have hj1I : ¬ (j : Int) + 1 < (s.size : Int) := by omega
                                    clear hop hje
                                    go_wp2_with (at_builtin; refine walk_append1 (World.ownsRow_nil wr (w.heap.size + 2) 93 1) hsz (by omega) 94 Try.underlying94 info_ptr ⟨rfl, by decide, by decide⟩ _ (one1 _) (by exact ⟨rfl, rfl, rfl, rfl, rfl⟩) ?_; intro v1 w1 ho1 hu1; have hb1 := hu1.below_nil; have ct := cell_below hb1 hg2 ct; have ft := frozen_below hb1 hg2 ft; have bx := cell_below hb1 (by omega) bx; have fx := frozen_below hb1 (by omega) fx; obtain ⟨A1, c1, rfl, hc1⟩ := own_slice ho1)
                                    go_roundg (s.size + 1 - (j + 1))
                                    case measure => have := HG.out; omega
                                    case rel => exact .inl ⟨⟨j + 1, some T :: rest, had2⟩, _, rfl, by go_num, by show j + 1 ≤ s.size; omega, rfl, by rw [← HEX.out]; exact HDV.out, (HI2.out _ _ ho1 hu1).on (by show j ≤ j + 1; omega)⟩
                              · have t1 : (((s[j]).toNat : Int) != 44) = true := by rw [bne_iff_ne]; omega
                                have HRE : Hid (R = .err j) := by
                                  have h1 := HRD2.out
                                  rw [deliver, if_neg (fun q => h44 (by rw [← byteAt_lt hjs]; exact q.2))] at h1
                                  exact h1.symm
                                clear h44
                                go_wp2_with (at_builtin; refine walk_append1 (World.ownsRow_nil wr (w.heap.size + 2) 93 1) hsz (by omega) 94 Try.underlying94 info_ptr ⟨rfl, by decide, by decide⟩ _ (one1 _) (by exact ⟨rfl, rfl, rfl, rfl, rfl⟩) ?_; intro v1 w1 ho1 hu1; have hb1 := hu1.below_nil; have ct := cell_below hb1 hg2 ct; have ft := frozen_below hb1 hg2 ft; have bx := cell_below hb1 (by omega) bx; have fx := frozen_below hb1 (by omega) fx; obtain ⟨A1, c1, rfl, hc1⟩ := own_slice ho1)
                                have bx2 := set_far (b := g) (j := rest.length) (by omega) (.slice A1 (0 + 1) c1) bx
                                have hcell := set_cell_eq bx2 (.slice none 0 0)
                                have hre := HRE.out
                                subst hre
                                exact bodyPost_ret (v := .tuple #[.agg #[.slice none 0 0], .int .i64 (j : Int), .int .i64 200]) (by simp [results, Try.results22, hcell, go_sem]) rfl ⟨below_set (Below.trans (Below.then HBW2.out HBW2.out.size hb1) (set_low (by omega) _ _)) (Nat.le_refl _) _ _, rfl⟩
                            | some A2 =>
                              obtain ⟨ba, hou, hna⟩ := hlv
                              obtain ⟨AU, cu, rfl, hcu⟩ := own_slice hou
                              have HOU := Lib.hid hou
                              have HNA := Lib.hid hna
                              have happ := HP.out.lv
                              have HAP : Hid (∀ k, (Value.slice AU 1 cu).ownBlock = some k → ∀ u' ∈ us3, u'.ownBlock ≠ some k) := by
                                cases happ with
                                | cons _ ha _ => exact ha
                              have HPP := Lib.hid (HP.out.pop rfl (i := j) (Nat.le_refl _))
                              have HEG : Hid (elemAt wr g = some 94) := own_elem_slice HPP.out.row
                              clear hou hna happ
                              by_cases h41 : (s[j]).toNat = 41
                              · have t1 : (((s[j]).toNat : Int) != 41) = false := by rw [bne_eq_false_iff_eq]; omega
                                have HDV : Hid (RunsD s ns (deliver s (j + 1) rest (mkFork A2 T) had2) R) := by
                                  have h1 := HRD2.out
                                  rw [deliver, if_pos ⟨hjs, by rw [byteAt_lt hjs]; exact h41⟩] at h1
                                  exact h1
                                clear h41
                                go_wp2_with (at_builtin; refine walk_append1 HOU.out hsz (by omega) 94 Try.underlying94 info_ptr ⟨rfl, by decide, by decide⟩ _ (one1 _) (by exact ⟨rfl, rfl, rfl, rfl, rfl⟩) ?_; intro v1 w1 ho1 hu1; have hb1 := hu1.below hsz (fun k hk => own_base HOU.out k hk); have kg := upd_keep hu1 HOU.out g hg2 (by rw [HEG.out]; decide); have ct := (World.cell?_of_block (a := ⟨g, rest.length, none⟩) kg).trans ct; have ft := (World.frozen?_of_block (a := ⟨g, rest.length, none⟩) kg).trans ft; have bx := cell_below hb1 (by omega) bx; have fx := frozen_below hb1 (by omega) fx; obtain ⟨A1, c1, rfl, hc1⟩ := own_slice ho1; have KG := Lib.hid kg; clear kg)
                                obtain ⟨A', c', hee, -, hcl⟩ := cells_of_own ho1
                                obtain ⟨rfl, rfl⟩ : A1 = A' ∧ c1 = c' := by simpa using hee
                                obtain ⟨g4, rfl, q0⟩ := hcl 0 (.pointer (some ⟨ba, 0, none⟩)) (by simp)
                                obtain ⟨g5, hgg, q1⟩ := hcl 1 (.pointer (some ⟨b, 0, none⟩)) (by simp)
                                obtain rfl : g4 = g5 := by simpa using hgg
                                have he1 : elemAt w1 g = some 94 := by
                                  have h1 := HEG.out
                                  unfold elemAt at h1 ⊢
                                  rw [KG.out]
                                  exact h1
                                have hne : g ≠ g4 := fun q => by
                                  have h1 := own_elem ho1 g4 rfl
                                  rw [← q, he1] at h1
                                  exact absurd h1 (by decide)
                                have ct2 := set_cell_eq ct (.slice (some ⟨g4, 0, none⟩) 2 c1)
                                have q0 := set_far (j := rest.length) hne (.slice (some ⟨g4, 0, none⟩) 2 c1) q0
                                have q1 := set_far (j := rest.length) hne (.slice (some ⟨g4, 0, none⟩) 2 c1) q1
                                have hkn : ∀ (b : Nat) (cs : Array Value), w1.heap[b]? = some (.cells cs 98 (0, 0)) → (w1.setCell ⟨g, rest.length, none⟩ (.slice (some ⟨g4, 0, none⟩) 2 c1)).heap[b]? = w1.heap[b]? := fun b cs hb => set_keep (fun q => by rw [q] at hb; simp [elemAt, hb] at he1)
                                have HN1 := Lib.hid (Nd.keep hkn (HNA.out.upd hu1 HOU.out (by decide)))
                                have HN2 := Lib.hid (Nd.keep hkn (HND2.out.upd hu1 HOU.out (by decide)))
                                have HPI := Lib.hid ((HPP.out.apart hu1 HOU.out HAP.out).beyond (Nat.le_refl _) (.slice (some ⟨g4, 0, none⟩) 2 c1))
                                generalize w1.setCell ⟨g, rest.length, none⟩ (.slice (some ⟨g4, 0, none⟩) 2 c1) = W4 at *
                                clear ho1 hu1 hb1 hee hcl hgg he1 hne hkn ct ft bx fx
                                go_still_tail 12, (by kernel_rfl)
                                change wpList _ _ _ _ _ W4.drew
                                go_wp2_with fail
                                refine (fork_calls A2 T ba b _ HN1.out.drew HN2.out.drew).mono ?_
                                rintro _ w6 ⟨b6, rfl, hn6, hb6⟩
                                have HP6 := Lib.hid ((HPI.out.next (W := W4.drew) (below_drewN _ 1)).next hb6)
                                have HN6 := Lib.hid hn6
                                have hrc : (rest.length : Int) ≤ (c3 : Int) := by omega
                                clear hn6 hb6 q0 q1 ct2
                                go_wp2_with fail
                                go_roundg (s.size + 1 - (j + 1))
                                case measure => have := HJ.out; omega
                                case rel => exact ⟨j + 1, rest, had2, us3, mkFork A2 T, b6, rfl, by go_num, rfl, by omega, by omega, rfl, HDV.out, HP6.out.on (by show j ≤ j + 1; omega), HN6.out⟩
                              · have t1 : (((s[j]).toNat : Int) != 41) = true := by rw [bne_iff_ne]; omega
                                have HRE : Hid (R = .err j) := by
                                  have h1 := HRD2.out
                                  rw [deliver, if_neg (fun q => h41 (by rw [← byteAt_lt hjs]; exact q.2))] at h1
                                  exact h1.symm
                                clear h41
                                go_wp2_with (at_builtin; refine walk_append1 HOU.out hsz (by omega) 94 Try.underlying94 info_ptr ⟨rfl, by decide, by decide⟩ _ (one1 _) (by exact ⟨rfl, rfl, rfl, rfl, rfl⟩) ?_; intro v1 w1 ho1 hu1; have hb1 := hu1.below hsz (fun k hk => own_base HOU.out k hk); have kg := upd_keep hu1 HOU.out g hg2 (by rw [HEG.out]; decide); have ct := (World.cell?_of_block (a := ⟨g, rest.length, none⟩) kg).trans ct; have ft := (World.frozen?_of_block (a := ⟨g, rest.length, none⟩) kg).trans ft; have bx := cell_below hb1 (by omega) bx; have fx := frozen_below hb1 (by omega) fx; obtain ⟨A1, c1, rfl, hc1⟩ := own_slice ho1; have KG := Lib.hid kg; clear kg)
                                have bx2 := set_far (b := g) (j := rest.length) (by omega) (.slice A1 (1 + 1) c1) bx
                                have hcell := set_cell_eq bx2 (.slice none 0 0)
                                have hre := HRE.out
                                subst hre
                                exact bodyPost_ret (v := .tuple #[.agg #[.slice none 0 0], .int .i64 (j : Int), .int .i64 200]) (by simp [results, Try.results22, hcell, go_sem]) rfl ⟨below_set (Below.trans (Below.trans HBW2.out (hb1.mono (by omega))) (set_low (by omega) _ _)) (Nat.le_refl _) _ _, rfl⟩
                          · have HRE : Hid (R = .err j) := by
                              have h1 := HRD2.out
                              cases o with
                              | none => rw [deliver, if_neg (fun q => hjs q.1)] at h1; exact h1.symm
                              | some A2 => rw [deliver, if_neg (fun q => hjs q.1)] at h1; exact h1.symm
                            have b1 : ((j : Int) == (s.size : Int)) = true := by rw [beq_iff_eq]; omega
                            have hcell := set_cell_eq bx (.slice none 0 0)
                            go_wp2_with fail
                            have hre := HRE.out
                            subst hre
                            exact bodyPost_ret (v := .tuple #[.agg #[.slice none 0 0], .int .i64 (j : Int), .int .i64 200]) (by simp [results, Try.results22, hcell, go_sem]) rfl ⟨below_set HBW2.out (Nat.le_refl _) _ _, rfl⟩
          · have HRE : Hid (R = .err i) := by
              have h1 := HINV.out
              unfold mstep at h1
              rw [if_neg hi] at h1
              exact h1.symm
            have hie : i = s.size := by omega
            subst hie
            have hcell := set_cell_eq bx (.slice none 0 0)
            go_wp2_with fail
            have hre := HRE.out
            subst hre
            exact bodyPost_ret (v := .tuple #[.agg #[.slice none 0 0], .int .i64 (s.size : Int), .int .i64 200]) (by simp [results, Try.results22, hcell, go_sem]) rfl ⟨below_set HBW.out (Nat.le_refl _) _ _, rfl⟩
        · have HR := Lib.hid hR
          have HB := Lib.hid hB
          have HND := Lib.hid hnd
          have hsz := hB.size
          have bx := hB.box
          have fx := hB.free
          have HBW := Lib.hid hB.below
          obtain ⟨z1, z2, z3, z4, z5, z6⟩ := whole_res (HRES.out.symm.trans hR)
          have HL := Lib.hid z4
          have hs6 : s.size ≤ 65536 := by omega
          clear hrel hR hB hnd z1 z2 z3 z4 z6
          show Code.wp _ _ _ _ _
          by_cases hi : i < s.size
          · have hout : R.out s ns = ⟨200, i, none⟩ := by rw [HR.out]; show (if i < s.size then (⟨200, i, none⟩ : POut) else if h.length < ns.length then ⟨200, s.size, none⟩ else ⟨0, 0, some T⟩) = _; rw [if_pos hi]
            have HOUT := Lib.hid hout
            have hcell := set_cell_eq bx (.slice none 0 0)
            clear hout
            go_wp2_with fail
            rw [HOUT.out]
            exact bodyPost_ret (v := .tuple #[.agg #[.slice none 0 0], .int .i64 (i : Int), .int .i64 200]) (by simp [results, Try.results22, hcell, go_sem]) rfl ⟨below_set HBW.out (Nat.le_refl _) _ _, rfl⟩
          · have HHL : Hid ((h.map fun k : Nat => (k : Int)).length = h.length) := by show (h.map fun k : Nat => (k : Int)).length = h.length; simp
            by_cases hfew : h.length < n
            · have hout : R.out s ns = ⟨200, s.size, none⟩ := by rw [HR.out]; show (if i < s.size then (⟨200, i, none⟩ : POut) else if h.length < ns.length then ⟨200, s.size, none⟩ else ⟨0, 0, some T⟩) = _; rw [if_neg hi, if_pos (by rw [HN.out]; exact hfew)]
              have HOUT := Lib.hid hout
              have hcell := set_cell_eq bx (.slice none 0 0)
              clear hout
              go_wp2_with (at_len; refine walk_len HB.out.set Try.underlying91 rfl _ rfl rfl ?_; rw [HHL.out])
              rw [HOUT.out]
              exact bodyPost_ret (v := .tuple #[.agg #[.slice none 0 0], .int .i64 (s.size : Int), .int .i64 200]) (by simp [results, Try.results22, hcell, go_sem]) rfl ⟨below_set HBW.out (Nat.le_refl _) _ _, rfl⟩
            · have hout : R.out s ns = ⟨0, 0, some T⟩ := by rw [HR.out]; show (if i < s.size then (⟨200, i, none⟩ : POut) else if h.length < ns.length then ⟨200, s.size, none⟩ else ⟨0, 0, some T⟩) = _; rw [if_neg hi, if_neg (by rw [HN.out]; exact hfew)]
              have HOUT := Lib.hid hout
              have hT9 : T.size ≤ 900 := by have := HL.out; have := HN.out; have := HOKN.out; omega
              clear hout
              go_wp2_with (at_len; refine walk_len HB.out.set Try.underlying91 rfl _ rfl rfl ?_; rw [HHL.out])
              refine (tree_calls T _ b HND.out hT9).mono ?_
              rintro e w2 ⟨A2, c2, rfl, ho2, hb2⟩
              have bx2 := cell_below hb2 (by omega) bx
              have fx2 := frozen_below hb2 (by omega) fx
              have HO2 := Lib.hid ho2
              have HB2 := Lib.hid (Below.then HBW.out HBW.out.size hb2)
              have hcell := set_cell_eq bx2 (.slice A2 T.size c2)
              clear ho2 hb2
              go_wp2_with fail
              rw [HOUT.out]
              exact bodyPost_ret (v := .tuple #[.agg #[.slice A2 T.size c2], .int .i64 0, .int .i64 0]) (by simp [results, Try.results22, hcell, go_sem]) rfl ⟨below_set HB2.out (Nat.le_refl _) _ _, A2, c2, rfl, own_mono (ownsRow_setCell_below HO2.out (by show w.heap.size < wr.heap.size; omega) _) (by omega)⟩
end Go.Proofs.Ytbmlkomfelkckaa
