/- siglumref22.Best. -/
import Derived.Test.YtbmlkomfelkckaaNumb
import Derived.Test.YtbmlkomfelkckaaRSite
import Derived.Test.YtbmlkomfelkckaaBestT
namespace Go.Proofs.Ytbmlkomfelkckaa
open Go Go.RowKit
set_option maxRecDepth 100000

/-- A list of trees, a cell each; each tree's branches lie somewhere. -/
structure TreesF (W : World) (base : Nat) (v : Value) (L : List NT) (vs : List Value) : Prop where
  own : W.ownsRow base 26 1 v L.length vs
  rows : ∀ (i : Nat) (T : NT), L[i]? = some T → ∃ g c, vs[i]? = some (.slice (some ⟨g, 0, none⟩) T.size c) ∧ FAt W g c (T.form 0)

theorem TreesF.nil (W : World) (base : Nat) : TreesF W base (.slice none 0 0) [] [] := ⟨World.ownsRow_nil _ _ _ _, fun i T h => by simp at h⟩

theorem TreesF.below {W W' : World} {base : Nat} {v : Value} {L : List NT} {vs : List Value} (h : TreesF W base v L vs) (hb : Below W.heap.size W W') : TreesF W' base v L vs :=
  ⟨own_below h.own hb, fun i T hi => by obtain ⟨g, c, h1, h2⟩ := h.rows i T hi; exact ⟨g, c, h1, h2.below hb⟩⟩

theorem FAt.updT {W W' : World} {g c : Nat} {xs : List Br} {base n : Nat} {v v' : Value} {vs : List Value} (hf : FAt W g c xs) (hu : Upd W W' v v') (ho : W.ownsRow base 26 1 v n vs)
    (hv : v = .slice none 0 0 ∨ ∃ A k d, vs[0]? = some (.slice A k d)) : FAt W' g c xs := by
  have hne : ∀ k, v.ownBlock = some k → g ≠ k := by
    rintro k hk rfl
    rcases hv with rfl | ⟨A, m, d, h0⟩
    · simp [Value.ownBlock] at hk
    · obtain ⟨x, hx⟩ : ∃ x, xs[0]? = some x := ⟨_, List.getElem?_eq_getElem hf.pos⟩
      have h1 := hf.cells 0 _ (brs_get xs 0 x hx).1
      obtain ⟨A2, c2, rfl, -⟩ := own_slice ho
      have hn : 0 < n := by
        have := ho.1
        have := (List.getElem?_eq_some_iff.1 h0).1
        omega
      obtain ⟨g2, hg2, -, -, h2⟩ := own_at ho hn
      subst hg2
      have h3 := h2 0 _ h0
      rw [add_plain] at h3
      obtain rfl : g2 = g := by simpa [Value.ownBlock] using hk
      rw [h1] at h3
      cases h3
  refine ⟨hf.cap, hf.pos, Nat.lt_of_lt_of_le hf.lt hu.1.size, hf.top, fun j u hj => ?_⟩
  refine (World.cell?_of_block (hu.1.block g hf.lt ?_)).trans (hf.cells j u hj)
  intro e
  exact hne g e.symm rfl

theorem TreesF.snoc {W W' : World} {base g c : Nat} {v v' : Value} {L : List NT} {vs : List Value} {T : NT} (h : TreesF W base v L vs) (ho : W'.ownsRow base 26 1 v' (L.length + 1) (vs ++ [.slice (some ⟨g, 0, none⟩) T.size c])) (hu : Upd W W' v v') (hf : FAt W' g c (T.form 0))
    (hv : v = .slice none 0 0 ∨ 0 < L.length) : TreesF W' base v' (L ++ [T]) (vs ++ [.slice (some ⟨g, 0, none⟩) T.size c]) := by
  have hl : vs.length = L.length := by simpa using h.own.1
  have hvs : v = .slice none 0 0 ∨ ∃ A k d, vs[0]? = some (.slice A k d) := by
    rcases hv with hv | hv
    · exact .inl hv
    · obtain ⟨S, hS⟩ : ∃ S, L[0]? = some S := ⟨_, List.getElem?_eq_getElem hv⟩
      obtain ⟨g0, c0, h1, -⟩ := h.rows 0 S hS
      exact .inr ⟨_, _, _, h1⟩
  refine ⟨by simpa using ho, fun i S hi => ?_⟩
  by_cases hil : i < L.length
  · rw [List.getElem?_append_left hil] at hi
    obtain ⟨g1, c1, h1, h2⟩ := h.rows i S hi
    exact ⟨g1, c1, by rw [List.getElem?_append_left (by omega)]; exact h1, h2.updT hu h.own hvs⟩
  · have hlt := (List.getElem?_eq_some_iff.1 hi).1
    simp only [List.length_append, List.length_singleton] at hlt
    obtain rfl : i = L.length := by omega
    rw [List.getElem?_append_right (Nat.le_refl _), Nat.sub_self] at hi
    obtain rfl : T = S := by simpa using hi
    exact ⟨g, c, by rw [List.getElem?_append_right (by omega)]; simp [hl], hf⟩

theorem TreesF.mono {W : World} {base base' : Nat} {v : Value} {L : List NT} {vs : List Value} (h : TreesF W base v L vs) (hb : base' ≤ base) : TreesF W base' v L vs := ⟨own_mono h.own hb, h.rows⟩

/-- What the reference's Best leaves. -/
def RetBestR (w : World) (rows : List (List Int)) (e : Ending) (w' : World) : Prop :=
  Below w.heap.size w w' ∧ if matOk rows = true then
      if rows.length ≤ 7 then ∃ A c vs, e = .returned (.tuple #[.slice A (bestAll rows).l.length c, .int .i64 (lowI (bestAll rows).low), .int .i64 0]) ∧ TreesF w' w.heap.size (.slice A (bestAll rows).l.length c) (bestAll rows).l vs
      else e = .returned (.tuple #[.slice none 0 0, .int .i64 0, .int .i64 220])
    else e = .returned (.tuple #[.slice none 0 0, .int .i64 0, .int .i64 190])

theorem trees_take {n i : Nat} (h1 : 1 ≤ n) (h12 : n ≤ 12) (hi : i < countUp (n - 1)) : (treesOf (n : Int)).take (i + 1) = (treesOf (n : Int)).take i ++ [numbered (n - 1) i] := by
  have h := trees_get (n - 1) i (by omega) hi
  rw [treesOf_in h1 h12]
  have hl := (List.getElem?_eq_some_iff.1 h).1
  rw [List.take_succ_eq_append_getElem hl]
  congr 2
  exact (List.getElem?_eq_some_iff.1 h).2

set_option maxHeartbeats 4000000 in
theorem rbest_calls (A2 : Option Addr) (n2 c2 : Nat) (rows : List (List Int)) (w : World) (hr : RdRows w A2 rows) (hn : rows.length = n2) (hcap : n2 ≤ 9223372036854775807) :
    Calls Try.prog 28 #[.agg #[.slice A2 n2 c2]] w (RetBestR w rows) := by
  have HMC := Lib.hid (fun (W : World) (h : Below w.heap.size w W) => rmcheck_calls A2 n2 c2 rows W (hr.below h) hn hcap)
  have hb0 := below_alloc w (.cells #[.slice A2 n2 c2] 36)
  have c0 := new_cell w #[.slice A2 n2 c2] 36 0
  have hz : w.heap.size < (w.alloc (.cells #[.slice A2 n2 c2] 36)).heap.size := by simp
  have HB0 := Lib.hid hb0
  clear hb0
  by_cases hm : matOk rows = true
  · have he : errMat rows = 0 := by unfold errMat; rw [if_pos hm]
    rw [he] at HMC
    by_cases h7 : n2 ≤ 7
    · have HIF : Hid (∀ e w', (Below w.heap.size w w' ∧ ∃ A c vs, e = .returned (.tuple #[.slice A (bestAll rows).l.length c, .int .i64 (lowI (bestAll rows).low), .int .i64 0]) ∧ TreesF w' w.heap.size (.slice A (bestAll rows).l.length c) (bestAll rows).l vs) → RetBestR w rows e w') := by
        refine Lib.hid fun e w' h => ⟨h.1, ?_⟩
        rw [if_pos hm, if_pos (by omega)]
        exact h.2
      have h7I : ¬ (n2 : Int) > 7 := by omega
      have hlen : 0 < n2 := by
        unfold matOk at hm
        simp at hm
        omega
      have HCN : Hid (∀ W, Calls Try.prog 37 #[.int .i64 (n2 : Int)] W fun e w' => e = .returned (.tuple #[.int .i64 (countUp (n2 - 1) : Int), .int .i64 0]) ∧ w' = W) := by
        refine Lib.hid fun W => ?_
        have := rcount_calls (n2 : Int) W (by omega)
        unfold cntOf cntErr at this
        rw [if_pos (by omega), if_pos (by omega), Int.toNat_natCast] at this
        exact this
      have HNM : Hid (∀ (i : Nat) (W : World), i < countUp (n2 - 1) → Calls Try.prog 38 #[.int .i64 (n2 : Int), .int .i64 (i : Int)] W (RetHang W (numbered (n2 - 1) i))) := by
        refine Lib.hid fun i W hi => ?_
        have := numbered_calls (n2 - 1) i W (by omega) hi
        rw [show n2 - 1 + 1 = n2 by omega] at this
        exact this
      have HSM : Hid (∀ (W : World) (g c : Nat) (T : NT), Below w.heap.size w W → FAt W g c (T.form 0) → T.size ≤ 1000 → Calls Try.prog 64 #[.agg #[.slice (some ⟨g, 0, none⟩) T.size c], .agg #[.slice A2 n2 c2]] W fun e w' => e = .returned (.tuple #[.int .i64 (sumNum (T.form 0) rows : Int), .int .i64 (errBoth (T.form 0) rows)]) ∧ Below W.heap.size W w') :=
        Lib.hid fun W g c T hW hf hz => rsum_calls (some ⟨g, 0, none⟩) T.size c (T.form 0) A2 n2 c2 rows W ⟨hf.rd, NT.form_length T 0, by omega, hr.below hW, hn, hcap⟩
      have hcnt := count_top (n2 - 1) (by omega)
      have HCF : Hid (countUp (n2 - 1) ≤ 10395) := Nat.le_trans (count_le (n2 - 1) 6 (by omega)) (by decide)
      have HN := Lib.hid hn
      obtain ⟨N, hN⟩ : ∃ N, countUp (n2 - 1) = N := ⟨_, rfl⟩
      have HNN := Lib.hid hN
      rw [hN] at HCN HNM hcnt HCF
      clear hm he hn hr hN
      go_enter Try.func28, Try.ntmps28
      go_wp2_with fail
      refine (HMC.out _ HB0.out).mono ?_
      rintro e w1 ⟨rfl, hb⟩
      have c0 := cell_below hb hz c0
      have HB1 := Lib.hid (Below.then HB0.out HB0.out.size hb)
      have hz1 := Nat.lt_of_lt_of_le hz hb.size
      clear hb hz HMC
      go_wp2_with fail
      (with_reducible refine (HCN.out _).mono ?_)
      rintro e w2 ⟨rfl, rfl⟩
      have hz2 : w.heap.size < w2.heap.size := hz1
      have HT0 : Hid (TreesF w2 (w.heap.size + 1) (.slice none 0 0) (lfold (fun T => sumNum (T.form 0) rows) ((treesOf (n2 : Int)).take 0)).l []) := TreesF.nil _ _
      clear HCN
      go_wp2_with fail
      go_loopg [8, 9, 10] N (fun gk v8 v9 v10 wr => ∃ (i : Nat) (lo : Int) (v : Value) (vs : List Value), v = v8 ∧ v9 = .int .i64 lo ∧ v10 = .int .i64 (i : Int) ∧ i ≤ N ∧ Hid (gk + i = N) ∧ Hid (lo = lowI (lfold (fun T => sumNum (T.form 0) rows) ((treesOf (n2 : Int)).take i)).low) ∧ Hid (TreesF wr (w.heap.size + 1) v (lfold (fun T => sumNum (T.form 0) rows) ((treesOf (n2 : Int)).take i)).l vs) ∧
        Hid (Below w.heap.size w wr) ∧ wr.cell? ⟨w.heap.size, 0, none⟩ = some (.slice A2 n2 c2) ∧ w.heap.size < wr.heap.size)
      case atStart => exact ⟨0, -1, _, [], rfl, rfl, rfl, Nat.zero_le _, rfl, rfl, HT0.out, HB1.out, c0, hz2⟩
      case round =>
        obtain ⟨i, lo, v8, vs, rfl, rfl, rfl, hiN, HG, hlo, ht, HB, c0, hzr⟩ := hrel
        by_cases hin : i < N
        · have hinI : (i : Int) < N := by omega
          have HTK : Hid ((treesOf (n2 : Int)).take (i + 1) = (treesOf (n2 : Int)).take i ++ [numbered (n2 - 1) i]) := trees_take hlen (by omega) (by rw [HNN.out]; exact hin)
          have hon := (trees_on (n2 - 1) (by omega) _ (List.mem_of_getElem? (trees_get (n2 - 1) i (by omega) (by rw [HNN.out]; exact hin)))).1
          have HC1 := Lib.hid (HNM.out i wr hin)
          obtain ⟨T, hT⟩ : ∃ T, numbered (n2 - 1) i = T := ⟨_, rfl⟩
          rw [hT] at HTK hon HC1
          have hzT : T.size ≤ 100 := by have := hon.size; omega
          obtain ⟨s, hs⟩ : ∃ s, lfold (fun T => sumNum (T.form 0) rows) ((treesOf (n2 : Int)).take i) = s := ⟨_, rfl⟩
          have HSN : Hid (lfold (fun T => sumNum (T.form 0) rows) ((treesOf (n2 : Int)).take (i + 1)) = lstep (fun T => sumNum (T.form 0) rows) s T) := by
            show _ = _
            rw [HTK.out, lfold_snoc, hs]
          have HZ : Hid (s.l.length ≤ 10395 ∧ (s.low = none → s.l = []) ∧ ∀ m, s.low = some m → 0 < s.l.length) := by
            rw [← hs]
            refine ⟨?_, lfold_none _ _, fun m => lfold_some _ _⟩
            have h1 := lfold_len (fun T => sumNum (T.form 0) rows) ((treesOf (n2 : Int)).take i)
            rw [List.length_take] at h1
            have := HCF.out
            omega
          rw [hs] at hlo ht
          have HTR := Lib.hid ht.out
          have HLO := Lib.hid hlo.out
          clear hs hT hon ht hlo hin
          go_wp2_with fail
          (with_reducible refine HC1.out.mono ?_)
          rintro e3 w3 ⟨g3, c3, rfl, hf3, hb3⟩
          have hb4 := below_alloc w3 (.cells #[.slice (some ⟨g3, 0, none⟩) T.size c3] 26)
          have q4 := new_cell w3 #[.slice (some ⟨g3, 0, none⟩) T.size c3] 26 0
          have hz3 := hb3.size
          have c0 := cell_below hb4 (by omega) (cell_below hb3 hzr c0)
          have HBW := Lib.hid (Below.then hb3 hz3 hb4)
          have HF4 := Lib.hid (hf3.below hb4)
          have hz4 : w3.heap.size < (w3.alloc (.cells #[.slice (some ⟨g3, 0, none⟩) T.size c3] 26)).heap.size := by simp
          have HB4 := Lib.hid (Below.then HB.out HB.out.size HBW.out)
          have HS4 := Lib.hid (HSM.out _ g3 c3 T HB4.out HF4.out (by omega))
          clear hb3 hb4 hf3 HC1
          go_wp2_with fail
          generalize w3.alloc (.cells #[.slice (some ⟨g3, 0, none⟩) T.size c3] 26) = W4 at *
          (with_reducible refine HS4.out.mono ?_)
          rintro e5 w5 ⟨rfl, hb5⟩
          have m5 := cell_below hb5 (by omega) c0
          have q5 := cell_below hb5 hz4 q4
          have HB5 := Lib.hid (Below.then HB4.out HB4.out.size hb5)
          have HF5 := Lib.hid (HF4.out.below hb5)
          have HT5 := Lib.hid ((HTR.out.below HBW.out).below hb5)
          have hz5w : w.heap.size + 1 ≤ w5.heap.size := by have := hb5.size; omega
          clear hb5 c0 q4 HS4 HBW HF4 HTR
          obtain ⟨q, hq⟩ : ∃ q, sumNum (T.form 0) rows = q := ⟨_, rfl⟩
          obtain ⟨er, her⟩ : ∃ er, errBoth (T.form 0) rows = er := ⟨_, rfl⟩
          have HQ := Lib.hid hq
          rw [hq, her]
          obtain ⟨sz, hsz⟩ : ∃ sz, T.size = sz := ⟨_, rfl⟩
          have HSZ := Lib.hid hsz
          rw [hsz] at q5
          obtain ⟨sl, slow⟩ := s
          dsimp only at HT5 HLO HZ
          clear hq her hsz
          cases slow with
          | none =>
            obtain rfl : lo = -1 := HLO.out
            have HS1 : Hid (lfold (fun T => sumNum (T.form 0) rows) ((treesOf (n2 : Int)).take (i + 1)) = ⟨[T], some q⟩) := by
              show _ = _
              rw [HSN.out, lstep, HQ.out]
            have HO := Lib.hid (World.ownsRow_nil w5 (w.heap.size + 1) 26 1)
            clear HSN HZ HQ HLO HT5
            go_wp2_with (at_builtin; refine walk_append1 HO.out hz5w (by omega) 38 Try.underlying38 info_treeT ⟨rfl, by decide, by decide⟩ #[.slice (some ⟨g3, 0, none⟩) sz c3] ⟨rfl, by simp [Value.oneCell']⟩ (by exact ⟨rfl, rfl, rfl, rfl, rfl⟩) ?_; intro v1 w9 ho9 hu9)
            have hb9 := hu9.below hz5w (own_base HO.out)
            have hF9 := HF5.out.updT hu9 HO.out (.inl rfl)
            rw [← HSZ.out] at ho9
            have hT9 := (TreesF.nil w5 (w.heap.size + 1)).snoc (T := T) (g := g3) (c := c3) ho9 hu9 hF9 (.inl rfl)
            go_roundg (gk - 1)
            case measure => have := HG.out; omega
            case rel =>
              refine ⟨i + 1, (q : Int), v1, [] ++ [.slice (some ⟨g3, 0, none⟩) T.size c3], rfl, rfl, by go_num, by omega, by have := HG.out; show gk - 1 + (i + 1) = N; omega, ?_, ?_, HB5.out.trans (hb9.mono (Nat.le_succ _)), cell_below hb9 (Nat.lt_succ_self _) m5, by have := hu9.1.size; omega⟩
              · show _ = lowI _
                rw [HS1.out]
                rfl
              · show TreesF _ _ _ _ _
                rw [HS1.out]
                exact hT9
          | some mm =>
            obtain rfl : lo = (mm : Int) := HLO.out
            have hpos := HZ.out.2.2 mm rfl
            have hfew := HZ.out.1
            have hm0 : ¬ (mm : Int) < 0 := by omega
            by_cases hlt : q < mm
            · have hltI : (q : Int) < (mm : Int) := by omega
              have HS1 : Hid (lfold (fun T => sumNum (T.form 0) rows) ((treesOf (n2 : Int)).take (i + 1)) = ⟨[T], some q⟩) := by
                show _ = _
                rw [HSN.out, lstep, HQ.out]
                exact if_pos hlt
              clear hlt hpos hfew
              have HO := Lib.hid (World.ownsRow_nil w5 (w.heap.size + 1) 26 1)
              clear HSN HZ HQ HLO HT5
              go_wp2_with (at_builtin; refine walk_append1 HO.out hz5w (by omega) 38 Try.underlying38 info_treeT ⟨rfl, by decide, by decide⟩ #[.slice (some ⟨g3, 0, none⟩) sz c3] ⟨rfl, by simp [Value.oneCell']⟩ (by exact ⟨rfl, rfl, rfl, rfl, rfl⟩) ?_; intro v1 w9 ho9 hu9)
              have hb9 := hu9.below hz5w (own_base HO.out)
              have hF9 := HF5.out.updT hu9 HO.out (.inl rfl)
              rw [← HSZ.out] at ho9
              have hT9 := (TreesF.nil w5 (w.heap.size + 1)).snoc (T := T) (g := g3) (c := c3) ho9 hu9 hF9 (.inl rfl)
              go_roundg (gk - 1)
              case measure => have := HG.out; omega
              case rel =>
                refine ⟨i + 1, (q : Int), v1, [] ++ [.slice (some ⟨g3, 0, none⟩) T.size c3], rfl, rfl, by go_num, by omega, by have := HG.out; show gk - 1 + (i + 1) = N; omega, ?_, ?_, HB5.out.trans (hb9.mono (Nat.le_succ _)), cell_below hb9 (Nat.lt_succ_self _) m5, by have := hu9.1.size; omega⟩
                · show _ = lowI _
                  rw [HS1.out]
                  rfl
                · show TreesF _ _ _ _ _
                  rw [HS1.out]
                  exact hT9
            · have hltI : ¬ (q : Int) < (mm : Int) := by omega
              by_cases heq : q = mm
              · subst heq
                have f1 : ((q : Int) == (q : Int)) = true := by simp
                have HS1 : Hid (lfold (fun T => sumNum (T.form 0) rows) ((treesOf (n2 : Int)).take (i + 1)) = ⟨sl ++ [T], some q⟩) := by
                  show _ = _
                  rw [HSN.out, lstep, HQ.out]
                  simp
                have hv0 : v8 = .slice none 0 0 ∨ ∃ A k d, vs[0]? = some (.slice A k d) := by
                  obtain ⟨S, hS⟩ : ∃ S, sl[0]? = some S := ⟨_, List.getElem?_eq_getElem hpos⟩
                  obtain ⟨g0, c0, h1, -⟩ := HT5.out.rows 0 S hS
                  exact .inr ⟨_, _, _, h1⟩
                have HV0 := Lib.hid hv0
                have HPO := Lib.hid hpos
                have HO : Hid (w5.ownsRow (w.heap.size + 1) 26 1 v8 sl.length vs) := HT5.out.own
                clear HSN HZ HQ HLO hv0 hpos hlt
                go_wp2_with (at_builtin; refine walk_append1 HO.out hz5w (by omega) 38 Try.underlying38 info_treeT ⟨rfl, by decide, by decide⟩ #[.slice (some ⟨g3, 0, none⟩) sz c3] ⟨rfl, by simp [Value.oneCell']⟩ (by exact ⟨rfl, rfl, rfl, rfl, rfl⟩) ?_; intro v1 w9 ho9 hu9)
                have hb9 := hu9.below hz5w (own_base HO.out)
                have hF9 := HF5.out.updT hu9 HO.out HV0.out
                rw [← HSZ.out] at ho9
                have hT9 := HT5.out.snoc (T := T) (g := g3) (c := c3) ho9 hu9 hF9 (.inr HPO.out)
                go_roundg (gk - 1)
                case measure => have := HG.out; omega
                case rel =>
                  refine ⟨i + 1, (q : Int), v1, vs ++ [.slice (some ⟨g3, 0, none⟩) T.size c3], rfl, rfl, by go_num, by omega, by have := HG.out; show gk - 1 + (i + 1) = N; omega, ?_, ?_, HB5.out.trans (hb9.mono (Nat.le_succ _)), cell_below hb9 (Nat.lt_succ_self _) m5, by have := hu9.1.size; omega⟩
                  · show _ = lowI _
                    rw [HS1.out]
                    rfl
                  · show TreesF _ _ _ _ _
                    rw [HS1.out]
                    exact hT9
              · have f1 : ((q : Int) == (mm : Int)) = false := by rw [beq_eq_false_iff_ne]; omega
                have HS1 : Hid (lfold (fun T => sumNum (T.form 0) rows) ((treesOf (n2 : Int)).take (i + 1)) = ⟨sl, some mm⟩) := by
                  show _ = _
                  rw [HSN.out, lstep, HQ.out]
                  show (if q < mm then _ else if q = mm then _ else _) = _
                  rw [if_neg hlt, if_neg heq]
                clear HSN HZ HQ HLO hpos hlt heq hfew
                go_wp2_with fail
                go_roundg (gk - 1)
                case measure => have := HG.out; omega
                case rel =>
                  refine ⟨i + 1, (mm : Int), v8, vs, rfl, rfl, by go_num, by omega, by have := HG.out; show gk - 1 + (i + 1) = N; omega, ?_, ?_, HB5.out, m5, by omega⟩
                  · show _ = lowI _
                    rw [HS1.out]
                    rfl
                  · show TreesF _ _ _ _ _
                    rw [HS1.out]
                    exact HT5.out
        · obtain rfl : i = N := by omega
          have hinI : ¬ (i : Int) < i := by omega
          have hall : (treesOf (n2 : Int)).take i = treesOf (n2 : Int) := List.take_of_length_le (by rw [treesOf_in hlen (by omega), trees_length _ (by omega), HNN.out]; exact Nat.le_refl _)
          rw [hall] at hlo ht
          have HEQ : Hid (lfold (fun T => sumNum (T.form 0) rows) (treesOf (n2 : Int)) = bestAll rows) := by
            show _ = _
            unfold bestAll
            rw [HN.out]
          rw [HEQ.out] at hlo ht
          obtain ⟨A, c, rfl, -⟩ := own_slice ht.out.own
          have HLO := Lib.hid hlo.out
          clear hlo hall
          go_wp2_with fail
          go_ret3
          exact HIF.out _ _ ⟨HB.out, A, c, vs, by rw [← HLO.out]; rfl, ht.out.mono (Nat.le_succ _)⟩
    · have HIF : Hid (∀ w', Below w.heap.size w w' → RetBestR w rows (.returned (.tuple #[.slice none 0 0, .int .i64 0, .int .i64 220])) w') := by
        refine Lib.hid fun w' h => ⟨h, ?_⟩
        rw [if_pos hm, if_neg (by omega)]
      have h7I : (n2 : Int) > 7 := by omega
      clear hm he hn hr h7
      go_enter Try.func28, Try.ntmps28
      go_wp2_with fail
      refine (HMC.out _ HB0.out).mono ?_
      rintro e w1 ⟨rfl, hb⟩
      have c0 := cell_below hb hz c0
      have HB1 := Lib.hid (Below.then HB0.out HB0.out.size hb)
      clear hb hz
      go_wp2_with fail
      go_ret3
      exact HIF.out _ HB1.out
  · have he : errMat rows = 190 := by unfold errMat; rw [if_neg hm]
    rw [he] at HMC
    have HIF : Hid (∀ w', Below w.heap.size w w' → RetBestR w rows (.returned (.tuple #[.slice none 0 0, .int .i64 0, .int .i64 190])) w') := by
      refine Lib.hid fun w' h => ⟨h, ?_⟩
      rw [if_neg hm]
    clear hm he hn hr
    go_enter Try.func28, Try.ntmps28
    go_wp2_with fail
    refine (HMC.out _ HB0.out).mono ?_
    rintro e w1 ⟨rfl, hb⟩
    have HB1 := Lib.hid (Below.then HB0.out HB0.out.size hb)
    clear hb hz
    go_wp2_with fail
    go_ret3
    exact HIF.out _ HB1.out
end Go.Proofs.Ytbmlkomfelkckaa
