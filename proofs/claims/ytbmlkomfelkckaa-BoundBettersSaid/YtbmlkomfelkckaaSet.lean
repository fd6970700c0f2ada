/- Sets: maps of the call's own whose values are all true; their look-ups, stores, deletions, lengths. No walk here. -/
import Derived.Test.YtbmlkomfelkckaaMem
import Derived.Maps.OwnSet
namespace Go.Proofs.Ytbmlkomfelkckaa
open Go Go.RowKit Go.ChangeMaps Go.MapKept

/-- What serves as a set's key: whole numbers, strings. -/
structure KeyKind (κ : Type) (d : TypeDesc) (f : κ → Value) : Prop where
  inj : ∀ a b, f a = f b → a = b
  key : ∀ a, IsKey d (f a)

/-- Block 'b' is a map with just these keys, each true. -/
def SetAt {κ : Type} (f : κ → Value) (w : World) (b : Nat) (ks : List κ) : Prop :=
  ∃ es ck, w.heap[b]? = some (.map es ck) ∧ es.toList.map (·.key) = ks.map f ∧ (∀ x ∈ es.toList, x.val = .bool true) ∧ ks.Nodup

section
variable {κ : Type} {f : κ → Value} {w w' : World} {b : Nat} {ks : List κ}

theorem SetAt.lt (h : SetAt f w b ks) : b < w.heap.size := by
  obtain ⟨es, ck, hb, _⟩ := h
  exact (Array.getElem?_eq_some_iff.1 hb).1

theorem SetAt.nodup (h : SetAt f w b ks) : ks.Nodup := by
  obtain ⟨es, ck, hb, _, _, hn⟩ := h
  exact hn

theorem SetAt.elem (h : SetAt f w b ks) : elemAt w b = none := by
  obtain ⟨es, ck, hb, _⟩ := h
  simp [elemAt, hb]

theorem SetAt.keep (h : SetAt f w b ks) (hk : w'.heap[b]? = w.heap[b]?) : SetAt f w' b ks := by
  obtain ⟨es, ck, hb, r⟩ := h
  exact ⟨es, ck, hk.trans hb, r⟩

theorem SetAt.below (h : SetAt f w b ks) (k : Below w.heap.size w w') : SetAt f w' b ks := h.keep (k.block b h.lt)
theorem SetAt.alloc (h : SetAt f w b ks) (o : Obj) : SetAt f (w.alloc o) b ks := h.below (below_alloc w o)
theorem SetAt.upd (h : SetAt f w b ks) {v v' : Value} (hu : Upd w w' v v') {base : Nat} {e : TypeId} {size n : Nat} {xs : List Value} (ho : w.ownsRow base e size v n xs) : SetAt f w' b ks :=
  h.keep (hu.1.block b h.lt (fun q => by have h1 := own_elem ho b q.symm; rw [h.elem] at h1; cases h1))
theorem SetAt.setCell (h : SetAt f w b ks) (a : Addr) (u : Value) : SetAt f (w.setCell a u) b ks := by
  refine h.keep ?_
  obtain ⟨es, ck, hb, _⟩ := h
  simp only [World.setCell, Array.getElem?_modify, hb]
  split <;> rfl

theorem SetAt.made (f : κ → Value) (w : World) : SetAt f (w.alloc (.map #[] 0)) w.heap.size [] := ⟨#[], 0, (MapKept.heap_alloc w _).1, rfl, by simp, List.nodup_nil⟩
end

theorem mem_keys {κ : Type} {f : κ → Value} {d : TypeDesc} (K : KeyKind κ d f) (key : κ) (ks : List κ) : f key ∈ ks.map f ↔ key ∈ ks := by
  simp only [List.mem_map]
  constructor
  · rintro ⟨a, ha, e⟩
    rw [← K.inj _ _ e]
    exact ha
  · exact fun h => ⟨key, h, rfl⟩

theorem erase_at {κ : Type} [DecidableEq κ] : ∀ (ks : List κ) (j : Nat) (k : κ), ks.Nodup → ks[j]? = some k → ks.erase k = ks.eraseIdx j
  | [], _, _, _, h => by simp at h
  | x :: xs, 0, k, _, h => by simp at h; subst h; simp
  | x :: xs, j + 1, k, hn, h => by
    have hm : k ∈ xs := List.mem_of_getElem? (by simpa using h)
    have hne : x ≠ k := by rintro rfl; exact (List.nodup_cons.1 hn).1 hm
    rw [List.erase_cons_tail (by simpa using hne), erase_at xs j k (List.nodup_cons.1 hn).2 (by simpa using h)]
    rfl

theorem SetAt.len {κ : Type} {f : κ → Value} {P : Program} {w : World} {b : Nat} {ks : List κ} {t k e : TypeId} (h : SetAt f w b ks) (ht : P.underlying t = some (.map k e)) (ty : TypeId) : (Builtin.len_ #[t] ty #[.map (some b)]).run P w = .ok (.int .i64 (ks.length : Int)) w := by
  obtain ⟨es, ck, hb, hks, hv, hn⟩ := h
  have hl : es.size = ks.length := by have := congrArg List.length hks; simpa using this
  simp [Builtin.len_, run_underlying ht, MapKept.run_getObj_map hb, Result.andThen, goInt, hl]

theorem SetAt.find {κ : Type} {f : κ → Value} {d : TypeDesc} {ks : List κ} (K : KeyKind κ d f) (key : κ) {es : Array MapEntry} (hks : es.toList.map (·.key) = ks.map f) :
    (key ∉ ks ∧ Instr.findNow d (f key) es.toList 0 = some none ∧ ∀ x ∈ es.toList, x.key ≠ f key) ∨
    (key ∈ ks ∧ ∃ j x, Instr.findNow d (f key) es.toList 0 = some (some (0 + j, x.val)) ∧ es.toList[j]? = some x ∧ x.key = f key ∧ ks[j]? = some key) := by
  have hkey : ∀ x ∈ es.toList, IsKey d x.key := by
    intro x hx
    have : x.key ∈ ks.map f := by rw [← hks]; exact List.mem_map.2 ⟨x, hx, rfl⟩
    obtain ⟨a, _, e⟩ := List.mem_map.1 this
    rw [← e]
    exact K.key a
  rcases findNow_spec (K.key key) es.toList 0 hkey with ⟨h1, h2⟩ | ⟨j, x, h1, h2, h3⟩
  · refine .inl ⟨fun hm => ?_, h1, h2⟩
    have : f key ∈ es.toList.map (·.key) := by rw [hks]; exact (mem_keys K key ks).2 hm
    obtain ⟨x, hx, e⟩ := List.mem_map.1 this
    exact h2 x hx e
  · have hj : (ks.map f)[j]? = some (f key) := by rw [← hks, List.getElem?_map, h2]; simp [h3]
    rw [List.getElem?_map] at hj
    obtain ⟨a, ha, e⟩ := Option.map_eq_some_iff.1 hj
    have := K.inj _ _ e
    subst this
    exact .inr ⟨List.mem_of_getElem? ha, j, x, h1, h2, h3, ha⟩

section
variable {κ : Type} [DecidableEq κ] {f : κ → Value} {P : Program} {w : World} {d : TypeDesc} {b : Nat} {ks : List κ} {t k e : TypeId} {key : κ}

theorem SetAt.lookup (K : KeyKind κ d f) (h : SetAt f w b ks) (ht : P.underlying t = some (.map k e)) (hd : P.underlying k = some d) (hz : (zeroValue e).run P w = .ok (.bool false) w) (key : κ) :
    (Instr.lookup t (.map (some b)) (f key) false).run P w = .ok (.bool (decide (key ∈ ks))) w := by
  obtain ⟨es, ck, hb, hks, hv, hn⟩ := h
  rcases SetAt.find K key hks with ⟨hm, h1, h2⟩ | ⟨hm, j, x, h1, h2, h3, h4⟩
  · simp [Instr.lookup, run_underlying ht, MapKept.run_getObj_map hb, MapKept.run_checkKey hd (K.key key), MapKept.run_findKey hd h1, hz, Result.andThen, hm]
  · have hx : x ∈ es.toList := List.mem_of_getElem? h2
    simp [Instr.lookup, run_underlying ht, MapKept.run_getObj_map hb, MapKept.run_checkKey hd (K.key key), MapKept.run_findKey hd h1, Result.andThen, hv x hx, hm]

theorem SetAt.update (K : KeyKind κ d f) (h : SetAt f w b ks) (ht : P.underlying t = some (.map k e)) (hd : P.underlying k = some d) (key : κ) :
    ∃ w', (Instr.mapUpdate t (.map (some b)) (f key) (.bool true)).run P w = .ok () w' ∧ SetAt f w' b (if key ∈ ks then ks else ks ++ [key]) ∧ w.grownBy w' (some b) ∧ w'.heap.size = w.heap.size := by
  obtain ⟨es, ck, hb, hks, hv, hn⟩ := h
  have hk := K.key key
  rcases SetAt.find K key hks with ⟨hm, h1, h2⟩ | ⟨hm, j, x, h1, h2, h3, h4⟩
  · refine ⟨{ w with heap := w.heap.setIfInBounds b (.map (es.push { key := f key, val := .bool true, born := ck }) (ck + 1)) }, ?_, ⟨_, _, (heap_set hb).1, ?_, ?_, ?_⟩, ⟨rfl, rfl, rfl, by simp, fun i _ hi => (heap_set hb).2 i (fun q => hi (by rw [q]))⟩, by simp⟩
    · simp [Instr.mapUpdate, run_underlying ht, MapKept.run_getObj_map hb, MapKept.run_checkKey hd hk, MapKept.run_findKey hd h1, MapKept.run_setObj_map _ hb, Result.andThen]
    · rw [if_neg hm]; simp [hks]
    · intro x hx
      simp at hx
      rcases hx with hx | rfl
      · exact hv x (by simpa using hx)
      · rfl
    · rw [if_neg hm]
      exact List.nodup_append.2 ⟨hn, by simp, by intro a ha b hb; simp at hb; subst hb; rintro rfl; exact hm ha⟩
  · have hj : es[j]? = some x := by simpa using h2
    have hmk : (es.modify j fun e => { e with key := f key, val := .bool true }).toList.map (·.key) = es.toList.map (·.key) := modify_keys j _ (fun y hy => by rw [hj] at hy; cases hy; exact h3.symm)
    refine ⟨{ w with heap := w.heap.setIfInBounds b (.map (es.modify j fun e => { e with key := f key, val := .bool true }) ck) }, ?_, ⟨_, _, (heap_set hb).1, ?_, ?_, ?_⟩, ⟨rfl, rfl, rfl, by simp, fun i _ hi => (heap_set hb).2 i (fun q => hi (by rw [q]))⟩, by simp⟩
    · simp [Instr.mapUpdate, run_underlying ht, MapKept.run_getObj_map hb, MapKept.run_checkKey hd hk, MapKept.run_findKey hd h1, hj, h3, run_keyThatStays hk, MapKept.run_setObj_map _ hb, Result.andThen]
    · rw [if_pos hm, hmk]; exact hks
    · intro y hy
      obtain ⟨i, hi, rfl⟩ := List.mem_iff_getElem.1 hy
      simp only [Array.length_toList, Array.size_modify] at hi
      simp only [Array.getElem_toList, Array.getElem_modify]
      split
      · rfl
      · exact hv _ (by simp)
    · rw [if_pos hm]; exact hn

theorem SetAt.delete (K : KeyKind κ d f) (h : SetAt f w b ks) (ht : P.underlying t = some (.map k e)) (hd : P.underlying k = some d) (key : κ) (ty : TypeId) :
    ∃ w', (Builtin.delete_ #[t, k] ty #[.map (some b), f key]).run P w = .ok (.tuple #[]) w' ∧ SetAt f w' b (ks.erase key) ∧ w.grownBy w' (some b) ∧ w'.heap.size = w.heap.size := by
  obtain ⟨es, ck, hb, hks, hv, hn⟩ := h
  have hk := K.key key
  rcases SetAt.find K key hks with ⟨hm, h1, h2⟩ | ⟨hm, j, x, h1, h2, h3, h4⟩
  · refine ⟨{ w with heap := w.heap.setIfInBounds b (.map es ck) }, ?_, ⟨_, _, (heap_set hb).1, ?_, hv, ?_⟩, ⟨rfl, rfl, rfl, by simp, fun i _ hi => (heap_set hb).2 i (fun q => hi (by rw [q]))⟩, by simp⟩
    · simp [Builtin.delete_, run_underlying ht, MapKept.run_getObj_map hb, MapKept.run_checkKey hd hk, MapKept.run_findKey hd h1, MapKept.run_setObj_map _ hb, Result.andThen]
    · rw [List.erase_of_not_mem hm]; exact hks
    · rw [List.erase_of_not_mem hm]; exact hn
  · have hjl : j < es.toList.length := (List.getElem?_eq_some_iff.1 h2).1
    have hj : j < es.size := by simpa using hjl
    have hel : ks.erase key = ks.eraseIdx j := erase_at ks j key hn h4
    refine ⟨{ w with heap := w.heap.setIfInBounds b (.map (es.eraseIdxIfInBounds j) ck) }, ?_, ⟨_, _, (heap_set hb).1, ?_, ?_, ?_⟩, ⟨rfl, rfl, rfl, by simp, fun i _ hi => (heap_set hb).2 i (fun q => hi (by rw [q]))⟩, by simp⟩
    · simp [Builtin.delete_, run_underlying ht, MapKept.run_getObj_map hb, MapKept.run_checkKey hd hk, MapKept.run_findKey hd h1, MapKept.run_setObj_map _ hb, Result.andThen]
    · rw [hel]
      unfold Array.eraseIdxIfInBounds
      rw [dif_pos hj]
      simp only [Array.toList_eraseIdx]
      rw [map_eraseIdx, map_eraseIdx, hks]
    · intro y hy
      refine hv y ?_
      unfold Array.eraseIdxIfInBounds at hy
      rw [dif_pos hj] at hy
      simp only [Array.toList_eraseIdx] at hy
      exact List.mem_of_mem_eraseIdx hy
    · exact hn.erase _

variable {ops : Array Oper} {rest : List Oper} {o : Oper} {a : Act} {Q : Exit → Act → World → Prop}

/-- 's[k]' of a set. -/
theorem walk_has (h : SetAt f w b ks) (K : KeyKind κ d f) (ht : P.underlying t = some (.map k e)) (hd : P.underlying k = some d) (hz : (zeroValue e).run P w = .ok (.bool false) w) (hg : o.guard = none) (m x : Operand) (hop : o.op = Op.lookup t m x false)
    (hm : a.eval m = .map (some b)) (hx : a.eval x = f key) (hK : wpList P ops Q rest (a.put o.dst (.bool (decide (key ∈ ks)))) w) : wpList P ops Q (o :: rest) a w := by
  refine wpList_plain hg fun K' hK' => ?_
  have hrun := SetAt.lookup K h ht hd hz key
  unfold Oper.wp
  simp [execOp, hop, hm, hx, hrun, Result.andThen]
  exact hK' _ _ hK

/-- 's[k] = true'. -/
theorem walk_put (h : SetAt f w b ks) (K : KeyKind κ d f) (ht : P.underlying t = some (.map k e)) (hd : P.underlying k = some d) (hg : o.guard = none) (m x v : Operand) (hop : o.op = Op.mapUpdate t m x v)
    (hm : a.eval m = .map (some b)) (hx : a.eval x = f key) (hv : a.eval v = .bool true)
    (hK : ∀ w', SetAt f w' b (if key ∈ ks then ks else ks ++ [key]) → w.grownBy w' (some b) → w'.heap.size = w.heap.size → wpList P ops Q rest (a.put o.dst undef) w') : wpList P ops Q (o :: rest) a w := by
  refine wpList_plain hg fun K' hK' => ?_
  obtain ⟨w', hrun, r1, r2, r3⟩ := SetAt.update K h ht hd key
  unfold Oper.wp
  simp [execOp, hop, hm, hx, hv, hrun, Result.andThen]
  exact hK' _ _ (hK w' r1 r2 r3)

/-- 'delete(s, k)'. -/
theorem walk_del (h : SetAt f w b ks) (K : KeyKind κ d f) (ht : P.underlying t = some (.map k e)) (hd : P.underlying k = some d) (hg : o.guard = none) (m x : Operand) (hop : o.op = Op.call { callee := Callee.builtin Builtin.delete, args := #[m, x], argTypes := #[t, k] })
    (hm : a.eval m = .map (some b)) (hx : a.eval x = f key)
    (hK : ∀ w', SetAt f w' b (ks.erase key) → w.grownBy w' (some b) → w'.heap.size = w.heap.size → wpList P ops Q rest (a.put o.dst (.tuple #[])) w') : wpList P ops Q (o :: rest) a w := by
  refine wpList_plain hg fun K' hK' => ?_
  obtain ⟨w', hrun, r1, r2, r3⟩ := SetAt.delete (P := P) K h ht hd key o.type
  unfold Oper.wp
  simp [execOp, hop, resolve, invoke, builtin, hm, hx, hrun, Result.andThen]
  exact hK' _ _ (hK w' r1 r2 r3)

end

/-- 'len(s)'. -/
theorem walk_len {κ : Type} {f : κ → Value} {P : Program} {w : World} {b : Nat} {ks : List κ} {t k e : TypeId} {ops : Array Oper} {rest : List Oper} {o : Oper} {a : Act} {Q : Exit → Act → World → Prop} (h : SetAt f w b ks) (ht : P.underlying t = some (.map k e)) (hg : o.guard = none) (m : Operand) (hop : o.op = Op.call { callee := Callee.builtin Builtin.len, args := #[m], argTypes := #[t] })
    (hm : a.eval m = .map (some b)) (hK : wpList P ops Q rest (a.put o.dst (.int .i64 (ks.length : Int))) w) : wpList P ops Q (o :: rest) a w := by
  refine wpList_plain hg fun K' hK' => ?_
  have hrun := SetAt.len (P := P) h ht o.type
  unfold Oper.wp
  simp [execOp, hop, resolve, invoke, builtin, hm, hrun, Result.andThen]
  exact hK' _ _ hK
/-- Of whole numbers. -/
def intKey (k : Int) : Value := .int .i64 k
theorem kint : KeyKind Int (.int .i64) intKey := ⟨fun a b h => by simpa [intKey] using h, fun a => by simp [IsKey, intKey]⟩
/-- Of strings. -/
def strKey (s : ByteArray) : Value := .string s
theorem kstr : KeyKind ByteArray .string strKey := ⟨fun a b h => by simpa [strKey] using h, fun a => by simp [IsKey, strKey]⟩

end Go.Proofs.Ytbmlkomfelkckaa
