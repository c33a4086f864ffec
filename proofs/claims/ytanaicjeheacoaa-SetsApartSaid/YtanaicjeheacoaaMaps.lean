/-
  Maps in memory, over any program: what a map holds, as a list of keys and values, and what the operations do to it.
-/
import Derived.Test.YtanaicjeheacoaaMem
import Derived.Maps.OwnOps
import Derived.Maps.OwnSet
import Derived.Maps.RangeWalk
import Derived.Maps.RangeRun
namespace Go.Proofs.Ytanaicjeheacoaa
open Go.RowKit

/-- keys of type kt, as enc says them, are told apart as they are -/
structure KeyLaw (P : Program) (kt : TypeId) {κ : Type} [DecidableEq κ] (enc : κ → Value) : Prop where
  now : ∃ U, P.underlying kt = some U ∧ ∀ a b, Instr.sameNow U (enc a) (enc b) = none ∨ Instr.sameNow U (enc a) (enc b) = some (decide (a = b))
  check : ∀ (empty : Bool) (k : κ) (w : World), (Instr.checkKey empty 10000 kt (enc k)).run P w = .ok () w
  eq : ∀ (a b : κ) (w : World), (Op.equal kt (enc a) (enc b)).run P w = .ok (decide (a = b)) w
  same : ∀ k, Instr.sameBits 10000 (enc k) (enc k) = true

/-- the map in block b holds m -/
def MapIs {κ : Type} (enc : κ → Value) (w : World) (b : Nat) (m : List (κ × Value)) : Prop :=
  ∃ es clock, w.heap[b]? = some (.map es clock) ∧ es.toList.map (fun e => (e.key, e.val)) = m.map (fun p => (enc p.1, p.2)) ∧ (m.map (·.1)).Nodup ∧ (es.toList.map (·.born)).Nodup ∧ ∀ e ∈ es.toList, e.born < clock

section
variable {κ : Type} {enc : κ → Value}

theorem MapIs.new (enc : κ → Value) {w : World} {b : Nat} (h : w.heap[b]? = some (.map #[] 0)) : MapIs enc w b [] := ⟨#[], 0, h, rfl, by simp, by simp, by simp⟩

theorem MapIs.fr {S : Nat → Prop} {w w' : World} {b : Nat} {m : List (κ × Value)} (h : MapIs enc w b m) (hf : Fr S w w') (hS : ¬ S b) : MapIs enc w' b m := by
  obtain ⟨es, clock, h1, h2⟩ := h
  exact ⟨es, clock, hf.at h1 hS, h2⟩

theorem MapIs.lt {w : World} {b : Nat} {m : List (κ × Value)} (h : MapIs enc w b m) : b < w.heap.size := by
  obtain ⟨es, clock, h1, _⟩ := h
  exact lt_blk h1

theorem MapIs.nodup {w : World} {b : Nat} {m : List (κ × Value)} (h : MapIs enc w b m) : (m.map (·.1)).Nodup := by
  obtain ⟨_, _, _, _, h, _⟩ := h
  exact h

theorem keys_of {es : List MapEntry} {m : List (κ × Value)} (h : es.map (fun e => (e.key, e.val)) = m.map (fun p => (enc p.1, p.2))) : es.map (·.key) = (m.map (·.1)).map enc := by
  have := congrArg (List.map (·.1)) h
  simpa [Function.comp_def] using this

theorem vals_of {es : List MapEntry} {m : List (κ × Value)} (h : es.map (fun e => (e.key, e.val)) = m.map (fun p => (enc p.1, p.2))) (j : Nat) : (es[j]?).map (·.val) = (m[j]?).map (·.2) := by
  have := congrArg (fun l => (l[j]?).map (·.2)) h
  simpa [Function.comp_def] using this
theorem getObj_map {P : Program} {w : World} {b : Nat} {es : Array MapEntry} {c : Nat} (h : w.heap[b]? = some (.map es c)) : (getObj b).run P w = .ok (.map es c) w := by simp [getObj, Sem.run, h]

theorem map_erase {α β : Type} (f : α → β) (l : List α) (j : Nat) : (l.eraseIdx j).map f = (l.map f).eraseIdx j := by
  induction l generalizing j with
  | nil => simp
  | cons a l ih => cases j <;> simp [ih]

theorem run_map_len {P : Program} {kt et t : TypeId} (ht : P.underlying t = some (.map kt et)) {w : World} {b : Nat} {m : List (κ × Value)} (h : MapIs enc w b m) (ty : TypeId) :
    (Builtin.len_ #[t] ty #[.map (some b)]).run P w = .ok (.int .i64 m.length) w := by
  obtain ⟨es, clock, hb, hes, hn, _, _⟩ := h
  have hlen : es.size = m.length := by have := congrArg List.length hes; simpa using this
  unfold Builtin.len_
  simp [run_underlying ht, getObj_map hb, Result.andThen, goInt, hlen]

end

section
variable {P : Program} {kt et t : TypeId} {κ : Type} [DecidableEq κ] {enc : κ → Value}

/-- where a key stands -/
def posOf (k : κ) : List κ → Option Nat
  | [] => none
  | a :: l => if k = a then some 0 else (posOf k l).map (· + 1)

theorem posOf_none {k : κ} {l : List κ} : posOf k l = none ↔ k ∉ l := by
  induction l with
  | nil => simp [posOf]
  | cons a l ih =>
    by_cases h : k = a
    · simp [posOf, h]
    · simp [posOf, h, ih]
theorem posOf_some {k : κ} {l : List κ} {i : Nat} (h : posOf k l = some i) : l[i]? = some k := by
  induction l generalizing i with
  | nil => simp [posOf] at h
  | cons a l ih =>
    by_cases hk : k = a
    · simp [posOf, hk] at h; subst h; simp [hk]
    · simp [posOf, hk] at h
      obtain ⟨j, hj, rfl⟩ := h
      simpa using ih hj

theorem findNow_law {U : TypeDesc} (hU : ∀ a b, Instr.sameNow U (enc a) (enc b) = none ∨ Instr.sameNow U (enc a) (enc b) = some (decide (a = b))) (k : κ) :
    ∀ (es : List MapEntry) (ks : List κ) (i : Nat), es.map (·.key) = ks.map enc →
      Instr.findNow U (enc k) es i = none ∨ Instr.findNow U (enc k) es i = some ((posOf k ks).bind fun j => (es[j]?).map fun e => (i + j, e.val)) := by
  intro es
  induction es with
  | nil => intro ks i h; cases ks <;> simp_all [Instr.findNow, posOf]
  | cons e es ih =>
    intro ks i h
    cases ks with
    | nil => simp at h
    | cons a ks =>
      simp only [List.map_cons, List.cons.injEq] at h
      simp only [Instr.findNow, h.1]
      rcases hU k a with hn | hn
      · simp [hn]
      · by_cases hk : k = a
        · subst hk; simp [hn, posOf]
        · simp only [hn, hk, decide_false]
          rcases ih ks (i + 1) h.2 with h1 | h1
          · exact .inl h1
          · right
            rw [h1]
            simp only [posOf, hk, if_false]
            cases posOf k ks with
            | none => rfl
            | some j => simp [Nat.add_assoc, Nat.add_comm 1 j]

theorem findAsking_law (hE : ∀ (a b : κ) (w : World), (Op.equal kt (enc a) (enc b)).run P w = .ok (decide (a = b)) w) (k : κ) (w : World) :
    ∀ (es : List MapEntry) (ks : List κ) (i : Nat), es.map (·.key) = ks.map enc →
      (Instr.findAsking kt (enc k) es i).run P w = .ok ((posOf k ks).bind fun j => (es[j]?).map fun e => (i + j, e.val)) w := by
  intro es
  induction es with
  | nil => intro ks i h; cases ks <;> simp_all [Instr.findAsking, posOf]
  | cons e es ih =>
    intro ks i h
    cases ks with
    | nil => simp at h
    | cons a ks =>
      simp only [List.map_cons, List.cons.injEq] at h
      simp only [Instr.findAsking, Sem.run_bind, h.1, hE, Result.andThen]
      by_cases hk : k = a
      · simp [hk, posOf]
      · simp only [hk, decide_false, posOf, if_false]
        rw [show ((if false = true then pure (some (i, e.val)) else Instr.findAsking kt (enc k) es (i + 1)) : Sem (Option (Nat × Value))) = Instr.findAsking kt (enc k) es (i + 1) from rfl, ih ks (i + 1) h.2]
        cases posOf k ks with
        | none => rfl
        | some j => simp [Nat.add_assoc, Nat.add_comm 1 j]

theorem findKey_law (L : KeyLaw P kt enc) (k : κ) (w : World) (es : List MapEntry) (ks : List κ) (h : es.map (·.key) = ks.map enc) :
    (Instr.findKey kt (enc k) es).run P w = .ok ((posOf k ks).bind fun j => (es[j]?).map fun e => (j, e.val)) w := by
  obtain ⟨U, hu, hU⟩ := L.now
  unfold Instr.findKey
  simp only [Sem.run_bind, run_underlying hu, Result.andThen]
  rcases findNow_law hU k es ks 0 h with h1 | h1
  · rw [h1]
    simpa using findAsking_law L.eq k w es ks 0 h
  · rw [h1]
    simp

def mapGet (m : List (κ × Value)) (k : κ) : Option Value := (posOf k (m.map (·.1))).bind fun j => (m[j]?).map (·.2)
def mapSet (m : List (κ × Value)) (k : κ) (v : Value) : List (κ × Value) := match posOf k (m.map (·.1)) with | some j => m.set j (k, v) | none => m ++ [(k, v)]
def mapDel (m : List (κ × Value)) (k : κ) : List (κ × Value) := match posOf k (m.map (·.1)) with | some j => m.eraseIdx j | none => m

/-- the world with another object in a block -/
def put (w : World) (b : Nat) (o : Obj) : World := { w with heap := w.heap.setIfInBounds b o }
theorem setObj_map {w : World} {b : Nat} {es : Array MapEntry} {c : Nat} (o : Obj) (h : w.heap[b]? = some (.map es c)) : (setObj b o).run P w = .ok () (put w b o) := by simp [setObj, Sem.run, h, put]
theorem heap_put {w : World} {b : Nat} {o o' : Obj} (h : w.heap[b]? = some o') : (put w b o).heap[b]? = some o := by
  have := lt_blk h
  simp [put, this]
theorem fr_put (w : World) (b : Nat) (o : Obj) : Fr (fun x => x = b) w (put w b o) :=
  ⟨rfl, rfl, rfl, by simp [put], fun x _ hn => by simp only [put, Array.getElem?_setIfInBounds]; rw [if_neg (fun e => hn e.symm)]⟩

theorem find_at (L : KeyLaw P kt enc) {es : List MapEntry} {m : List (κ × Value)} (h : es.map (fun e => (e.key, e.val)) = m.map (fun p => (enc p.1, p.2))) (k : κ) (w : World) :
    (Instr.findKey kt (enc k) es).run P w = .ok ((posOf k (m.map (·.1))).bind fun j => (m[j]?).map fun e => (j, e.2)) w := by
  rw [findKey_law L k w es (m.map (·.1)) (keys_of h)]
  congr 1
  cases posOf k (m.map (·.1)) with
  | none => rfl
  | some j =>
    have := vals_of h j
    simp only [Option.bind_some]
    cases h1 : es[j]? <;> cases h2 : m[j]? <;> simp_all

theorem run_map_lookup (L : KeyLaw P kt enc) (ht : P.underlying t = some (.map kt et)) {w : World} {b : Nat} {m : List (κ × Value)} (h : MapIs enc w b m) (k : κ) (z : Value) (hz : (zeroValue et).run P w = .ok z w) (ok : Bool) :
    (Instr.lookup t (.map (some b)) (enc k) ok).run P w = .ok (if ok then .tuple #[(mapGet m k).getD z, .bool (mapGet m k).isSome] else (mapGet m k).getD z) w := by
  obtain ⟨es, clock, hb, hes, hn, _, _⟩ := h
  unfold Instr.lookup
  simp only [Sem.run_bind, run_underlying ht, Result.andThen, getObj_map hb, Sem.run_pure, L.check, find_at L hes k w]
  unfold mapGet
  cases hp : posOf k (m.map (·.1)) with
  | none => cases ok <;> simp [hz, Result.andThen]
  | some j =>
    have hj := posOf_some hp
    simp only [List.getElem?_map] at hj
    cases hm : m[j]? with
    | none => simp [hm] at hj
    | some p => cases ok <;> simp [hm]

theorem mapSet_length {m : List (κ × Value)} {k : κ} {v : Value} : (mapSet m k v).length ≤ m.length + 1 := by
  unfold mapSet
  split <;> simp

theorem set_keys {m : List (κ × Value)} {k : κ} {v : Value} {j : Nat} (h : posOf k (m.map (·.1)) = some j) : (m.set j (k, v)).map (·.1) = m.map (·.1) := by
  have hj := posOf_some h
  apply List.ext_getElem?
  intro i
  simp only [List.map_set, List.getElem?_set]
  by_cases hi : j = i
  · subst hi
    have hlt : j < m.length := by have := (List.getElem?_eq_some_iff.1 hj).1; simpa using this
    simp only [if_true, List.length_map, hlt]
    exact hj.symm
  · simp [hi]

/-- 'm[k] = v' -/
theorem run_map_set (L : KeyLaw P kt enc) (ht : P.underlying t = some (.map kt et)) {w : World} {b : Nat} {m : List (κ × Value)} (h : MapIs enc w b m) (k : κ) (v : Value) :
    ∃ w', (Instr.mapUpdate t (.map (some b)) (enc k) v).run P w = .ok () w' ∧ MapIs enc w' b (mapSet m k v) ∧ Fr (fun x => x = b) w w' := by
  obtain ⟨es, clock, hb, hes, hn, hbn, hbl⟩ := h
  unfold Instr.mapUpdate mapSet
  simp only [Sem.run_bind, run_underlying ht, Result.andThen, getObj_map hb, L.check, find_at L hes k w]
  cases hp : posOf k (m.map (·.1)) with
  | none =>
    refine ⟨put w b (.map (es.push { key := enc k, val := v, born := clock }) (clock + 1)), by simp [setObj_map _ hb], ⟨_, _, heap_put hb, ?_, ?_, ?_, ?_⟩, fr_put w b _⟩
    · simp [hes]
    · have hk := posOf_none.1 hp
      simp only [List.map_append, List.map_cons, List.map_nil, List.nodup_append, List.nodup_cons, List.not_mem_nil, not_false_eq_true, List.nodup_nil, and_self, List.mem_singleton]
      refine ⟨hn, trivial, ?_⟩
      rintro a ha x rfl rfl
      exact hk ha
    · simp only [Array.toList_push, List.map_append, List.map_cons, List.map_nil, List.nodup_append, List.nodup_cons, List.not_mem_nil, not_false_eq_true, List.nodup_nil, and_self, List.mem_singleton]
      refine ⟨hbn, trivial, ?_⟩
      rintro a ha x rfl rfl
      obtain ⟨e, he, he2⟩ := List.mem_map.1 ha
      have := hbl e he; omega
    · intro e he
      simp only [Array.toList_push, List.mem_append, List.mem_singleton] at he
      rcases he with he | rfl
      · have := hbl e he; omega
      · simp
  | some j =>
    have hj := posOf_some hp
    have hjm : (m[j]?).map (·.1) = some k := by simpa using hj
    obtain ⟨p, hpj, hpk⟩ := Option.map_eq_some_iff.1 hjm
    have hejk : (es[j]?).map (fun e => (e.key, e.val)) = some (enc k, p.2) := by
      have := congrArg (fun l => l[j]?) hes
      simp only [List.getElem?_map, Array.getElem?_toList] at this
      rw [this, hpj]; simp [hpk]
    obtain ⟨e0, he0, hev⟩ := Option.map_eq_some_iff.1 hejk
    simp only [Prod.mk.injEq] at hev
    refine ⟨put w b (.map (es.modify j fun e => { e with key := enc k, val := v }) clock), ?_, ⟨_, _, heap_put hb, ?_, by rw [set_keys hp]; exact hn, ?_, ?_⟩, fr_put w b _⟩
    · simp [hpj, he0, hev.1, Instr.keyThatStays, L.same, setObj_map _ hb]
    · apply List.ext_getElem?
      intro i
      have hi := congrArg (fun l => l[i]?) hes
      simp only [List.getElem?_map, Array.getElem?_toList] at hi
      simp only [List.getElem?_map, Array.getElem?_toList, Array.getElem?_modify, List.getElem?_set]
      by_cases hji : j = i
      · subst hji
        have hlt : j < m.length := (List.getElem?_eq_some_iff.1 hpj).1
        simp [he0, hlt]
      · simp [hji, hi]
    · have hbm : (es.modify j fun e => { e with key := enc k, val := v }).toList.map (·.born) = es.toList.map (·.born) := by
        apply List.ext_getElem?
        intro i
        simp only [List.getElem?_map, Array.getElem?_toList, Array.getElem?_modify]
        by_cases hji : j = i
        · subst hji; cases es[j]? <;> simp
        · simp [hji]
      rw [hbm]; exact hbn
    · intro e he
      obtain ⟨i, hi⟩ := List.getElem?_of_mem he
      simp only [Array.getElem?_toList, Array.getElem?_modify] at hi
      by_cases hji : j = i
      · subst hji
        simp only [if_true, he0, Option.map_some, Option.some.injEq] at hi
        subst hi
        exact hbl e0 (List.mem_of_getElem? (by rw [Array.getElem?_toList]; exact he0))
      · rw [if_neg hji] at hi
        exact hbl e (List.mem_of_getElem? (by rw [Array.getElem?_toList]; exact hi))

/-- 'delete(m, k)' -/
theorem run_map_del (L : KeyLaw P kt enc) (ht : P.underlying t = some (.map kt et)) {w : World} {b : Nat} {m : List (κ × Value)} (h : MapIs enc w b m) (k : κ) (ty : TypeId) (kt' : TypeId) :
    ∃ w', (Builtin.delete_ #[t, kt'] ty #[.map (some b), enc k]).run P w = .ok (.tuple #[]) w' ∧ MapIs enc w' b (mapDel m k) ∧ Fr (fun x => x = b) w w' := by
  obtain ⟨es, clock, hb, hes, hn, hbn, hbl⟩ := h
  unfold Builtin.delete_ mapDel
  simp only [Sem.run_bind, run_underlying ht, Result.andThen, getObj_map hb, L.check, find_at L hes k w, List.getElem?_toArray, List.getElem?_cons_zero, List.getElem?_cons_succ]
  cases hp : posOf k (m.map (·.1)) with
  | none => exact ⟨put w b (.map es clock), by simp [setObj_map _ hb, Result.andThen], ⟨_, _, heap_put hb, hes, hn, hbn, hbl⟩, fr_put w b _⟩
  | some j =>
    have hj := posOf_some hp
    have hjm : (m[j]?).map (·.1) = some k := by simpa using hj
    obtain ⟨p, hpj, hpk⟩ := Option.map_eq_some_iff.1 hjm
    have hel : (es.eraseIdxIfInBounds j).toList = es.toList.eraseIdx j := by
      unfold Array.eraseIdxIfInBounds
      split
      · simp
      · rename_i hh; rw [List.eraseIdx_of_length_le (by simpa using hh)]
    refine ⟨put w b (.map (es.eraseIdxIfInBounds j) clock), by simp [hpj, setObj_map _ hb, Result.andThen], ⟨_, _, heap_put hb, ?_, ?_, ?_, ?_⟩, fr_put w b _⟩
    · rw [hel, map_erase, map_erase, hes]
    · rw [map_erase]; exact hn.sublist (List.eraseIdx_sublist _ _)
    · rw [hel, map_erase]; exact hbn.sublist (List.eraseIdx_sublist _ _)
    · intro e he
      rw [hel] at he
      exact hbl e (List.mem_of_mem_eraseIdx he)
end

/-- the iterator in block it goes through the map in block b, which holds m; the keys D have been met -/
def Iter {κ : Type} (enc : κ → Value) (w : World) (it b : Nat) (m : List (κ × Value)) (D : List κ) : Prop :=
  ∃ es clock since seen last, w.heap[b]? = some (.map es clock) ∧ w.heap[it]? = some (.mapIter (some b) since seen last) ∧
    es.toList.map (fun e => (e.key, e.val)) = m.map (fun p => (enc p.1, p.2)) ∧ (m.map (·.1)).Nodup ∧ (es.toList.map (·.born)).Nodup ∧ (∀ e ∈ es.toList, e.born < clock) ∧
    (∀ e ∈ es.toList, e.born < since) ∧ since ≤ last ∧ since ≤ clock ∧ ∀ (i : Nat) (e : MapEntry) (p : κ × Value), es[i]? = some e → m[i]? = some p → (e.born ∈ seen ↔ p.1 ∈ D)

section
variable {κ : Type} {enc : κ → Value}

theorem Iter.map {w : World} {it b : Nat} {m : List (κ × Value)} {D : List κ} (h : Iter enc w it b m D) : MapIs enc w b m := by
  obtain ⟨es, clock, _, _, _, h1, _, h2, h3, h4, h5, _⟩ := h
  exact ⟨es, clock, h1, h2, h3, h4, h5⟩

theorem Iter.fr {S : Nat → Prop} {w w' : World} {it b : Nat} {m : List (κ × Value)} {D : List κ} (h : Iter enc w it b m D) (hf : Fr S w w') (h1 : ¬ S it) (h2 : ¬ S b) : Iter enc w' it b m D := by
  obtain ⟨es, clock, since, seen, last, k1, k2, k3⟩ := h
  exact ⟨es, clock, since, seen, last, hf.at k1 h2, hf.at k2 h1, k3⟩

theorem run_iter_new {P : Program} {kt et t : TypeId} (ht : P.underlying t = some (.map kt et)) {w : World} {b : Nat} {m : List (κ × Value)} (h : MapIs enc w b m) :
    ∃ o, (Instr.range t (.map (some b))).run P w = .ok (.pointer (some ⟨w.heap.size, 0, none⟩)) (w.alloc o) ∧ Iter enc (w.alloc o) w.heap.size b m [] := by
  have hlt := h.lt
  obtain ⟨es, clock, h1, h2, h3, h4, h5⟩ := h
  refine ⟨.mapIter (some b) clock #[] clock, ?_, es, clock, clock, #[], clock, ?_, ?_, h2, h3, h4, h5, h5, Nat.le_refl _, Nat.le_refl _, ?_⟩
  · simp [Instr.range, run_underlying ht, getObj_map h1, newObj, Sem.run, Result.andThen]
  · rw [heap_alloc, if_neg (by omega)]; exact h1
  · rw [heap_alloc, if_pos rfl]
  · intro i e p _ _; simp

theorem run_iter_next {P : Program} {w : World} {it b : Nat} {m : List (κ × Value)} {D : List κ} (h : Iter enc w it b m D) (hne : it ≠ b) (ty : TypeId) :
    ((∀ p ∈ m, p.1 ∈ D) ∧ (Instr.next (.pointer (some ⟨it, 0, none⟩)) false ty).run P w = .ok (.tuple #[.bool false]) w) ∨
    ∃ p ∈ m, p.1 ∉ D ∧ ∃ w', (Instr.next (.pointer (some ⟨it, 0, none⟩)) false ty).run P w = .ok (.tuple #[.bool true, enc p.1, p.2]) w' ∧ Iter enc w' it b m (p.1 :: D) ∧ Fr (fun x => x = it) w w' ∧
      (Instr.entry (.pointer (some ⟨it, 0, none⟩))).run P w' = .ok (.tuple #[enc p.1, p.2]) w' := by
  obtain ⟨es, clock, since, seen, last, hb, hi, hes, hn, hbn, hbl, hold, hsc, hcl, hD⟩ := h
  have hpair : ∀ (i : Nat) (e : MapEntry), es[i]? = some e → ∃ p, m[i]? = some p ∧ e.key = enc p.1 ∧ e.val = p.2 := by
    intro i e he
    have := congrArg (fun l => l[i]?) hes
    simp only [List.getElem?_map, Array.getElem?_toList, he, Option.map_some] at this
    cases hm : m[i]? with
    | none => simp [hm] at this
    | some p => simp [hm] at this; exact ⟨p, rfl, this.1, this.2⟩
  have hidx : ∀ (i j : Nat) (e e' : MapEntry), es[i]? = some e → es[j]? = some e' → e.born = e'.born → i = j := by
    intro i j e e' h1 h2 h3
    have hbi : (es.toList.map (·.born))[i]? = some e.born := by simp [h1]
    have hbj : (es.toList.map (·.born))[j]? = some e.born := by simp [h2, h3]
    exact (List.getElem?_inj (List.getElem?_eq_some_iff.1 hbi).1 hbn).1 (hbi.trans hbj.symm)
  rcases run_next_at (P := P) w ty it b since last seen es clock hi hb hold hsc with ⟨h0, hr⟩ | ⟨e, he, w1, hw1, hr⟩
  · refine .inl ⟨fun p hp => ?_, hr⟩
    obtain ⟨i, hip⟩ := List.getElem?_of_mem hp
    have hlen : es.size = m.length := by have := congrArg List.length hes; simpa using this
    have hlt : i < es.size := by rw [hlen]; exact (List.getElem?_eq_some_iff.1 hip).1
    have he := Array.getElem?_eq_getElem hlt
    rw [← hD i _ p he hip]
    have hnot : ¬ es[i] ∈ leftOf es seen := by
      intro hx
      have : 0 < (leftOf es seen).size := Array.size_pos_of_mem hx
      omega
    simp only [leftOf, Array.mem_filter, Array.getElem_mem, true_and, Bool.not_eq_true', Bool.not_eq_false] at hnot
    simpa using hnot
  · right
    have hmem : e ∈ es ∧ e.born ∉ seen := by
      have he' : e ∈ leftOf es seen := by simpa using he
      simp only [leftOf, Array.mem_filter] at he'
      exact ⟨he'.1, by simpa using he'.2⟩
    obtain ⟨i, hie⟩ := List.getElem?_of_mem (Array.mem_toList_iff.2 hmem.1)
    rw [Array.getElem?_toList] at hie
    obtain ⟨p, hp, hk, hv⟩ := hpair i e hie
    have hb1 : w1.heap[b]? = some (.map es clock) := by rcases hw1 with rfl | rfl <;> exact hb
    have hi1 : w1.heap[it]? = some (.mapIter (some b) since seen last) := by rcases hw1 with rfl | rfl <;> exact hi
    have hf1 : Fr (fun x => x = it) w w1 := by rcases hw1 with rfl | rfl; exact Fr.refl _ _; exact (Fr.refl _ _).drew
    have hset : ∀ o, ChangeMaps.setBlock w1 it o = put w1 it o := fun _ => rfl
    rw [hset, hk, hv] at hr
    have hbw : (put w1 it (.mapIter (some b) since (seen.push e.born) clock)).heap[b]? = some (.map es clock) := (fr_put w1 it _).at hb1 (fun e => hne e.symm)
    have hiw : (put w1 it (.mapIter (some b) since (seen.push e.born) clock)).heap[it]? = some (.mapIter (some b) since (seen.push e.born) clock) := heap_put hi1
    refine ⟨p, List.mem_of_getElem? hp, fun hpd => hmem.2 ((hD i e p hie hp).2 hpd), _, hr, ⟨es, clock, since, seen.push e.born, clock, hbw, hiw, hes, hn, hbn, hbl, hold, hcl, hcl, ?_⟩, hf1.trans (fr_put w1 it _) (fun _ _ hx => hx), ?_⟩
    · intro j e' p' he' hp'
      rw [Array.mem_push, List.mem_cons, hD j e' p' he' hp']
      constructor
      · rintro (h1 | h1)
        · exact .inr h1
        · have := hidx j i e' e he' hie h1
          subst this
          rw [hp] at hp'; cases hp'
          exact .inl rfl
      · rintro (h1 | h1)
        · right
          have hki : (m.map (·.1))[i]? = some p.1 := by simp [hp]
          have hkj : (m.map (·.1))[j]? = some p.1 := by simp [hp', h1]
          have := (List.getElem?_inj (List.getElem?_eq_some_iff.1 hki).1 hn).1 (hki.trans hkj.symm)
          subst this
          rw [hie] at he'; cases he'; rfl
        · exact .inl h1
    · have := run_entry_at (P := P) _ it b since seen es clock e hiw hbw (Array.mem_toList_iff.2 hmem.1) hbn
      rw [hk, hv] at this
      exact this
end

section
variable {P : Program} {kt et t : TypeId} {κ : Type} [DecidableEq κ] {enc : κ → Value} {w : World} {b : Nat} {m : List (κ × Value)} {a : Act} {K : Act → World → Prop} {Q : Exit → Act → World → Prop} {o : Oper} {ops : Array Oper} {rest : List Oper}

theorem wp_map_lookup (L : KeyLaw P kt enc) (ht : P.underlying t = some (.map kt et)) (x ix : Operand) (ok : Bool) (ho : o.op = .lookup t x ix ok) (h : MapIs enc w b m) (k : κ) (z : Value) (hz : ∀ w, (zeroValue et).run P w = .ok z w)
    (hx : a.eval x = .map (some b)) (hk : a.eval ix = enc k) (hK : K (a.put o.dst (if ok then .tuple #[(mapGet m k).getD z, .bool (mapGet m k).isSome] else (mapGet m k).getD z)) w) : o.wp P a w K Q := by
  have hr := run_map_lookup L ht h k z (hz w) ok
  unfold Oper.wp
  simp only [execOp, ho, hx, hk, Sem.run_bind, hr, Result.andThen, Sem.run_pure, Oper.upon]
  exact hK

theorem wp_map_set (L : KeyLaw P kt enc) (ht : P.underlying t = some (.map kt et)) (x ix y : Operand) (ho : o.op = .mapUpdate t x ix y) (h : MapIs enc w b m) (k : κ) (v : Value)
    (hx : a.eval x = .map (some b)) (hk : a.eval ix = enc k) (hv : a.eval y = v) (hK : ∀ w', MapIs enc w' b (mapSet m k v) → Fr (fun x => x = b) w w' → K (a.put o.dst undef) w') : o.wp P a w K Q := by
  obtain ⟨w', hr, h1, h2⟩ := run_map_set L ht h k v
  unfold Oper.wp
  simp only [execOp, ho, hx, hk, hv, Sem.run_bind, hr, Result.andThen, Sem.run_pure, Oper.upon]
  exact hK w' h1 h2

theorem wp_map_del (L : KeyLaw P kt enc) (ht : P.underlying t = some (.map kt et)) (x ix : Operand) (t' : TypeId) (ho : o.op = .call { callee := .builtin .delete, args := #[x, ix], argTypes := #[t, t'] }) (h : MapIs enc w b m) (k : κ)
    (hx : a.eval x = .map (some b)) (hk : a.eval ix = enc k) (hK : ∀ w', MapIs enc w' b (mapDel m k) → Fr (fun x => x = b) w w' → K (a.put o.dst (.tuple #[])) w') : o.wp P a w K Q := by
  obtain ⟨w', hr, h1, h2⟩ := run_map_del L ht h k o.type t'
  unfold Oper.wp
  simp only [execOp, ho, resolve, invoke, builtin, hx, hk, List.map_toArray, List.map_cons, List.map_nil, Sem.run_bind, hr, Result.andThen, Sem.run_pure, Oper.upon]
  exact hK w' h1 h2

omit [DecidableEq κ] in
theorem wp_iter_new (ht : P.underlying t = some (.map kt et)) (x : Operand) (ho : o.op = .range t x) (h : MapIs enc w b m) (hx : a.eval x = .map (some b))
    (hK : ∀ oo, Iter enc (w.alloc oo) w.heap.size b m [] → K (a.put o.dst (.pointer (some ⟨w.heap.size, 0, none⟩))) (w.alloc oo)) : o.wp P a w K Q := by
  obtain ⟨oo, hr, h1⟩ := run_iter_new (P := P) ht h
  unfold Oper.wp
  simp only [execOp, ho, hx, Sem.run_bind, hr, Result.andThen, Sem.run_pure, Oper.upon]
  exact hK oo h1

omit [DecidableEq κ] in
theorem wp_iter_next {it : Nat} {D : List κ} (x : Operand) (ho : o.op = .next x false) (h : Iter enc w it b m D) (hne : it ≠ b) (hx : a.eval x = .pointer (some ⟨it, 0, none⟩))
    (h0 : (∀ p ∈ m, p.1 ∈ D) → K (a.put o.dst (.tuple #[.bool false])) w)
    (h1 : ∀ p ∈ m, p.1 ∉ D → ∀ w', Iter enc w' it b m (p.1 :: D) → Fr (fun x => x = it) w w' → (Instr.entry (.pointer (some ⟨it, 0, none⟩))).run P w' = .ok (.tuple #[enc p.1, p.2]) w' → K (a.put o.dst (.tuple #[.bool true, enc p.1, p.2])) w') : o.wp P a w K Q := by
  unfold Oper.wp
  rcases run_iter_next (P := P) h hne o.type with ⟨hd, hr⟩ | ⟨p, hp, hpd, w', hr, k1, k2, k3⟩
  · simp only [execOp, ho, hx, Sem.run_bind, hr, Result.andThen, Sem.run_pure, Oper.upon]
    exact h0 hd
  · simp only [execOp, ho, hx, Sem.run_bind, hr, Result.andThen, Sem.run_pure, Oper.upon]
    exact h1 p hp hpd w' k1 k2 k3

theorem wpList_map_lookup (hgd : o.guard = none) (L : KeyLaw P kt enc) (ht : P.underlying t = some (.map kt et)) (x ix : Operand) (ok : Bool) (ho : o.op = .lookup t x ix ok) (h : MapIs enc w b m) (k : κ) (z : Value) (hz : ∀ w, (zeroValue et).run P w = .ok z w)
    (hx : a.eval x = .map (some b)) (hk : a.eval ix = enc k) (hK : wpList P ops Q rest (a.put o.dst (if ok then .tuple #[(mapGet m k).getD z, .bool (mapGet m k).isSome] else (mapGet m k).getD z)) w) : wpList P ops Q (o :: rest) a w :=
  wpList_plain hgd fun _ hk' => wp_map_lookup L ht x ix ok ho h k z hz hx hk (hk' _ _ hK)
theorem wpList_map_set (hgd : o.guard = none) (L : KeyLaw P kt enc) (ht : P.underlying t = some (.map kt et)) (x ix y : Operand) (ho : o.op = .mapUpdate t x ix y) (h : MapIs enc w b m) (k : κ) (v : Value)
    (hx : a.eval x = .map (some b)) (hk : a.eval ix = enc k) (hv : a.eval y = v) (hK : ∀ w', MapIs enc w' b (mapSet m k v) → Fr (fun x => x = b) w w' → wpList P ops Q rest (a.put o.dst undef) w') : wpList P ops Q (o :: rest) a w :=
  wpList_plain hgd fun _ hk' => wp_map_set L ht x ix y ho h k v hx hk hv (fun w' h1 h2 => hk' _ _ (hK w' h1 h2))
theorem wpList_map_del (hgd : o.guard = none) (L : KeyLaw P kt enc) (ht : P.underlying t = some (.map kt et)) (x ix : Operand) (t' : TypeId) (ho : o.op = .call { callee := .builtin .delete, args := #[x, ix], argTypes := #[t, t'] }) (h : MapIs enc w b m) (k : κ)
    (hx : a.eval x = .map (some b)) (hk : a.eval ix = enc k) (hK : ∀ w', MapIs enc w' b (mapDel m k) → Fr (fun x => x = b) w w' → wpList P ops Q rest (a.put o.dst (.tuple #[])) w') : wpList P ops Q (o :: rest) a w :=
  wpList_plain hgd fun _ hk' => wp_map_del L ht x ix t' ho h k hx hk (fun w' h1 h2 => hk' _ _ (hK w' h1 h2))
omit [DecidableEq κ] in
theorem wpList_iter_new (hgd : o.guard = none) (ht : P.underlying t = some (.map kt et)) (x : Operand) (ho : o.op = .range t x) (h : MapIs enc w b m) (hx : a.eval x = .map (some b))
    (hK : ∀ oo, Iter enc (w.alloc oo) w.heap.size b m [] → wpList P ops Q rest (a.put o.dst (.pointer (some ⟨w.heap.size, 0, none⟩))) (w.alloc oo)) : wpList P ops Q (o :: rest) a w :=
  wpList_plain hgd fun _ hk' => wp_iter_new ht x ho h hx (fun oo h1 => hk' _ _ (hK oo h1))
omit [DecidableEq κ] in
theorem wpList_iter_next (hgd : o.guard = none) {it : Nat} {D : List κ} (x : Operand) (ho : o.op = .next x false) (h : Iter enc w it b m D) (hne : it ≠ b) (hx : a.eval x = .pointer (some ⟨it, 0, none⟩))
    (h0 : (∀ p ∈ m, p.1 ∈ D) → wpList P ops Q rest (a.put o.dst (.tuple #[.bool false])) w)
    (h1 : ∀ p ∈ m, p.1 ∉ D → ∀ w', Iter enc w' it b m (p.1 :: D) → Fr (fun x => x = it) w w' → (Instr.entry (.pointer (some ⟨it, 0, none⟩))).run P w' = .ok (.tuple #[enc p.1, p.2]) w' → wpList P ops Q rest (a.put o.dst (.tuple #[.bool true, enc p.1, p.2])) w') : wpList P ops Q (o :: rest) a w :=
  wpList_plain hgd fun _ hk' => wp_iter_next x ho h hne hx (fun hd => hk' _ _ (h0 hd)) (fun p hp hpd w' k1 k2 k3 => hk' _ _ (h1 p hp hpd w' k1 k2 k3))
end

section
variable {P : Program} {w : World} {a : Act} {K : Act → World → Prop} {Q : Exit → Act → World → Prop} {o : Oper} {ops : Array Oper} {rest : List Oper}
theorem wp_make_map (t : TypeId) (ho : o.op = .makeMap t none) (hK : K (a.put o.dst (.map (some w.heap.size))) (w.alloc (.map #[] 0))) : o.wp P a w K Q := by
  have hr : (Instr.makeMap t none).run P w = .ok (.map (some w.heap.size)) (w.alloc (.map #[] 0)) := rfl
  unfold Oper.wp
  simp only [execOp, ho, Option.map_none, Sem.run_bind, hr, Result.andThen, Sem.run_pure, Oper.upon]
  exact hK
theorem wpList_make_map (hgd : o.guard = none) (t : TypeId) (ho : o.op = .makeMap t none) (hK : wpList P ops Q rest (a.put o.dst (.map (some w.heap.size))) (w.alloc (.map #[] 0))) : wpList P ops Q (o :: rest) a w :=
  wpList_plain hgd fun _ hk' => wp_make_map t ho (hk' _ _ hK)
theorem wp_entry (x : Operand) (ho : o.op = .entry x) {v r : Value} (hx : a.eval x = v) (hr : (Instr.entry v).run P w = .ok r w) (hK : K (a.put o.dst r) w) : o.wp P a w K Q := by
  unfold Oper.wp
  simp only [execOp, ho, hx, Sem.run_bind, hr, Result.andThen, Sem.run_pure, Oper.upon]
  exact hK
theorem wpList_entry (hgd : o.guard = none) (x : Operand) (ho : o.op = .entry x) {v r : Value} (hx : a.eval x = v) (hr : (Instr.entry v).run P w = .ok r w) (hK : wpList P ops Q rest (a.put o.dst r) w) : wpList P ops Q (o :: rest) a w :=
  wpList_plain hgd fun _ hk' => wp_entry x ho hx hr (hk' _ _ hK)
end

section
variable {P : Program} {w w' : World} {a : Act} {K : Act → World → Prop} {Q : Exit → Act → World → Prop} {o : Oper} {ops : Array Oper} {rest : List Oper}
theorem wp_next_run (x : Operand) (ho : o.op = .next x false) {v r : Value} (hx : a.eval x = v) (hr : (Instr.next v false 0).run P w = .ok r w') (hK : K (a.put o.dst r) w') : o.wp P a w K Q := by
  have hr' : (Instr.next v false o.type).run P w = .ok r w' := hr
  unfold Oper.wp
  simp only [execOp, ho, hx, Sem.run_bind, hr', Result.andThen, Sem.run_pure, Oper.upon]
  exact hK
theorem wpList_next_run (hgd : o.guard = none) (x : Operand) (ho : o.op = .next x false) {v r : Value} (hx : a.eval x = v) (hr : (Instr.next v false 0).run P w = .ok r w') (hK : wpList P ops Q rest (a.put o.dst r) w') : wpList P ops Q (o :: rest) a w :=
  wpList_plain hgd fun _ hk' => wp_next_run x ho hx hr (hk' _ _ hK)
theorem wp_map_len {κ : Type} {enc : κ → Value} {kt et t : TypeId} {b : Nat} {m : List (κ × Value)} (ht : P.underlying t = some (.map kt et)) (x : Operand) (ho : o.op = .call { callee := .builtin .len, args := #[x], argTypes := #[t] }) (h : MapIs enc w b m)
    (hx : a.eval x = .map (some b)) (hK : K (a.put o.dst (.int .i64 m.length)) w) : o.wp P a w K Q := by
  have hr := run_map_len (P := P) ht h o.type
  unfold Oper.wp
  simp only [execOp, ho, resolve, invoke, builtin, hx, List.map_toArray, List.map_cons, List.map_nil, Sem.run_bind, hr, Result.andThen, Sem.run_pure, Oper.upon]
  exact hK
theorem wpList_map_len {κ : Type} {enc : κ → Value} {kt et t : TypeId} {b : Nat} {m : List (κ × Value)} (hgd : o.guard = none) (ht : P.underlying t = some (.map kt et)) (x : Operand) (ho : o.op = .call { callee := .builtin .len, args := #[x], argTypes := #[t] }) (h : MapIs enc w b m)
    (hx : a.eval x = .map (some b)) (hK : wpList P ops Q rest (a.put o.dst (.int .i64 m.length)) w) : wpList P ops Q (o :: rest) a w :=
  wpList_plain hgd fun _ hk' => wp_map_len ht x ho h hx (hk' _ _ hK)
end

/-- integers as keys -/
theorem keyLaw_int {P : Program} {kt : TypeId} {k : IntKind} (h : P.underlying kt = some (.int k)) : KeyLaw P kt (fun z : Int => .int k z) where
  now := ⟨.int k, h, fun a b => .inr (by simp only [Instr.sameNow, if_true]; congr 1)⟩
  check := fun empty z w => by unfold Instr.checkKey; simp [run_underlying h]
  eq := fun a b w => by
    simp only [Op.equal, Op.maxDepth, run_equalIn_int (P := P) w 9999 kt k k a b h]
    rfl
  same := fun z => by simp [Instr.sameBits]

theorem mapGet_none {κ : Type} [DecidableEq κ] {m : List (κ × Value)} {k : κ} : mapGet m k = none ↔ k ∉ m.map (·.1) := by
  unfold mapGet
  rw [← posOf_none]
  cases hp : posOf k (m.map (·.1)) with
  | none => simp
  | some j =>
    have hj := posOf_some hp
    simp only [List.getElem?_map] at hj
    cases hm : m[j]? with
    | none => simp [hm] at hj
    | some p => simp [hm]
theorem mapGet_some {κ : Type} [DecidableEq κ] {m : List (κ × Value)} {k : κ} {v : Value} (hn : (m.map (·.1)).Nodup) : mapGet m k = some v ↔ (k, v) ∈ m := by
  unfold mapGet
  constructor
  · intro h
    obtain ⟨j, hj, hv⟩ := Option.bind_eq_some_iff.1 h
    obtain ⟨p, hp, rfl⟩ := Option.map_eq_some_iff.1 hv
    have := posOf_some hj
    simp only [List.getElem?_map, hp, Option.map_some, Option.some.injEq] at this
    subst this
    exact List.mem_of_getElem? hp
  · intro h
    obtain ⟨i, hi⟩ := List.getElem?_of_mem h
    have hki : (m.map (·.1))[i]? = some k := by simp [hi]
    cases hp : posOf k (m.map (·.1)) with
    | none => exact absurd (List.mem_of_getElem? hki) (posOf_none.1 hp)
    | some j =>
      have hj := posOf_some hp
      have := (List.getElem?_inj (List.getElem?_eq_some_iff.1 hki).1 hn).1 (hki.trans hj.symm)
      subst this
      simp [hi]
theorem mapSet_new {κ : Type} [DecidableEq κ] {m : List (κ × Value)} {k : κ} {v : Value} (h : k ∉ m.map (·.1)) : mapSet m k v = m ++ [(k, v)] := by
  unfold mapSet; rw [posOf_none.2 h]
theorem mapDel_eq {κ : Type} [DecidableEq κ] {m : List (κ × Value)} {k : κ} (hn : (m.map (·.1)).Nodup) : mapDel m k = m.filter (fun p => decide (p.1 ≠ k)) := by
  induction m with
  | nil => rfl
  | cons p m ih =>
    rw [List.map_cons] at hn
    have hn' := List.nodup_cons.1 hn
    have ih := ih hn'.2
    unfold mapDel at ih ⊢
    by_cases hk : k = p.1
    · subst hk
      simp only [List.map_cons, posOf, if_true, List.eraseIdx_cons_zero]
      rw [List.filter_cons_of_neg (by simp)]
      refine (List.filter_eq_self.2 fun q hq => ?_).symm
      simp only [decide_eq_true_eq]
      intro e
      exact hn'.1 (e ▸ List.mem_map_of_mem hq)
    · simp only [List.map_cons, posOf, if_neg hk]
      rw [List.filter_cons_of_pos (by simpa using fun e => hk e.symm)]
      cases hp : posOf k (m.map (·.1)) with
      | none => rw [hp] at ih; exact congrArg (p :: ·) ih
      | some j => rw [hp] at ih; exact congrArg (p :: ·) ih
end Go.Proofs.Ytanaicjeheacoaa
