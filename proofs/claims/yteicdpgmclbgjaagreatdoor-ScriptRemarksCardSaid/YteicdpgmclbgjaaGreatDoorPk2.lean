/-
  Part 2 of what the statement leans on: Maps, HpMap, Sx, Sx2.
-/
import Derived.Test.YteicdpgmclbgjaaGreatDoorPk1
import Derived.Maps.OwnOps
import Derived.Maps.OwnSet
import Derived.Maps.RangeWalk
import Derived.Maps.RangeRun
/-
  Maps in memory, over any program: what a map holds, as a list of keys and values, and what the operations do to it.
-/
namespace Go.Proofs.YteicdpgmclbgjaaGreatDoor
open Go.RowKit

/-- keys of type kt, as enc says them, are told apart as they are -/
structure KeyLaw (P : Program) (kt : TypeId) {κ : Type} [DecidableEq κ] (enc : κ → Value) : Prop where
  now : ∃ U, P.underlying kt = some U ∧ ∀ a b, Instr.sameNow U (enc a) (enc b) = none ∨ Instr.sameNow U (enc a) (enc b) = some (decide (a = b))
  check : ∀ (empty : Bool) (k : κ) (w : World), (Instr.checkKey empty 10000 kt (enc k)).run P w = .ok () w
  eq : ∀ (a b : κ) (w : World), (Op.equal kt (enc a) (enc b)).run P w = .ok (decide (a = b)) w
  same : ∀ k, Instr.sameBits 10000 (enc k) (enc k) = true

/-- the map in block b holds m -/
def MapIs {κ : Type} (enc : κ → Value) (w : World) (b : Nat) (m : List (κ × Value)) : Prop :=
  ∃ es clock, w.heap[b]? = some (.map es clock) ∧ es.toList.map (fun e => (e.key, e.val)) = m.map (fun p => (enc p.1, p.2)) ∧ (m.map (·.1)).Nodup ∧ (es.toList.map (·.born)).Nodup ∧ ∀ e ∈ es.toList, e.born < clock

section
variable {κ : Type} {enc : κ → Value}

theorem MapIs.new (enc : κ → Value) {w : World} {b : Nat} (h : w.heap[b]? = some (.map #[] 0)) : MapIs enc w b [] := ⟨#[], 0, h, rfl, by simp, by simp, by simp⟩

theorem MapIs.fr {S : Nat → Prop} {w w' : World} {b : Nat} {m : List (κ × Value)} (h : MapIs enc w b m) (hf : Fr S w w') (hS : ¬ S b) : MapIs enc w' b m := by
  obtain ⟨es, clock, h1, h2⟩ := h
  exact ⟨es, clock, hf.at h1 hS, h2⟩

theorem MapIs.lt {w : World} {b : Nat} {m : List (κ × Value)} (h : MapIs enc w b m) : b < w.heap.size := by
  obtain ⟨es, clock, h1, _⟩ := h
  exact lt_blk h1

theorem MapIs.nodup {w : World} {b : Nat} {m : List (κ × Value)} (h : MapIs enc w b m) : (m.map (·.1)).Nodup := by
  obtain ⟨_, _, _, _, h, _⟩ := h
  exact h

theorem keys_of {es : List MapEntry} {m : List (κ × Value)} (h : es.map (fun e => (e.key, e.val)) = m.map (fun p => (enc p.1, p.2))) : es.map (·.key) = (m.map (·.1)).map enc := by
  have := congrArg (List.map (·.1)) h
  simpa [Function.comp_def] using this

theorem vals_of {es : List MapEntry} {m : List (κ × Value)} (h : es.map (fun e => (e.key, e.val)) = m.map (fun p => (enc p.1, p.2))) (j : Nat) : (es[j]?).map (·.val) = (m[j]?).map (·.2) := by
  have := congrArg (fun l => (l[j]?).map (·.2)) h
  simpa [Function.comp_def] using this
theorem getObj_map {P : Program} {w : World} {b : Nat} {es : Array MapEntry} {c : Nat} (h : w.heap[b]? = some (.map es c)) : (getObj b).run P w = .ok (.map es c) w := by simp [getObj, Sem.run, h]

theorem map_erase {α β : Type} (f : α → β) (l : List α) (j : Nat) : (l.eraseIdx j).map f = (l.map f).eraseIdx j := by
  induction l generalizing j with
  | nil => simp
  | cons a l ih => cases j <;> simp [ih]

theorem run_map_len {P : Program} {kt et t : TypeId} (ht : P.underlying t = some (.map kt et)) {w : World} {b : Nat} {m : List (κ × Value)} (h : MapIs enc w b m) (ty : TypeId) :
    (Builtin.len_ #[t] ty #[.map (some b)]).run P w = .ok (.int .i64 m.length) w := by
  obtain ⟨es, clock, hb, hes, hn, _, _⟩ := h
  have hlen : es.size = m.length := by have := congrArg List.length hes; simpa using this
  unfold Builtin.len_
  simp [run_underlying ht, getObj_map hb, Result.andThen, goInt, hlen]

end

section
variable {P : Program} {kt et t : TypeId} {κ : Type} [DecidableEq κ] {enc : κ → Value}

/-- where a key stands -/
def posOf (k : κ) : List κ → Option Nat
  | [] => none
  | a :: l => if k = a then some 0 else (posOf k l).map (· + 1)

theorem posOf_none {k : κ} {l : List κ} : posOf k l = none ↔ k ∉ l := by
  induction l with
  | nil => simp [posOf]
  | cons a l ih =>
    by_cases h : k = a
    · simp [posOf, h]
    · simp [posOf, h, ih]
theorem posOf_some {k : κ} {l : List κ} {i : Nat} (h : posOf k l = some i) : l[i]? = some k := by
  induction l generalizing i with
  | nil => simp [posOf] at h
  | cons a l ih =>
    by_cases hk : k = a
    · simp [posOf, hk] at h; subst h; simp [hk]
    · simp [posOf, hk] at h
      obtain ⟨j, hj, rfl⟩ := h
      simpa using ih hj

theorem findNow_law {U : TypeDesc} (hU : ∀ a b, Instr.sameNow U (enc a) (enc b) = none ∨ Instr.sameNow U (enc a) (enc b) = some (decide (a = b))) (k : κ) :
    ∀ (es : List MapEntry) (ks : List κ) (i : Nat), es.map (·.key) = ks.map enc →
      Instr.findNow U (enc k) es i = none ∨ Instr.findNow U (enc k) es i = some ((posOf k ks).bind fun j => (es[j]?).map fun e => (i + j, e.val)) := by
  intro es
  induction es with
  | nil => intro ks i h; cases ks <;> simp_all [Instr.findNow, posOf]
  | cons e es ih =>
    intro ks i h
    cases ks with
    | nil => simp at h
    | cons a ks =>
      simp only [List.map_cons, List.cons.injEq] at h
      simp only [Instr.findNow, h.1]
      rcases hU k a with hn | hn
      · simp [hn]
      · by_cases hk : k = a
        · subst hk; simp [hn, posOf]
        · simp only [hn, hk, decide_false]
          rcases ih ks (i + 1) h.2 with h1 | h1
          · exact .inl h1
          · right
            rw [h1]
            simp only [posOf, hk, if_false]
            cases posOf k ks with
            | none => rfl
            | some j => simp [Nat.add_assoc, Nat.add_comm 1 j]

theorem findAsking_law (hE : ∀ (a b : κ) (w : World), (Op.equal kt (enc a) (enc b)).run P w = .ok (decide (a = b)) w) (k : κ) (w : World) :
    ∀ (es : List MapEntry) (ks : List κ) (i : Nat), es.map (·.key) = ks.map enc →
      (Instr.findAsking kt (enc k) es i).run P w = .ok ((posOf k ks).bind fun j => (es[j]?).map fun e => (i + j, e.val)) w := by
  intro es
  induction es with
  | nil => intro ks i h; cases ks <;> simp_all [Instr.findAsking, posOf]
  | cons e es ih =>
    intro ks i h
    cases ks with
    | nil => simp at h
    | cons a ks =>
      simp only [List.map_cons, List.cons.injEq] at h
      simp only [Instr.findAsking, Sem.run_bind, h.1, hE, Result.andThen]
      by_cases hk : k = a
      · simp [hk, posOf]
      · simp only [hk, decide_false, posOf, if_false]
        rw [show ((if false = true then pure (some (i, e.val)) else Instr.findAsking kt (enc k) es (i + 1)) : Sem (Option (Nat × Value))) = Instr.findAsking kt (enc k) es (i + 1) from rfl, ih ks (i + 1) h.2]
        cases posOf k ks with
        | none => rfl
        | some j => simp [Nat.add_assoc, Nat.add_comm 1 j]

theorem findKey_law (L : KeyLaw P kt enc) (k : κ) (w : World) (es : List MapEntry) (ks : List κ) (h : es.map (·.key) = ks.map enc) :
    (Instr.findKey kt (enc k) es).run P w = .ok ((posOf k ks).bind fun j => (es[j]?).map fun e => (j, e.val)) w := by
  obtain ⟨U, hu, hU⟩ := L.now
  unfold Instr.findKey
  simp only [Sem.run_bind, run_underlying hu, Result.andThen]
  rcases findNow_law hU k es ks 0 h with h1 | h1
  · rw [h1]
    simpa using findAsking_law L.eq k w es ks 0 h
  · rw [h1]
    simp

def mapGet (m : List (κ × Value)) (k : κ) : Option Value := (posOf k (m.map (·.1))).bind fun j => (m[j]?).map (·.2)
def mapSet (m : List (κ × Value)) (k : κ) (v : Value) : List (κ × Value) := match posOf k (m.map (·.1)) with | some j => m.set j (k, v) | none => m ++ [(k, v)]
def mapDel (m : List (κ × Value)) (k : κ) : List (κ × Value) := match posOf k (m.map (·.1)) with | some j => m.eraseIdx j | none => m

/-- the world with another object in a block -/
def put (w : World) (b : Nat) (o : Obj) : World := { w with heap := w.heap.setIfInBounds b o }
theorem setObj_map {w : World} {b : Nat} {es : Array MapEntry} {c : Nat} (o : Obj) (h : w.heap[b]? = some (.map es c)) : (setObj b o).run P w = .ok () (put w b o) := by simp [setObj, Sem.run, h, put]
theorem heap_put {w : World} {b : Nat} {o o' : Obj} (h : w.heap[b]? = some o') : (put w b o).heap[b]? = some o := by
  have := lt_blk h
  simp [put, this]
theorem fr_put (w : World) (b : Nat) (o : Obj) : Fr (fun x => x = b) w (put w b o) :=
  ⟨rfl, rfl, rfl, by simp [put], fun x _ hn => by simp only [put, Array.getElem?_setIfInBounds]; rw [if_neg (fun e => hn e.symm)]⟩

theorem find_at (L : KeyLaw P kt enc) {es : List MapEntry} {m : List (κ × Value)} (h : es.map (fun e => (e.key, e.val)) = m.map (fun p => (enc p.1, p.2))) (k : κ) (w : World) :
    (Instr.findKey kt (enc k) es).run P w = .ok ((posOf k (m.map (·.1))).bind fun j => (m[j]?).map fun e => (j, e.2)) w := by
  rw [findKey_law L k w es (m.map (·.1)) (keys_of h)]
  congr 1
  cases posOf k (m.map (·.1)) with
  | none => rfl
  | some j =>
    have := vals_of h j
    simp only [Option.bind_some]
    cases h1 : es[j]? <;> cases h2 : m[j]? <;> simp_all

theorem run_map_lookup (L : KeyLaw P kt enc) (ht : P.underlying t = some (.map kt et)) {w : World} {b : Nat} {m : List (κ × Value)} (h : MapIs enc w b m) (k : κ) (z : Value) (hz : (zeroValue et).run P w = .ok z w) (ok : Bool) :
    (Instr.lookup t (.map (some b)) (enc k) ok).run P w = .ok (if ok then .tuple #[(mapGet m k).getD z, .bool (mapGet m k).isSome] else (mapGet m k).getD z) w := by
  obtain ⟨es, clock, hb, hes, hn, _, _⟩ := h
  unfold Instr.lookup
  simp only [Sem.run_bind, run_underlying ht, Result.andThen, getObj_map hb, Sem.run_pure, L.check, find_at L hes k w]
  unfold mapGet
  cases hp : posOf k (m.map (·.1)) with
  | none => cases ok <;> simp [hz, Result.andThen]
  | some j =>
    have hj := posOf_some hp
    simp only [List.getElem?_map] at hj
    cases hm : m[j]? with
    | none => simp [hm] at hj
    | some p => cases ok <;> simp [hm]

theorem mapSet_length {m : List (κ × Value)} {k : κ} {v : Value} : (mapSet m k v).length ≤ m.length + 1 := by
  unfold mapSet
  split <;> simp

theorem set_keys {m : List (κ × Value)} {k : κ} {v : Value} {j : Nat} (h : posOf k (m.map (·.1)) = some j) : (m.set j (k, v)).map (·.1) = m.map (·.1) := by
  have hj := posOf_some h
  apply List.ext_getElem?
  intro i
  simp only [List.map_set, List.getElem?_set]
  by_cases hi : j = i
  · subst hi
    have hlt : j < m.length := by have := (List.getElem?_eq_some_iff.1 hj).1; simpa using this
    simp only [if_true, List.length_map, hlt]
    exact hj.symm
  · simp [hi]

/-- 'm[k] = v' -/
theorem run_map_set (L : KeyLaw P kt enc) (ht : P.underlying t = some (.map kt et)) {w : World} {b : Nat} {m : List (κ × Value)} (h : MapIs enc w b m) (k : κ) (v : Value) :
    ∃ w', (Instr.mapUpdate t (.map (some b)) (enc k) v).run P w = .ok () w' ∧ MapIs enc w' b (mapSet m k v) ∧ Fr (fun x => x = b) w w' := by
  obtain ⟨es, clock, hb, hes, hn, hbn, hbl⟩ := h
  unfold Instr.mapUpdate mapSet
  simp only [Sem.run_bind, run_underlying ht, Result.andThen, getObj_map hb, L.check, find_at L hes k w]
  cases hp : posOf k (m.map (·.1)) with
  | none =>
    refine ⟨put w b (.map (es.push { key := enc k, val := v, born := clock }) (clock + 1)), by simp [setObj_map _ hb], ⟨_, _, heap_put hb, ?_, ?_, ?_, ?_⟩, fr_put w b _⟩
    · simp [hes]
    · have hk := posOf_none.1 hp
      simp only [List.map_append, List.map_cons, List.map_nil, List.nodup_append, List.nodup_cons, List.not_mem_nil, not_false_eq_true, List.nodup_nil, and_self, List.mem_singleton]
      refine ⟨hn, trivial, ?_⟩
      rintro a ha x rfl rfl
      exact hk ha
    · simp only [Array.toList_push, List.map_append, List.map_cons, List.map_nil, List.nodup_append, List.nodup_cons, List.not_mem_nil, not_false_eq_true, List.nodup_nil, and_self, List.mem_singleton]
      refine ⟨hbn, trivial, ?_⟩
      rintro a ha x rfl rfl
      obtain ⟨e, he, he2⟩ := List.mem_map.1 ha
      have := hbl e he; omega
    · intro e he
      simp only [Array.toList_push, List.mem_append, List.mem_singleton] at he
      rcases he with he | rfl
      · have := hbl e he; omega
      · simp
  | some j =>
    have hj := posOf_some hp
    have hjm : (m[j]?).map (·.1) = some k := by simpa using hj
    obtain ⟨p, hpj, hpk⟩ := Option.map_eq_some_iff.1 hjm
    have hejk : (es[j]?).map (fun e => (e.key, e.val)) = some (enc k, p.2) := by
      have := congrArg (fun l => l[j]?) hes
      simp only [List.getElem?_map, Array.getElem?_toList] at this
      rw [this, hpj]; simp [hpk]
    obtain ⟨e0, he0, hev⟩ := Option.map_eq_some_iff.1 hejk
    simp only [Prod.mk.injEq] at hev
    refine ⟨put w b (.map (es.modify j fun e => { e with key := enc k, val := v }) clock), ?_, ⟨_, _, heap_put hb, ?_, by rw [set_keys hp]; exact hn, ?_, ?_⟩, fr_put w b _⟩
    · simp [hpj, he0, hev.1, Instr.keyThatStays, L.same, setObj_map _ hb]
    · apply List.ext_getElem?
      intro i
      have hi := congrArg (fun l => l[i]?) hes
      simp only [List.getElem?_map, Array.getElem?_toList] at hi
      simp only [List.getElem?_map, Array.getElem?_toList, Array.getElem?_modify, List.getElem?_set]
      by_cases hji : j = i
      · subst hji
        have hlt : j < m.length := (List.getElem?_eq_some_iff.1 hpj).1
        simp [he0, hlt]
      · simp [hji, hi]
    · have hbm : (es.modify j fun e => { e with key := enc k, val := v }).toList.map (·.born) = es.toList.map (·.born) := by
        apply List.ext_getElem?
        intro i
        simp only [List.getElem?_map, Array.getElem?_toList, Array.getElem?_modify]
        by_cases hji : j = i
        · subst hji; cases es[j]? <;> simp
        · simp [hji]
      rw [hbm]; exact hbn
    · intro e he
      obtain ⟨i, hi⟩ := List.getElem?_of_mem he
      simp only [Array.getElem?_toList, Array.getElem?_modify] at hi
      by_cases hji : j = i
      · subst hji
        simp only [if_true, he0, Option.map_some, Option.some.injEq] at hi
        subst hi
        exact hbl e0 (List.mem_of_getElem? (by rw [Array.getElem?_toList]; exact he0))
      · rw [if_neg hji] at hi
        exact hbl e (List.mem_of_getElem? (by rw [Array.getElem?_toList]; exact hi))

/-- 'delete(m, k)' -/
theorem run_map_del (L : KeyLaw P kt enc) (ht : P.underlying t = some (.map kt et)) {w : World} {b : Nat} {m : List (κ × Value)} (h : MapIs enc w b m) (k : κ) (ty : TypeId) (kt' : TypeId) :
    ∃ w', (Builtin.delete_ #[t, kt'] ty #[.map (some b), enc k]).run P w = .ok (.tuple #[]) w' ∧ MapIs enc w' b (mapDel m k) ∧ Fr (fun x => x = b) w w' := by
  obtain ⟨es, clock, hb, hes, hn, hbn, hbl⟩ := h
  unfold Builtin.delete_ mapDel
  simp only [Sem.run_bind, run_underlying ht, Result.andThen, getObj_map hb, L.check, find_at L hes k w, List.getElem?_toArray, List.getElem?_cons_zero, List.getElem?_cons_succ]
  cases hp : posOf k (m.map (·.1)) with
  | none => exact ⟨put w b (.map es clock), by simp [setObj_map _ hb, Result.andThen], ⟨_, _, heap_put hb, hes, hn, hbn, hbl⟩, fr_put w b _⟩
  | some j =>
    have hj := posOf_some hp
    have hjm : (m[j]?).map (·.1) = some k := by simpa using hj
    obtain ⟨p, hpj, hpk⟩ := Option.map_eq_some_iff.1 hjm
    have hel : (es.eraseIdxIfInBounds j).toList = es.toList.eraseIdx j := by
      unfold Array.eraseIdxIfInBounds
      split
      · simp
      · rename_i hh; rw [List.eraseIdx_of_length_le (by simpa using hh)]
    refine ⟨put w b (.map (es.eraseIdxIfInBounds j) clock), by simp [hpj, setObj_map _ hb, Result.andThen], ⟨_, _, heap_put hb, ?_, ?_, ?_, ?_⟩, fr_put w b _⟩
    · rw [hel, map_erase, map_erase, hes]
    · rw [map_erase]; exact hn.sublist (List.eraseIdx_sublist _ _)
    · rw [hel, map_erase]; exact hbn.sublist (List.eraseIdx_sublist _ _)
    · intro e he
      rw [hel] at he
      exact hbl e (List.mem_of_mem_eraseIdx he)
end

/-- the iterator in block it goes through the map in block b, which holds m; the keys D have been met -/
def Iter {κ : Type} (enc : κ → Value) (w : World) (it b : Nat) (m : List (κ × Value)) (D : List κ) : Prop :=
  ∃ es clock since seen last, w.heap[b]? = some (.map es clock) ∧ w.heap[it]? = some (.mapIter (some b) since seen last) ∧
    es.toList.map (fun e => (e.key, e.val)) = m.map (fun p => (enc p.1, p.2)) ∧ (m.map (·.1)).Nodup ∧ (es.toList.map (·.born)).Nodup ∧ (∀ e ∈ es.toList, e.born < clock) ∧
    (∀ e ∈ es.toList, e.born < since) ∧ since ≤ last ∧ since ≤ clock ∧ ∀ (i : Nat) (e : MapEntry) (p : κ × Value), es[i]? = some e → m[i]? = some p → (e.born ∈ seen ↔ p.1 ∈ D)

section
variable {κ : Type} {enc : κ → Value}

theorem Iter.map {w : World} {it b : Nat} {m : List (κ × Value)} {D : List κ} (h : Iter enc w it b m D) : MapIs enc w b m := by
  obtain ⟨es, clock, _, _, _, h1, _, h2, h3, h4, h5, _⟩ := h
  exact ⟨es, clock, h1, h2, h3, h4, h5⟩

theorem Iter.fr {S : Nat → Prop} {w w' : World} {it b : Nat} {m : List (κ × Value)} {D : List κ} (h : Iter enc w it b m D) (hf : Fr S w w') (h1 : ¬ S it) (h2 : ¬ S b) : Iter enc w' it b m D := by
  obtain ⟨es, clock, since, seen, last, k1, k2, k3⟩ := h
  exact ⟨es, clock, since, seen, last, hf.at k1 h2, hf.at k2 h1, k3⟩

theorem run_iter_new {P : Program} {kt et t : TypeId} (ht : P.underlying t = some (.map kt et)) {w : World} {b : Nat} {m : List (κ × Value)} (h : MapIs enc w b m) :
    ∃ o, (Instr.range t (.map (some b))).run P w = .ok (.pointer (some ⟨w.heap.size, 0, none⟩)) (w.alloc o) ∧ Iter enc (w.alloc o) w.heap.size b m [] := by
  have hlt := h.lt
  obtain ⟨es, clock, h1, h2, h3, h4, h5⟩ := h
  refine ⟨.mapIter (some b) clock #[] clock, ?_, es, clock, clock, #[], clock, ?_, ?_, h2, h3, h4, h5, h5, Nat.le_refl _, Nat.le_refl _, ?_⟩
  · simp [Instr.range, run_underlying ht, getObj_map h1, newObj, Sem.run, Result.andThen]
  · rw [heap_alloc, if_neg (by omega)]; exact h1
  · rw [heap_alloc, if_pos rfl]
  · intro i e p _ _; simp

theorem run_iter_next {P : Program} {w : World} {it b : Nat} {m : List (κ × Value)} {D : List κ} (h : Iter enc w it b m D) (hne : it ≠ b) (ty : TypeId) :
    ((∀ p ∈ m, p.1 ∈ D) ∧ (Instr.next (.pointer (some ⟨it, 0, none⟩)) false ty).run P w = .ok (.tuple #[.bool false]) w) ∨
    ∃ p ∈ m, p.1 ∉ D ∧ ∃ w', (Instr.next (.pointer (some ⟨it, 0, none⟩)) false ty).run P w = .ok (.tuple #[.bool true, enc p.1, p.2]) w' ∧ Iter enc w' it b m (p.1 :: D) ∧ Fr (fun x => x = it) w w' ∧
      (Instr.entry (.pointer (some ⟨it, 0, none⟩))).run P w' = .ok (.tuple #[enc p.1, p.2]) w' := by
  obtain ⟨es, clock, since, seen, last, hb, hi, hes, hn, hbn, hbl, hold, hsc, hcl, hD⟩ := h
  have hpair : ∀ (i : Nat) (e : MapEntry), es[i]? = some e → ∃ p, m[i]? = some p ∧ e.key = enc p.1 ∧ e.val = p.2 := by
    intro i e he
    have := congrArg (fun l => l[i]?) hes
    simp only [List.getElem?_map, Array.getElem?_toList, he, Option.map_some] at this
    cases hm : m[i]? with
    | none => simp [hm] at this
    | some p => simp [hm] at this; exact ⟨p, rfl, this.1, this.2⟩
  have hidx : ∀ (i j : Nat) (e e' : MapEntry), es[i]? = some e → es[j]? = some e' → e.born = e'.born → i = j := by
    intro i j e e' h1 h2 h3
    have hbi : (es.toList.map (·.born))[i]? = some e.born := by simp [h1]
    have hbj : (es.toList.map (·.born))[j]? = some e.born := by simp [h2, h3]
    exact (List.getElem?_inj (List.getElem?_eq_some_iff.1 hbi).1 hbn).1 (hbi.trans hbj.symm)
  rcases run_next_at (P := P) w ty it b since last seen es clock hi hb hold hsc with ⟨h0, hr⟩ | ⟨e, he, w1, hw1, hr⟩
  · refine .inl ⟨fun p hp => ?_, hr⟩
    obtain ⟨i, hip⟩ := List.getElem?_of_mem hp
    have hlen : es.size = m.length := by have := congrArg List.length hes; simpa using this
    have hlt : i < es.size := by rw [hlen]; exact (List.getElem?_eq_some_iff.1 hip).1
    have he := Array.getElem?_eq_getElem hlt
    rw [← hD i _ p he hip]
    have hnot : ¬ es[i] ∈ leftOf es seen := by
      intro hx
      have : 0 < (leftOf es seen).size := Array.size_pos_of_mem hx
      omega
    simp only [leftOf, Array.mem_filter, Array.getElem_mem, true_and, Bool.not_eq_true', Bool.not_eq_false] at hnot
    simpa using hnot
  · right
    have hmem : e ∈ es ∧ e.born ∉ seen := by
      have he' : e ∈ leftOf es seen := by simpa using he
      simp only [leftOf, Array.mem_filter] at he'
      exact ⟨he'.1, by simpa using he'.2⟩
    obtain ⟨i, hie⟩ := List.getElem?_of_mem (Array.mem_toList_iff.2 hmem.1)
    rw [Array.getElem?_toList] at hie
    obtain ⟨p, hp, hk, hv⟩ := hpair i e hie
    have hb1 : w1.heap[b]? = some (.map es clock) := by rcases hw1 with rfl | rfl <;> exact hb
    have hi1 : w1.heap[it]? = some (.mapIter (some b) since seen last) := by rcases hw1 with rfl | rfl <;> exact hi
    have hf1 : Fr (fun x => x = it) w w1 := by rcases hw1 with rfl | rfl; exact Fr.refl _ _; exact (Fr.refl _ _).drew
    have hset : ∀ o, ChangeMaps.setBlock w1 it o = put w1 it o := fun _ => rfl
    rw [hset, hk, hv] at hr
    have hbw : (put w1 it (.mapIter (some b) since (seen.push e.born) clock)).heap[b]? = some (.map es clock) := (fr_put w1 it _).at hb1 (fun e => hne e.symm)
    have hiw : (put w1 it (.mapIter (some b) since (seen.push e.born) clock)).heap[it]? = some (.mapIter (some b) since (seen.push e.born) clock) := heap_put hi1
    refine ⟨p, List.mem_of_getElem? hp, fun hpd => hmem.2 ((hD i e p hie hp).2 hpd), _, hr, ⟨es, clock, since, seen.push e.born, clock, hbw, hiw, hes, hn, hbn, hbl, hold, hcl, hcl, ?_⟩, hf1.trans (fr_put w1 it _) (fun _ _ hx => hx), ?_⟩
    · intro j e' p' he' hp'
      rw [Array.mem_push, List.mem_cons, hD j e' p' he' hp']
      constructor
      · rintro (h1 | h1)
        · exact .inr h1
        · have := hidx j i e' e he' hie h1
          subst this
          rw [hp] at hp'; cases hp'
          exact .inl rfl
      · rintro (h1 | h1)
        · right
          have hki : (m.map (·.1))[i]? = some p.1 := by simp [hp]
          have hkj : (m.map (·.1))[j]? = some p.1 := by simp [hp', h1]
          have := (List.getElem?_inj (List.getElem?_eq_some_iff.1 hki).1 hn).1 (hki.trans hkj.symm)
          subst this
          rw [hie] at he'; cases he'; rfl
        · exact .inl h1
    · have := run_entry_at (P := P) _ it b since seen es clock e hiw hbw (Array.mem_toList_iff.2 hmem.1) hbn
      rw [hk, hv] at this
      exact this
end

section
variable {P : Program} {kt et t : TypeId} {κ : Type} [DecidableEq κ] {enc : κ → Value} {w : World} {b : Nat} {m : List (κ × Value)} {a : Act} {K : Act → World → Prop} {Q : Exit → Act → World → Prop} {o : Oper} {ops : Array Oper} {rest : List Oper}

theorem wp_map_lookup (L : KeyLaw P kt enc) (ht : P.underlying t = some (.map kt et)) (x ix : Operand) (ok : Bool) (ho : o.op = .lookup t x ix ok) (h : MapIs enc w b m) (k : κ) (z : Value) (hz : ∀ w, (zeroValue et).run P w = .ok z w)
    (hx : a.eval x = .map (some b)) (hk : a.eval ix = enc k) (hK : K (a.put o.dst (if ok then .tuple #[(mapGet m k).getD z, .bool (mapGet m k).isSome] else (mapGet m k).getD z)) w) : o.wp P a w K Q := by
  have hr := run_map_lookup L ht h k z (hz w) ok
  unfold Oper.wp
  simp only [execOp, ho, hx, hk, Sem.run_bind, hr, Result.andThen, Sem.run_pure, Oper.upon]
  exact hK

theorem wp_map_set (L : KeyLaw P kt enc) (ht : P.underlying t = some (.map kt et)) (x ix y : Operand) (ho : o.op = .mapUpdate t x ix y) (h : MapIs enc w b m) (k : κ) (v : Value)
    (hx : a.eval x = .map (some b)) (hk : a.eval ix = enc k) (hv : a.eval y = v) (hK : ∀ w', MapIs enc w' b (mapSet m k v) → Fr (fun x => x = b) w w' → K (a.put o.dst undef) w') : o.wp P a w K Q := by
  obtain ⟨w', hr, h1, h2⟩ := run_map_set L ht h k v
  unfold Oper.wp
  simp only [execOp, ho, hx, hk, hv, Sem.run_bind, hr, Result.andThen, Sem.run_pure, Oper.upon]
  exact hK w' h1 h2

theorem wp_map_del (L : KeyLaw P kt enc) (ht : P.underlying t = some (.map kt et)) (x ix : Operand) (t' : TypeId) (ho : o.op = .call { callee := .builtin .delete, args := #[x, ix], argTypes := #[t, t'] }) (h : MapIs enc w b m) (k : κ)
    (hx : a.eval x = .map (some b)) (hk : a.eval ix = enc k) (hK : ∀ w', MapIs enc w' b (mapDel m k) → Fr (fun x => x = b) w w' → K (a.put o.dst (.tuple #[])) w') : o.wp P a w K Q := by
  obtain ⟨w', hr, h1, h2⟩ := run_map_del L ht h k o.type t'
  unfold Oper.wp
  simp only [execOp, ho, resolve, invoke, builtin, hx, hk, List.map_toArray, List.map_cons, List.map_nil, Sem.run_bind, hr, Result.andThen, Sem.run_pure, Oper.upon]
  exact hK w' h1 h2

omit [DecidableEq κ] in
theorem wp_iter_new (ht : P.underlying t = some (.map kt et)) (x : Operand) (ho : o.op = .range t x) (h : MapIs enc w b m) (hx : a.eval x = .map (some b))
    (hK : ∀ oo, Iter enc (w.alloc oo) w.heap.size b m [] → K (a.put o.dst (.pointer (some ⟨w.heap.size, 0, none⟩))) (w.alloc oo)) : o.wp P a w K Q := by
  obtain ⟨oo, hr, h1⟩ := run_iter_new (P := P) ht h
  unfold Oper.wp
  simp only [execOp, ho, hx, Sem.run_bind, hr, Result.andThen, Sem.run_pure, Oper.upon]
  exact hK oo h1

omit [DecidableEq κ] in
theorem wp_iter_next {it : Nat} {D : List κ} (x : Operand) (ho : o.op = .next x false) (h : Iter enc w it b m D) (hne : it ≠ b) (hx : a.eval x = .pointer (some ⟨it, 0, none⟩))
    (h0 : (∀ p ∈ m, p.1 ∈ D) → K (a.put o.dst (.tuple #[.bool false])) w)
    (h1 : ∀ p ∈ m, p.1 ∉ D → ∀ w', Iter enc w' it b m (p.1 :: D) → Fr (fun x => x = it) w w' → (Instr.entry (.pointer (some ⟨it, 0, none⟩))).run P w' = .ok (.tuple #[enc p.1, p.2]) w' → K (a.put o.dst (.tuple #[.bool true, enc p.1, p.2])) w') : o.wp P a w K Q := by
  unfold Oper.wp
  rcases run_iter_next (P := P) h hne o.type with ⟨hd, hr⟩ | ⟨p, hp, hpd, w', hr, k1, k2, k3⟩
  · simp only [execOp, ho, hx, Sem.run_bind, hr, Result.andThen, Sem.run_pure, Oper.upon]
    exact h0 hd
  · simp only [execOp, ho, hx, Sem.run_bind, hr, Result.andThen, Sem.run_pure, Oper.upon]
    exact h1 p hp hpd w' k1 k2 k3

theorem wpList_map_lookup (hgd : o.guard = none) (L : KeyLaw P kt enc) (ht : P.underlying t = some (.map kt et)) (x ix : Operand) (ok : Bool) (ho : o.op = .lookup t x ix ok) (h : MapIs enc w b m) (k : κ) (z : Value) (hz : ∀ w, (zeroValue et).run P w = .ok z w)
    (hx : a.eval x = .map (some b)) (hk : a.eval ix = enc k) (hK : wpList P ops Q rest (a.put o.dst (if ok then .tuple #[(mapGet m k).getD z, .bool (mapGet m k).isSome] else (mapGet m k).getD z)) w) : wpList P ops Q (o :: rest) a w :=
  wpList_plain hgd fun _ hk' => wp_map_lookup L ht x ix ok ho h k z hz hx hk (hk' _ _ hK)
theorem wpList_map_set (hgd : o.guard = none) (L : KeyLaw P kt enc) (ht : P.underlying t = some (.map kt et)) (x ix y : Operand) (ho : o.op = .mapUpdate t x ix y) (h : MapIs enc w b m) (k : κ) (v : Value)
    (hx : a.eval x = .map (some b)) (hk : a.eval ix = enc k) (hv : a.eval y = v) (hK : ∀ w', MapIs enc w' b (mapSet m k v) → Fr (fun x => x = b) w w' → wpList P ops Q rest (a.put o.dst undef) w') : wpList P ops Q (o :: rest) a w :=
  wpList_plain hgd fun _ hk' => wp_map_set L ht x ix y ho h k v hx hk hv (fun w' h1 h2 => hk' _ _ (hK w' h1 h2))
theorem wpList_map_del (hgd : o.guard = none) (L : KeyLaw P kt enc) (ht : P.underlying t = some (.map kt et)) (x ix : Operand) (t' : TypeId) (ho : o.op = .call { callee := .builtin .delete, args := #[x, ix], argTypes := #[t, t'] }) (h : MapIs enc w b m) (k : κ)
    (hx : a.eval x = .map (some b)) (hk : a.eval ix = enc k) (hK : ∀ w', MapIs enc w' b (mapDel m k) → Fr (fun x => x = b) w w' → wpList P ops Q rest (a.put o.dst (.tuple #[])) w') : wpList P ops Q (o :: rest) a w :=
  wpList_plain hgd fun _ hk' => wp_map_del L ht x ix t' ho h k hx hk (fun w' h1 h2 => hk' _ _ (hK w' h1 h2))
omit [DecidableEq κ] in
theorem wpList_iter_new (hgd : o.guard = none) (ht : P.underlying t = some (.map kt et)) (x : Operand) (ho : o.op = .range t x) (h : MapIs enc w b m) (hx : a.eval x = .map (some b))
    (hK : ∀ oo, Iter enc (w.alloc oo) w.heap.size b m [] → wpList P ops Q rest (a.put o.dst (.pointer (some ⟨w.heap.size, 0, none⟩))) (w.alloc oo)) : wpList P ops Q (o :: rest) a w :=
  wpList_plain hgd fun _ hk' => wp_iter_new ht x ho h hx (fun oo h1 => hk' _ _ (hK oo h1))
omit [DecidableEq κ] in
theorem wpList_iter_next (hgd : o.guard = none) {it : Nat} {D : List κ} (x : Operand) (ho : o.op = .next x false) (h : Iter enc w it b m D) (hne : it ≠ b) (hx : a.eval x = .pointer (some ⟨it, 0, none⟩))
    (h0 : (∀ p ∈ m, p.1 ∈ D) → wpList P ops Q rest (a.put o.dst (.tuple #[.bool false])) w)
    (h1 : ∀ p ∈ m, p.1 ∉ D → ∀ w', Iter enc w' it b m (p.1 :: D) → Fr (fun x => x = it) w w' → (Instr.entry (.pointer (some ⟨it, 0, none⟩))).run P w' = .ok (.tuple #[enc p.1, p.2]) w' → wpList P ops Q rest (a.put o.dst (.tuple #[.bool true, enc p.1, p.2])) w') : wpList P ops Q (o :: rest) a w :=
  wpList_plain hgd fun _ hk' => wp_iter_next x ho h hne hx (fun hd => hk' _ _ (h0 hd)) (fun p hp hpd w' k1 k2 k3 => hk' _ _ (h1 p hp hpd w' k1 k2 k3))
end

section
variable {P : Program} {w : World} {a : Act} {K : Act → World → Prop} {Q : Exit → Act → World → Prop} {o : Oper} {ops : Array Oper} {rest : List Oper}
theorem wp_make_map (t : TypeId) (ho : o.op = .makeMap t none) (hK : K (a.put o.dst (.map (some w.heap.size))) (w.alloc (.map #[] 0))) : o.wp P a w K Q := by
  have hr : (Instr.makeMap t none).run P w = .ok (.map (some w.heap.size)) (w.alloc (.map #[] 0)) := rfl
  unfold Oper.wp
  simp only [execOp, ho, Option.map_none, Sem.run_bind, hr, Result.andThen, Sem.run_pure, Oper.upon]
  exact hK
theorem wpList_make_map (hgd : o.guard = none) (t : TypeId) (ho : o.op = .makeMap t none) (hK : wpList P ops Q rest (a.put o.dst (.map (some w.heap.size))) (w.alloc (.map #[] 0))) : wpList P ops Q (o :: rest) a w :=
  wpList_plain hgd fun _ hk' => wp_make_map t ho (hk' _ _ hK)
theorem wp_entry (x : Operand) (ho : o.op = .entry x) {v r : Value} (hx : a.eval x = v) (hr : (Instr.entry v).run P w = .ok r w) (hK : K (a.put o.dst r) w) : o.wp P a w K Q := by
  unfold Oper.wp
  simp only [execOp, ho, hx, Sem.run_bind, hr, Result.andThen, Sem.run_pure, Oper.upon]
  exact hK
theorem wpList_entry (hgd : o.guard = none) (x : Operand) (ho : o.op = .entry x) {v r : Value} (hx : a.eval x = v) (hr : (Instr.entry v).run P w = .ok r w) (hK : wpList P ops Q rest (a.put o.dst r) w) : wpList P ops Q (o :: rest) a w :=
  wpList_plain hgd fun _ hk' => wp_entry x ho hx hr (hk' _ _ hK)
end

section
variable {P : Program} {w w' : World} {a : Act} {K : Act → World → Prop} {Q : Exit → Act → World → Prop} {o : Oper} {ops : Array Oper} {rest : List Oper}
theorem wp_next_run (x : Operand) (ho : o.op = .next x false) {v r : Value} (hx : a.eval x = v) (hr : (Instr.next v false 0).run P w = .ok r w') (hK : K (a.put o.dst r) w') : o.wp P a w K Q := by
  have hr' : (Instr.next v false o.type).run P w = .ok r w' := hr
  unfold Oper.wp
  simp only [execOp, ho, hx, Sem.run_bind, hr', Result.andThen, Sem.run_pure, Oper.upon]
  exact hK
theorem wpList_next_run (hgd : o.guard = none) (x : Operand) (ho : o.op = .next x false) {v r : Value} (hx : a.eval x = v) (hr : (Instr.next v false 0).run P w = .ok r w') (hK : wpList P ops Q rest (a.put o.dst r) w') : wpList P ops Q (o :: rest) a w :=
  wpList_plain hgd fun _ hk' => wp_next_run x ho hx hr (hk' _ _ hK)
theorem wp_map_len {κ : Type} {enc : κ → Value} {kt et t : TypeId} {b : Nat} {m : List (κ × Value)} (ht : P.underlying t = some (.map kt et)) (x : Operand) (ho : o.op = .call { callee := .builtin .len, args := #[x], argTypes := #[t] }) (h : MapIs enc w b m)
    (hx : a.eval x = .map (some b)) (hK : K (a.put o.dst (.int .i64 m.length)) w) : o.wp P a w K Q := by
  have hr := run_map_len (P := P) ht h o.type
  unfold Oper.wp
  simp only [execOp, ho, resolve, invoke, builtin, hx, List.map_toArray, List.map_cons, List.map_nil, Sem.run_bind, hr, Result.andThen, Sem.run_pure, Oper.upon]
  exact hK
theorem wpList_map_len {κ : Type} {enc : κ → Value} {kt et t : TypeId} {b : Nat} {m : List (κ × Value)} (hgd : o.guard = none) (ht : P.underlying t = some (.map kt et)) (x : Operand) (ho : o.op = .call { callee := .builtin .len, args := #[x], argTypes := #[t] }) (h : MapIs enc w b m)
    (hx : a.eval x = .map (some b)) (hK : wpList P ops Q rest (a.put o.dst (.int .i64 m.length)) w) : wpList P ops Q (o :: rest) a w :=
  wpList_plain hgd fun _ hk' => wp_map_len ht x ho h hx (hk' _ _ hK)
end

/-- integers as keys -/
theorem keyLaw_int {P : Program} {kt : TypeId} {k : IntKind} (h : P.underlying kt = some (.int k)) : KeyLaw P kt (fun z : Int => .int k z) where
  now := ⟨.int k, h, fun a b => .inr (by simp only [Instr.sameNow, if_true]; congr 1)⟩
  check := fun empty z w => by unfold Instr.checkKey; simp [run_underlying h]
  eq := fun a b w => by
    simp only [Op.equal, Op.maxDepth, run_equalIn_int (P := P) w 9999 kt k k a b h]
    rfl
  same := fun z => by simp [Instr.sameBits]

theorem mapGet_none {κ : Type} [DecidableEq κ] {m : List (κ × Value)} {k : κ} : mapGet m k = none ↔ k ∉ m.map (·.1) := by
  unfold mapGet
  rw [← posOf_none]
  cases hp : posOf k (m.map (·.1)) with
  | none => simp
  | some j =>
    have hj := posOf_some hp
    simp only [List.getElem?_map] at hj
    cases hm : m[j]? with
    | none => simp [hm] at hj
    | some p => simp [hm]
theorem mapGet_some {κ : Type} [DecidableEq κ] {m : List (κ × Value)} {k : κ} {v : Value} (hn : (m.map (·.1)).Nodup) : mapGet m k = some v ↔ (k, v) ∈ m := by
  unfold mapGet
  constructor
  · intro h
    obtain ⟨j, hj, hv⟩ := Option.bind_eq_some_iff.1 h
    obtain ⟨p, hp, rfl⟩ := Option.map_eq_some_iff.1 hv
    have := posOf_some hj
    simp only [List.getElem?_map, hp, Option.map_some, Option.some.injEq] at this
    subst this
    exact List.mem_of_getElem? hp
  · intro h
    obtain ⟨i, hi⟩ := List.getElem?_of_mem h
    have hki : (m.map (·.1))[i]? = some k := by simp [hi]
    cases hp : posOf k (m.map (·.1)) with
    | none => exact absurd (List.mem_of_getElem? hki) (posOf_none.1 hp)
    | some j =>
      have hj := posOf_some hp
      have := (List.getElem?_inj (List.getElem?_eq_some_iff.1 hki).1 hn).1 (hki.trans hj.symm)
      subst this
      simp [hi]
theorem mapSet_new {κ : Type} [DecidableEq κ] {m : List (κ × Value)} {k : κ} {v : Value} (h : k ∉ m.map (·.1)) : mapSet m k v = m ++ [(k, v)] := by
  unfold mapSet; rw [posOf_none.2 h]
theorem mapDel_eq {κ : Type} [DecidableEq κ] {m : List (κ × Value)} {k : κ} (hn : (m.map (·.1)).Nodup) : mapDel m k = m.filter (fun p => decide (p.1 ≠ k)) := by
  induction m with
  | nil => rfl
  | cons p m ih =>
    rw [List.map_cons] at hn
    have hn' := List.nodup_cons.1 hn
    have ih := ih hn'.2
    unfold mapDel at ih ⊢
    by_cases hk : k = p.1
    · subst hk
      simp only [List.map_cons, posOf, if_true, List.eraseIdx_cons_zero]
      rw [List.filter_cons_of_neg (by simp)]
      refine (List.filter_eq_self.2 fun q hq => ?_).symm
      simp only [decide_eq_true_eq]
      intro e
      exact hn'.1 (e ▸ List.mem_map_of_mem hq)
    · simp only [List.map_cons, posOf, if_neg hk]
      rw [List.filter_cons_of_pos (by simpa using fun e => hk e.symm)]
      cases hp : posOf k (m.map (·.1)) with
      | none => rw [hp] at ih; exact congrArg (p :: ·) ih
      | some j => rw [hp] at ih; exact congrArg (p :: ·) ih
end Go.Proofs.YteicdpgmclbgjaaGreatDoor

/-
  Maps among the groups. No program in sight.
-/
namespace Go.Proofs.YteicdpgmclbgjaaGreatDoor
open Go.RowKit Go.Deep

/-- the group is the map in block b, which holds m -/
def MapG {κ : Type} (enc : κ → Value) (b : Nat) (m : List (κ × Value)) (G : Grp) : Prop :=
  ∃ es clock, G = [(b, .map es clock)] ∧ es.toList.map (fun e => (e.key, e.val)) = m.map (fun p => (enc p.1, p.2)) ∧ (m.map (·.1)).Nodup ∧ (es.toList.map (·.born)).Nodup ∧ ∀ e ∈ es.toList, e.born < clock

section
variable {κ : Type} {enc : κ → Value} {I w w' : World} {b : Nat} {m m' : List (κ × Value)} {G : Grp} {R : List Grp}
theorem MapG.new (enc : κ → Value) (b : Nat) : MapG enc b [] [(b, .map #[] 0)] := ⟨#[], 0, rfl, rfl, by simp, by simp, by simp⟩
theorem Hp.map (h : Hp I w (G :: R)) (g : MapG enc b m G) : MapIs enc w b m := by
  obtain ⟨es, clock, rfl, r⟩ := g
  exact ⟨es, clock, h.blk, r⟩
theorem Hp.mapPut (h : Hp I w (G :: R)) (g : MapG enc b m G) (hm : MapIs enc w' b m') (hf : Fr (fun x => x = b) w w') : ∃ G', MapG enc b m' G' ∧ Hp I w' (G' :: R) := by
  obtain ⟨es, clock, rfl, r⟩ := g
  obtain ⟨es', clock', h1, r'⟩ := hm
  exact ⟨_, ⟨es', clock', rfl, r'⟩, h.put hf h1⟩
theorem Hp.mapNew (h : Hp I w R) (hm : MapIs enc w' b m) (hn : w.heap.size ≤ b) (hf : Fr (fun _ => False) w w') : ∃ G', MapG enc b m G' ∧ Hp I w' (G' :: R) := by
  obtain ⟨es', clock', h1, r'⟩ := hm
  exact ⟨_, ⟨es', clock', rfl, r'⟩, h.add hf h1 hn⟩
end
end Go.Proofs.YteicdpgmclbgjaaGreatDoor

/-
  SX: a symbolic executor. Values with closed block numbers and open whole numbers; a heap of such values; code becomes a tree of what is to be shown. No program in sight.
-/
namespace Go.Proofs.YteicdpgmclbgjaaGreatDoor
namespace SX

/-- where in a block: a cell, or a cell of the i-th element of a row -/
inductive Off
  | c (o : Nat)
  | r (sz i o : Nat)
def Off.n : Off → Nat
  | .c o => o
  | .r sz i o => i * sz + o
def Off.add : Off → Nat → Off
  | .c o, k => .c (o + k)
  | .r sz i o, k => .r sz i (o + k)
theorem Off.n_add (o : Off) (k : Nat) : (o.add k).n = o.n + k := by cases o <;> simp [Off.add, Off.n, Nat.add_assoc]

/-- which block a number stands for -/
abbrev Ren := Nat → Option Nat
def Ren.le (ρ ρ' : Ren) : Prop := ∀ b g, ρ b = some g → ρ' b = some g
theorem Ren.le.refl (ρ : Ren) : ρ.le ρ := fun _ _ h => h
theorem Ren.le.trans {a b c : Ren} (h : a.le b) (k : b.le c) : a.le c := fun x g e => k x g (h x g e)
/-- numbers from n on stand for nothing -/
def Ren.bd (ρ : Ren) (n : Nat) : Prop := ∀ b, n ≤ b → ρ b = none
theorem Ren.bd.mono {ρ : Ren} {m n : Nat} (h : ρ.bd m) (k : m ≤ n) : ρ.bd n := fun b hb => h b (Nat.le_trans k hb)
theorem Ren.bd.lt {ρ : Ren} {n b g : Nat} (h : ρ.bd n) (e : ρ b = some g) : b < n := by
  rcases Nat.lt_or_ge b n with h1 | h1
  · exact h1
  · rw [h b h1] at e; cases e

/-- how much room a row has: a known number, a number, what a number of the renaming stands for less some -/
inductive Cap
  | c (n : Nat) | v (n : Nat) | o (id less : Nat)
  | zr                                   -- none; yet where it stands is known
def Cap.Is (ρ : Ren) : Cap → Nat → Prop
  | .c n, z => z = n
  | .v n, z => z = n
  | .o i m, z => ∃ y, ρ i = some y ∧ z = y - m
  | .zr, z => z = 0
/-- none, and known where -/
def Cap.zz : Cap → Prop
  | .zr => True
  | _ => False
theorem Cap.Is.mono {ρ ρ' : Ren} (h : ρ.le ρ') {c : Cap} {z : Nat} (r : c.Is ρ z) : c.Is ρ' z := by
  cases c with
  | c n => exact r
  | v n => exact r
  | o i m => obtain ⟨y, e, r⟩ := r; exact ⟨y, h _ _ e, r⟩
  | zr => exact r
theorem Cap.Is.carry {ρ0 ρ ρ' : Ren} {n : Nat} (h0 : ρ0.bd n) (h : ∀ b, b < n → ρ' b = ρ b) {c : Cap} {u z : Nat} (q : c.Is ρ0 u) (r : c.Is ρ z) : c.Is ρ' z := by
  cases c with
  | c n => exact r
  | v n => exact r
  | o i m => obtain ⟨y, e, _⟩ := q; obtain ⟨y', e', r⟩ := r; exact ⟨y', by rw [h i (h0.lt e)]; exact e', r⟩
  | zr => exact r
theorem Cap.Is.uniq {ρ : Ren} {c : Cap} {y z : Nat} (q : c.Is ρ y) (r : c.Is ρ z) : y = z := by
  cases c with
  | c n => exact Eq.trans q (Eq.symm r)
  | v n => exact Eq.trans q (Eq.symm r)
  | o i m => obtain ⟨y, e, rfl⟩ := q; obtain ⟨y', e', rfl⟩ := r; rw [e] at e'; cases e'; rfl
  | zr => exact Eq.trans q (Eq.symm r)
def Cap.sub : Cap → Nat → Cap
  | .c n, k => .c (n - k)
  | .v n, k => .v (n - k)
  | .o i m, k => .o i (m + k)
  | .zr, _ => .c 0
theorem Cap.sub_zz {c : Cap} {k : Nat} (h : (c.sub k).zz) : False := by cases c <;> exact h.elim
theorem Cap.Is.sub {ρ : Ren} {c : Cap} {z : Nat} (r : c.Is ρ z) (k : Nat) : (c.sub k).Is ρ (z - k) := by
  cases c with
  | c n => exact congrArg (· - k) r
  | v n => exact congrArg (· - k) r
  | o i m => obtain ⟨y, e, rfl⟩ := r; exact ⟨y, e, by omega⟩
  | zr => rw [show z = 0 from r]; exact Nat.zero_sub k
def Cap.posP : Cap → Prop
  | .c n => 0 < n
  | .v n => 0 < n
  | .o _ _ => False
  | .zr => False
theorem Cap.posP_is {ρ : Ren} {c : Cap} {z : Nat} (h : c.posP) (r : c.Is ρ z) : 0 < z := by
  cases c with
  | c n => rw [show z = n from r]; exact h
  | v n => rw [show z = n from r]; exact h
  | o i m => exact h.elim
  | zr => exact h.elim
/-- has it a block? -/
def Cap.hasB : Cap → Prop
  | .c n => 0 < n
  | .v n => 0 < n
  | .o _ _ => True
  | .zr => True
theorem Cap.hasB_of {ρ : Ren} {c : Cap} {z : Nat} (r : c.Is ρ z) (h : 0 < z) : c.hasB := by
  cases c with
  | c n => rw [show z = n from r] at h; exact h
  | v n => rw [show z = n from r] at h; exact h
  | o i m => trivial
  | zr => trivial
theorem Cap.hasB_sub {c : Cap} {k : Nat} (h : (c.sub k).hasB) : c.hasB := by
  cases c with
  | c n => exact Nat.lt_of_lt_of_le h (Nat.sub_le _ _)
  | v n => exact Nat.lt_of_lt_of_le h (Nat.sub_le _ _)
  | o i m => trivial
  | zr => trivial
theorem slB {ρ : Ren} {c : Cap} {z b : Nat} {a : Option Addr} {f : Nat → Addr} (r : c.Is ρ z) (h : c.hasB → ∃ g, ρ b = some g ∧ (0 < z ∨ c.zz → a = some (f g))) (hz : 0 < z) : ∃ g, ρ b = some g ∧ a = some (f g) := by
  obtain ⟨g, e, h⟩ := h (Cap.hasB_of r hz)
  exact ⟨g, e, h (.inl hz)⟩
def Cap.leP (h : Int) : Cap → Prop
  | .c n => h ≤ (n : Int)
  | .v n => h ≤ (n : Int)
  | .o _ _ => False
  | .zr => h ≤ 0
theorem Cap.leP_is {ρ : Ren} {c : Cap} {z : Nat} {n : Int} (h : c.leP n) (r : c.Is ρ z) : n ≤ (z : Int) := by
  cases c with
  | c m => rw [show z = m from r]; exact h
  | v m => rw [show z = m from r]; exact h
  | o i m => exact h.elim
  | zr => rw [show z = 0 from r]; exact h

def isZ : Cap → Bool
  | .zr => true
  | _ => false
theorem isZ_zz {c : Cap} (h : isZ c = true) : c.zz := by cases c <;> first | trivial | cases h
theorem isZ_hasB {c : Cap} (h : isZ c = true) : c.hasB := by cases c <;> first | trivial | cases h

inductive SV
  | tt | ff
  | b (x : Bool)
  | l (k : IntKind) (n : Int)            -- a known number
  | i (k : IntKind) (n : Int)
  | f (k : FloatKind) (x : Nat)
  | s (x : ByteArray)
  | t (x : List UInt8)                   -- a known string
  | p (blk : Nat) (o : Off)
  | rp (g : Nat) (o : Off)               -- an actual block
  | np
  | sl (lit : Bool) (blk sz frm len : Nat) (cap : Cap)   -- lit: where it begins and how long it is is known
  | ns
  | m (blk : Nat)
  | nm
  | fn (f : FuncId) (cap : List SV)
  | nf
  | ifc (t : TypeId) (v : SV)
  | ni
  | agg (l : List SV)
  | tup (l : List SV)
  | v (x : Value)                        -- a value as it is
  | junk
  | none_                               -- an operation that was not carried out

def bytesOf (l : List UInt8) : ByteArray := ⟨l.toArray⟩

/-! what a value stands for, where ρ tells the blocks -/
mutual
def SV.Rel (ρ : Ren) : SV → Value → Prop
  | .tt, v => v = .bool true
  | .ff, v => v = .bool false
  | .b x, v => v = .bool x
  | .l k n, v => v = .int k n
  | .i k n, v => v = .int k n
  | .f k n, v => v = .float k n
  | .s x, v => v = .string x
  | .t x, v => v = .string (bytesOf x)
  | .p b o, v => ∃ g, ρ b = some g ∧ v = .pointer (some ⟨g, o.n, none⟩)
  | .rp g o, v => v = .pointer (some ⟨g, o.n, none⟩)
  | .np, v => v = .pointer none
  | .sl _ b sz frm len cap, v => ∃ a c, v = .slice a len c ∧ cap.Is ρ c ∧ len ≤ c ∧ (cap.hasB → ∃ g, ρ b = some g ∧ (0 < c ∨ cap.zz → a = some ⟨g, frm * sz, none⟩))
  | .ns, v => v = .slice none 0 0
  | .m b, v => ∃ g, ρ b = some g ∧ v = .map (some g)
  | .nm, v => v = .map none
  | .fn f cap, v => ∃ cs, v = .func (.func f) #[] cs ∧ RelL ρ cap cs.toList
  | .nf, v => v = .nilFunc
  | .ifc t x, v => ∃ y, v = .iface t y ∧ SV.Rel ρ x y
  | .ni, v => v = .nilIface
  | .agg l, v => ∃ cs, v = .agg cs ∧ RelL ρ l cs.toList
  | .tup l, v => ∃ cs, v = .tuple cs ∧ RelL ρ l cs.toList
  | .v x, v => v = x
  | .junk, _ => True
  | .none_, v => v = undef
def RelL (ρ : Ren) : List SV → List Value → Prop
  | [], vs => vs = []
  | x :: l, vs => ∃ v r, vs = v :: r ∧ SV.Rel ρ x v ∧ RelL ρ l r
end

mutual
theorem SV.Rel.mono {ρ ρ' : Ren} (h : ρ.le ρ') : ∀ (x : SV) (v : Value), x.Rel ρ v → x.Rel ρ' v
  | .tt, _, r | .ff, _, r | .b _, _, r | .l _ _, _, r | .i _ _, _, r | .f _ _, _, r | .s _, _, r | .t _, _, r | .rp _ _, _, r | .np, _, r | .ns, _, r | .nm, _, r | .nf, _, r | .ni, _, r | .v _, _, r | .none_, _, r => by
    simp only [SV.Rel] at r ⊢; exact r
  | .p b o, v, r => by
    simp only [SV.Rel] at r ⊢
    obtain ⟨g, e, r⟩ := r
    exact ⟨g, h _ _ e, r⟩
  | .sl lit b sz frm len cap, v, r => by
    simp only [SV.Rel] at r ⊢
    obtain ⟨a, c, e, hi, hl, r⟩ := r
    exact ⟨a, c, e, hi.mono h, hl, fun hc => by obtain ⟨g, e, r⟩ := r hc; exact ⟨g, h _ _ e, r⟩⟩
  | .m b, v, r => by
    simp only [SV.Rel] at r ⊢
    obtain ⟨g, e, r⟩ := r
    exact ⟨g, h _ _ e, r⟩
  | .fn f cap, v, r => by
    simp only [SV.Rel] at r ⊢
    obtain ⟨cs, e, r⟩ := r
    exact ⟨cs, e, RelL.mono h cap cs.toList r⟩
  | .ifc t x, v, r => by
    simp only [SV.Rel] at r ⊢
    obtain ⟨y, e, r⟩ := r
    exact ⟨y, e, SV.Rel.mono h x y r⟩
  | .agg l, v, r => by
    simp only [SV.Rel] at r ⊢
    obtain ⟨cs, e, r⟩ := r
    exact ⟨cs, e, RelL.mono h l cs.toList r⟩
  | .tup l, v, r => by
    simp only [SV.Rel] at r ⊢
    obtain ⟨cs, e, r⟩ := r
    exact ⟨cs, e, RelL.mono h l cs.toList r⟩
  | .junk, _, _ => by simp only [SV.Rel]
theorem RelL.mono {ρ ρ' : Ren} (h : ρ.le ρ') : ∀ (l : List SV) (vs : List Value), RelL ρ l vs → RelL ρ' l vs
  | [], _, r => by simp only [RelL] at r ⊢; exact r
  | x :: l, vs, r => by
    simp only [RelL] at r ⊢
    obtain ⟨v, q, e, r1, r2⟩ := r
    exact ⟨v, q, e, SV.Rel.mono h x v r1, RelL.mono h l q r2⟩
end

/-! what has had a meaning below n has the same one wherever the numbers below n have -/
mutual
theorem SV.Rel.carry {ρ0 ρ ρ' : Ren} {n : Nat} (h0 : ρ0.bd n) (h : ∀ b, b < n → ρ' b = ρ b) : ∀ (x : SV) (u v : Value), x.Rel ρ0 u → x.Rel ρ v → x.Rel ρ' v
  | .tt, _, _, _, r | .ff, _, _, _, r | .b _, _, _, _, r | .l _ _, _, _, _, r | .i _ _, _, _, _, r | .f _ _, _, _, _, r | .s _, _, _, _, r | .t _, _, _, _, r | .rp _ _, _, _, _, r | .np, _, _, _, r | .ns, _, _, _, r | .nm, _, _, _, r | .nf, _, _, _, r | .ni, _, _, _, r | .v _, _, _, _, r | .none_, _, _, _, r => by
    simp only [SV.Rel] at r ⊢; exact r
  | .p b o, u, v, q, r => by
    simp only [SV.Rel] at q r ⊢
    obtain ⟨g, e, _⟩ := q
    rw [h b (h0.lt e)]; exact r
  | .sl lit b sz frm len cap, u, v, q, r => by
    simp only [SV.Rel] at q r ⊢
    obtain ⟨a, c, _, hi, _, q⟩ := q
    obtain ⟨a', c', e', hi', hl', r⟩ := r
    exact ⟨a', c', e', hi.carry h0 h hi', hl', fun hc => by obtain ⟨g, e, _⟩ := q hc; rw [h b (h0.lt e)]; exact r hc⟩
  | .m b, u, v, q, r => by
    simp only [SV.Rel] at q r ⊢
    obtain ⟨g, e, _⟩ := q
    rw [h b (h0.lt e)]; exact r
  | .fn f cap, u, v, q, r => by
    simp only [SV.Rel] at q r ⊢
    obtain ⟨_, _, q⟩ := q
    obtain ⟨cs, e, r⟩ := r
    exact ⟨cs, e, RelL.carry h0 h cap _ cs.toList q r⟩
  | .ifc t x, u, v, q, r => by
    simp only [SV.Rel] at q r ⊢
    obtain ⟨_, _, q⟩ := q
    obtain ⟨y, e, r⟩ := r
    exact ⟨y, e, SV.Rel.carry h0 h x _ y q r⟩
  | .agg l, u, v, q, r => by
    simp only [SV.Rel] at q r ⊢
    obtain ⟨_, _, q⟩ := q
    obtain ⟨cs, e, r⟩ := r
    exact ⟨cs, e, RelL.carry h0 h l _ cs.toList q r⟩
  | .tup l, u, v, q, r => by
    simp only [SV.Rel] at q r ⊢
    obtain ⟨_, _, q⟩ := q
    obtain ⟨cs, e, r⟩ := r
    exact ⟨cs, e, RelL.carry h0 h l _ cs.toList q r⟩
  | .junk, _, _, _, _ => by simp only [SV.Rel]
theorem RelL.carry {ρ0 ρ ρ' : Ren} {n : Nat} (h0 : ρ0.bd n) (h : ∀ b, b < n → ρ' b = ρ b) : ∀ (l : List SV) (us vs : List Value), RelL ρ0 l us → RelL ρ l vs → RelL ρ' l vs
  | [], _, _, _, r => by simp only [RelL] at r ⊢; exact r
  | x :: l, us, vs, q, r => by
    simp only [RelL] at q r ⊢
    obtain ⟨_, _, _, q1, q2⟩ := q
    obtain ⟨v, p, e, r1, r2⟩ := r
    exact ⟨v, p, e, SV.Rel.carry h0 h x _ v q1 r1, RelL.carry h0 h l _ p q2 r2⟩
end

noncomputable def lset (l : List SV) : Nat → SV → List SV :=
  List.rec (motive := fun _ => Nat → SV → List SV) (fun _ _ => []) (fun x l ih n v => Nat.rec (motive := fun _ => List SV) (v :: l) (fun m _ => x :: ih m v) n) l
noncomputable def lget (l : List SV) : Nat → SV :=
  List.rec (motive := fun _ => Nat → SV) (fun _ => .junk) (fun x _ ih n => Nat.rec (motive := fun _ => SV) x (fun m _ => ih m) n) l
theorem lset_nil (n : Nat) (v : SV) : lset [] n v = [] := rfl
theorem lset_zero (x : SV) (l : List SV) (v : SV) : lset (x :: l) 0 v = v :: l := rfl
theorem lset_succ (x : SV) (l : List SV) (n : Nat) (v : SV) : lset (x :: l) (n + 1) v = x :: lset l n v := rfl
theorem lget_nil (n : Nat) : lget [] n = .junk := rfl
theorem lget_zero (x : SV) (l : List SV) : lget (x :: l) 0 = x := rfl
theorem lget_succ (x : SV) (l : List SV) (n : Nat) : lget (x :: l) (n + 1) = lget l n := rfl

section
variable {ρ : Ren}
theorem RelL.nil : RelL ρ [] [] := by simp only [RelL]
theorem RelL.cons {x : SV} {v : Value} {l : List SV} {vs : List Value} (h : x.Rel ρ v) (hl : RelL ρ l vs) : RelL ρ (x :: l) (v :: vs) := by
  simp only [RelL]; exact ⟨v, vs, rfl, h, hl⟩
theorem RelL.uncons {x : SV} {v : Value} {l : List SV} {vs : List Value} (h : RelL ρ (x :: l) (v :: vs)) : x.Rel ρ v ∧ RelL ρ l vs := by
  simp only [RelL] at h
  obtain ⟨_, _, e, h1, h2⟩ := h
  simp only [List.cons.injEq] at e
  obtain ⟨rfl, rfl⟩ := e
  exact ⟨h1, h2⟩
theorem RelL.length {l : List SV} {vs : List Value} (h : RelL ρ l vs) : l.length = vs.length := by
  induction l generalizing vs with
  | nil => simp only [RelL] at h; subst h; rfl
  | cons x l ih => simp only [RelL] at h; obtain ⟨v, r, rfl, _, h2⟩ := h; simp [ih h2]
theorem RelL.get {l : List SV} {vs : List Value} (h : RelL ρ l vs) (i : Nat) : (lget l i).Rel ρ (vs.getD i undef) := by
  induction l generalizing vs i with
  | nil => simp only [RelL] at h; subst h; simp only [lget_nil, SV.Rel]
  | cons x l ih =>
    simp only [RelL] at h; obtain ⟨v, r, rfl, h1, h2⟩ := h
    cases i with
    | zero => exact h1
    | succ i => exact ih h2 i
theorem RelL.get? {l : List SV} {vs : List Value} (h : RelL ρ l vs) {i : Nat} (hi : i < l.length) : ∃ v, vs[i]? = some v ∧ (lget l i).Rel ρ v := by
  have h1 := h.get i
  have h2 := h.length
  refine ⟨vs[i]'(by omega), List.getElem?_eq_getElem _, ?_⟩
  rw [List.getD_eq_getElem?_getD, List.getElem?_eq_getElem (by omega)] at h1
  exact h1
theorem RelL.set {l : List SV} {vs : List Value} (h : RelL ρ l vs) (i : Nat) {x : SV} {v : Value} (hx : x.Rel ρ v) : RelL ρ (lset l i x) (vs.set i v) := by
  induction l generalizing vs i with
  | nil => simp only [RelL] at h; subst h; simp only [lset_nil, List.set_nil, RelL]
  | cons y l ih =>
    simp only [RelL] at h; obtain ⟨u, r, rfl, h1, h2⟩ := h
    cases i with
    | zero => exact .cons hx h2
    | succ i => exact .cons h1 (ih h2 i)
theorem RelL.drop {l : List SV} {vs : List Value} (h : RelL ρ l vs) (n : Nat) : RelL ρ (l.drop n) (vs.drop n) := by
  induction n generalizing l vs with
  | zero => simpa using h
  | succ n ih =>
    cases l with
    | nil => simp only [RelL] at h; subst h; simp only [List.drop_nil, RelL]
    | cons x l => simp only [RelL] at h; obtain ⟨v, r, rfl, _, h2⟩ := h; simpa using ih h2
theorem RelL.take {l : List SV} {vs : List Value} (h : RelL ρ l vs) (n : Nat) : RelL ρ (l.take n) (vs.take n) := by
  induction n generalizing l vs with
  | zero => simp only [List.take_zero, RelL]
  | succ n ih =>
    cases l with
    | nil => simp only [RelL] at h; subst h; simp only [List.take_nil, RelL]
    | cons x l => simp only [RelL] at h; obtain ⟨v, r, rfl, h1, h2⟩ := h; simpa using RelL.cons h1 (ih h2)
theorem RelL.append {l k : List SV} {vs us : List Value} (h : RelL ρ l vs) (hk : RelL ρ k us) : RelL ρ (l ++ k) (vs ++ us) := by
  induction l generalizing vs with
  | nil => simp only [RelL] at h; subst h; simpa using hk
  | cons x l ih => simp only [RelL] at h; obtain ⟨v, r, rfl, h1, h2⟩ := h; exact .cons h1 (ih h2)
theorem RelL.split {l k : List SV} {vs : List Value} (h : RelL ρ (l ++ k) vs) : ∃ us ws, vs = us ++ ws ∧ RelL ρ l us ∧ RelL ρ k ws := by
  refine ⟨vs.take l.length, vs.drop l.length, (List.take_append_drop _ _).symm, ?_, ?_⟩
  · have := h.take l.length; simpa using this
  · have := h.drop l.length; simpa using this
theorem RelL.map {α : Type} {f : α → SV} {g : α → Value} {l : List α} (h : ∀ x ∈ l, (f x).Rel ρ (g x)) : RelL ρ (l.map f) (l.map g) := by
  induction l with
  | nil => simp only [List.map_nil, RelL]
  | cons x l ih => exact .cons (h x (by simp)) (ih fun y hy => h y (by simp [hy]))
theorem RelL.of_get : ∀ {l : List SV} {vs : List Value}, l.length = vs.length → (∀ j, (lget l j).Rel ρ (vs.getD j undef)) → RelL ρ l vs
  | [], [], _, _ => .nil
  | x :: l, v :: vs, hl, h => .cons (h 0) (RelL.of_get (by simpa using hl) fun j => h (j + 1))
  | [], _ :: _, hl, _ => by simp at hl
  | _ :: _, [], hl, _ => by simp at hl
end
end SX
end Go.Proofs.YteicdpgmclbgjaaGreatDoor

/-
  SX: the heap: what stands in memory where a symbolic heap is said to hold. No program in sight.
-/
namespace Go.Proofs.YteicdpgmclbgjaaGreatDoor
open Go.RowKit Go.Deep
namespace SX

/-- kinds of elements of rows -/
inductive RK
  | u64 | i64 | bl | one
def RK.T : RK → Type
  | .u64 => Nat
  | .i64 => Int
  | .bl => Bool
  | .one => Nat × Nat
def RK.sz : RK → Nat
  | .u64 => 1 | .i64 => 1 | .bl => 1 | .one => 2
def RK.dflt : (k : RK) → k.T
  | .u64 => (0 : Nat) | .i64 => (0 : Int) | .bl => false | .one => ((0 : Nat), (0 : Nat))
def RK.enc : (k : RK) → k.T → List SV
  | .u64, x => [.i .u64 (Int.ofNat x)]
  | .i64, x => [.i .i64 x]
  | .bl, x => [.b x]
  | .one, x => [.i .u64 (Int.ofNat x.1), .i .u64 (Int.ofNat x.2)]
def numOf : SV → Option (IntKind × Int)
  | .l k n => some (k, n)
  | .i k n => some (k, n)
  | _ => none
def boolOf : SV → Option Bool
  | .tt => some true
  | .ff => some false
  | .b x => some x
  | _ => none
def isK (k k' : IntKind) : Bool := match k, k' with
  | .u64, .u64 => true
  | .i64, .i64 => true
  | .u32, .u32 => true
  | .i32, .i32 => true
  | .u8, .u8 => true
  | .u16, .u16 => true
  | .i8, .i8 => true
  | .i16, .i16 => true
  | _, _ => false
theorem isK_eq {k k' : IntKind} (h : isK k k' = true) : k = k' := by
  cases k <;> cases k' <;> first | rfl | (simp [isK] at h)
def intOf (k : IntKind) (x : SV) : Option Int := match numOf x with
  | some (k', n) => if isK k' k then some n else none
  | none => none
def natOf (x : SV) : Option (Prop × Nat) := match intOf .u64 x with
  | some n => some (0 ≤ n, n.toNat)
  | none => none
theorem numOf_rel {ρ : Ren} {x : SV} {k : IntKind} {n : Int} (h : numOf x = some (k, n)) {v : Value} (hr : x.Rel ρ v) : v = .int k n := by
  cases x <;> simp only [numOf, reduceCtorEq, Option.some.injEq, Prod.mk.injEq] at h
  all_goals (obtain ⟨rfl, rfl⟩ := h; simp only [SV.Rel] at hr; exact hr)
theorem boolOf_rel {ρ : Ren} {x : SV} {c : Bool} (h : boolOf x = some c) {v : Value} (hr : x.Rel ρ v) : v = .bool c := by
  cases x <;> simp only [boolOf, reduceCtorEq, Option.some.injEq] at h
  all_goals (subst h; simp only [SV.Rel] at hr; exact hr)
theorem intOf_rel {ρ : Ren} {k : IntKind} {x : SV} {n : Int} (h : intOf k x = some n) {v : Value} (hr : x.Rel ρ v) : v = .int k n := by
  unfold intOf at h
  split at h
  next k' n' e =>
    split at h
    next hk => simp only [Option.some.injEq] at h; subst h; rw [← isK_eq hk]; exact numOf_rel e hr
    · cases h
  · cases h
def dec1 {α : Type} (f : SV → Option (Prop × α)) : List SV → Option (Prop × α)
  | a :: l => match l with
    | [] => f a
    | _ :: _ => none
  | [] => none
def dec2 {α : Type} (f : SV → SV → Option (Prop × α)) : List SV → Option (Prop × α)
  | a :: l => match l with
    | b :: m => match m with
      | [] => f a b
      | _ :: _ => none
    | [] => none
  | [] => none
def natOf2 (a b : SV) : Option (Prop × (Nat × Nat)) := match natOf a, natOf b with
  | some x, some y => some (x.1 ∧ y.1, (x.2, y.2))
  | _, _ => none
def intOf' (a : SV) : Option (Prop × Int) := (intOf .i64 a).map fun n => (True, n)
def boolOf' (a : SV) : Option (Prop × Bool) := (boolOf a).map fun n => (True, n)
/-- an element out of its cells, and what that wants -/
def RK.dec (k : RK) : List SV → Option (Prop × k.T) := match k with
  | .u64 => dec1 natOf
  | .i64 => dec1 intOf'
  | .bl => dec1 boolOf'
  | .one => dec2 natOf2

theorem RK.sz_pos (k : RK) : 0 < k.sz := by cases k <;> decide
theorem RK.enc_len (k : RK) (x : k.T) : (k.enc x).length = k.sz := by cases k <;> rfl
theorem RK.sz_le (k : RK) : k.sz ≤ 2 := by cases k <;> decide
theorem natOf_rel {ρ : Ren} {x : SV} {q : Prop × Nat} (h : natOf x = some q) (hp : q.1) {v : Value} (hr : x.Rel ρ v) : v = .int .u64 (Int.ofNat q.2) := by
  unfold natOf at h
  split at h
  next n e =>
    simp only [Option.some.injEq] at h
    subst h
    rw [intOf_rel e hr]
    simp only at hp ⊢
    rw [Int.ofNat_eq_natCast, Int.toNat_of_nonneg hp]
  · cases h
theorem rel1 {ρ : Ren} {a b : SV} (h : ∀ v, a.Rel ρ v → b.Rel ρ v) {vs : List Value} (hr : RelL ρ [a] vs) : RelL ρ [b] vs := by
  simp only [RelL] at hr ⊢
  obtain ⟨v, r, rfl, h1, h2⟩ := hr
  exact ⟨v, r, rfl, h v h1, h2⟩
theorem rel2 {ρ : Ren} {a b : SV} {vs : List Value} (hr : RelL ρ [a, b] vs) : ∃ v u, vs = [v, u] ∧ a.Rel ρ v ∧ b.Rel ρ u := by
  simp only [RelL] at hr
  obtain ⟨v, r, rfl, h1, v', r', rfl, h2, rfl⟩ := hr
  exact ⟨v, v', rfl, h1, h2⟩
theorem dec1_some {α : Type} {f : SV → Option (Prop × α)} {cs : List SV} {q : Prop × α} (h : dec1 f cs = some q) : ∃ a, cs = [a] ∧ f a = some q := by
  match cs, h with
  | [a], h => exact ⟨a, rfl, h⟩
theorem dec2_some {α : Type} {f : SV → SV → Option (Prop × α)} {cs : List SV} {q : Prop × α} (h : dec2 f cs = some q) : ∃ a b, cs = [a, b] ∧ f a b = some q := by
  match cs, h with
  | [a, b], h => exact ⟨a, b, rfl, h⟩
theorem RK.dec_rel {ρ : Ren} {k : RK} {cs : List SV} {q : Prop × k.T} (h : k.dec cs = some q) (hp : q.1) {vs : List Value} (hr : RelL ρ cs vs) : RelL ρ (k.enc q.2) vs := by
  cases k with
  | u64 =>
    obtain ⟨a, rfl, h⟩ := dec1_some h
    exact rel1 (fun v hv => by simp only [SV.Rel]; exact natOf_rel h hp hv) hr
  | i64 =>
    obtain ⟨a, rfl, h⟩ := dec1_some h
    obtain ⟨n, e, rfl⟩ := Option.map_eq_some_iff.1 h
    exact rel1 (fun v hv => by simp only [SV.Rel]; exact intOf_rel e hv) hr
  | bl =>
    obtain ⟨a, rfl, h⟩ := dec1_some h
    obtain ⟨n, e, rfl⟩ := Option.map_eq_some_iff.1 h
    exact rel1 (fun v hv => by simp only [SV.Rel]; exact boolOf_rel e hv) hr
  | one =>
    obtain ⟨a, b, rfl, h9⟩ := dec2_some (f := natOf2) h
    clear h
    unfold natOf2 at h9
    split at h9
    next x y hx hy =>
      have h8 := Option.some.inj h9
      subst h8
      obtain ⟨v, u, rfl, h1, h2⟩ := rel2 hr
      exact .cons (by simp only [SV.Rel]; exact natOf_rel hx hp.1 h1) (.cons (by simp only [SV.Rel]; exact natOf_rel hy hp.2 h2) .nil)
    · cases h9

/-- kinds of keys of maps -/
inductive KK
  | int (k : IntKind) | str | non
def KK.T : KK → Type
  | .int _ => Int
  | .str => List UInt8
  | .non => Empty
instance (k : KK) : DecidableEq k.T := match k with
  | .int _ => inferInstanceAs (DecidableEq Int)
  | .str => inferInstanceAs (DecidableEq (List UInt8))
  | .non => inferInstanceAs (DecidableEq Empty)
def KK.enc : (k : KK) → k.T → Value
  | .int k, n => .int k n
  | .str, l => .string (bytesOf l)
  | .non, _ => undef
/-- entries as they are in a map -/
def MR {κ : Type} (ρ : Ren) : List (κ × SV) → List (κ × Value) → Prop
  | [], m => m = []
  | e :: es, m => ∃ v q, m = (e.1, v) :: q ∧ SV.Rel ρ e.2 v ∧ MR ρ es q
theorem MR.mono {κ : Type} {ρ ρ' : Ren} (h : ρ.le ρ') : ∀ {es : List (κ × SV)} {m : List (κ × Value)}, MR ρ es m → MR ρ' es m
  | [], _, r => r
  | _ :: _, _, r => by
    obtain ⟨v, q, e, r1, r2⟩ := r
    exact ⟨v, q, e, SV.Rel.mono h _ _ r1, MR.mono h r2⟩

/-- a model of what stands in several blocks -/
inductive BM
  | z
abbrev BigRep := BM → Nat → Grp → Prop

inductive SObj
  | cells (t : TypeId) (cs : List SV)
  | vec (t : TypeId) (sz : Nat) (cs : List SV) (cap : Cap)      -- the first cells are known
  | row (t : TypeId) (k : RK) (xs : List k.T) (cap : Nat)
  | mp (k : KK) (es : List (k.T × SV))
  | it (bm : Nat)                                              -- goes through the map bm
  | big (m : BM)
  | gone
abbrev Heap := List (Nat × SObj)
noncomputable def Heap.get (h : Heap) (b : Nat) : Option SObj :=
  List.rec (motive := fun _ => Option SObj) none (fun x _ ih => Bool.rec (motive := fun _ => Option SObj) ih (some x.2) (Nat.beq x.1 b)) h
noncomputable def Heap.set (h : Heap) (b : Nat) (o : SObj) : Heap :=
  List.rec (motive := fun _ => Heap) [] (fun x h ih => Bool.rec (motive := fun _ => Heap) (x :: ih) ((b, o) :: h) (Nat.beq x.1 b)) h
theorem Heap.get_nil (b : Nat) : Heap.get [] b = none := rfl
theorem Heap.get_cons (x : Nat × SObj) (h : Heap) (b : Nat) : Heap.get (x :: h) b = if Nat.beq x.1 b then some x.2 else Heap.get h b := by
  show Bool.rec (motive := fun _ => Option SObj) _ _ (Nat.beq x.1 b) = _
  cases Nat.beq x.1 b <;> rfl
theorem Heap.set_nil (b : Nat) (o : SObj) : Heap.set [] b o = [] := rfl
theorem Heap.set_cons (x : Nat × SObj) (h : Heap) (b : Nat) (o : SObj) : Heap.set (x :: h) b o = if Nat.beq x.1 b then (b, o) :: h else x :: Heap.set h b o := by
  show Bool.rec (motive := fun _ => Heap) _ _ (Nat.beq x.1 b) = _
  cases Nat.beq x.1 b <;> rfl

/-- what stays: the world at first, blocks beside, what models mean -/
structure Ctx where
  I : World
  R : List Grp
  B : BigRep

/-- the groups that an object is in memory -/
def Rep (𝔅 : BigRep) (ρ : Ren) (b : Nat) : SObj → Grp → Prop
  | .cells t cs, G => ∃ g, ∃ c : Array Value, ρ b = some g ∧ G = [(g, .cells c t (0, 0))] ∧ RelL ρ cs c.toList
  | .vec t sz cs cap, G => ∃ z, cap.Is ρ z ∧ cs.length ≤ z * sz ∧ z ≤ maxLen ∧ ((z = 0 ∧ G = []) ∨ ∃ g, ∃ c : Array Value, ρ b = some g ∧ G = [(g, .cells c t (0, 0))] ∧ c.size = z * sz ∧ RelL ρ cs (c.toList.take cs.length))
  | .row t k xs cap, G => xs.length ≤ cap ∧ cap ≤ maxLen ∧ ((cap = 0 ∧ G = []) ∨ ∃ g, ∃ c : Array Value, ρ b = some g ∧ G = [(g, .cells c t (0, 0))] ∧ c.size = cap * k.sz ∧ RelL ρ (xs.flatMap k.enc) (c.toList.take (xs.length * k.sz)))
  | .mp k es, G => ∃ g m, ρ b = some g ∧ MR ρ es m ∧ MapG k.enc g m G
  | .it bm, G => ∃ gi gm x y z, ρ b = some gi ∧ ρ bm = some gm ∧ G = [(gi, .mapIter (some gm) x y z)]
  | .big m, G => ∃ g, ρ b = some g ∧ 𝔅 m g G
  | .gone, G => G = []
def Reps (𝔅 : BigRep) (ρ : Ren) : Heap → List Grp → Prop
  | [], Gs => Gs = []
  | x :: h, Gs => ∃ G r, Gs = G :: r ∧ Rep 𝔅 ρ x.1 x.2 G ∧ Reps 𝔅 ρ h r
/-- the symbolic heap holds -/
def Holds (C : Ctx) (ρ : Ren) (h : Heap) (w : World) : Prop := ∃ Gs, Reps C.B ρ h Gs ∧ Hp C.I w (Gs ++ C.R)

theorem Rep.mono {𝔅 : BigRep} {ρ ρ' : Ren} {b : Nat} (h : ρ.le ρ') {o : SObj} {G : Grp} (r : Rep 𝔅 ρ b o G) : Rep 𝔅 ρ' b o G := by
  cases o with
  | cells t cs =>
    obtain ⟨g, c, e, e2, r⟩ := r
    exact ⟨g, c, h _ _ e, e2, RelL.mono h _ _ r⟩
  | vec t sz cs cap =>
    obtain ⟨z, hi, h1, h2, r⟩ := r
    exact ⟨z, hi.mono h, h1, h2, r.imp id (fun ⟨g, c, e, e2, h3, h4⟩ => ⟨g, c, h _ _ e, e2, h3, RelL.mono h _ _ h4⟩)⟩
  | row t k xs cap =>
    obtain ⟨h1, h2, r⟩ := r
    exact ⟨h1, h2, r.imp id (fun ⟨g, c, e, e2, h3, h4⟩ => ⟨g, c, h _ _ e, e2, h3, RelL.mono h _ _ h4⟩)⟩
  | mp k es =>
    obtain ⟨g, m, e, r, hm⟩ := r
    exact ⟨g, m, h _ _ e, r.mono h, hm⟩
  | it bm =>
    obtain ⟨gi, gm, x, y, z, e1, e2, r⟩ := r
    exact ⟨gi, gm, x, y, z, h _ _ e1, h _ _ e2, r⟩
  | big m => obtain ⟨g, e, r⟩ := r; exact ⟨g, h _ _ e, r⟩
  | gone => exact r
theorem Reps.mono {𝔅 : BigRep} {ρ ρ' : Ren} (h : ρ.le ρ') : ∀ {hp : Heap} {Gs : List Grp}, Reps 𝔅 ρ hp Gs → Reps 𝔅 ρ' hp Gs
  | [], _, r => r
  | _ :: _, _, r => by
    obtain ⟨G, q, e, r1, r2⟩ := r
    exact ⟨G, q, e, r1.mono h, Reps.mono h r2⟩

section
variable {C : Ctx} {w w' : World} {ρ ρ' : Ren} {h : Heap} {b n : Nat} {o o' : SObj}

theorem Reps.focus {𝔅 : BigRep} : ∀ {h : Heap} {Gs : List Grp}, Reps 𝔅 ρ h Gs → h.get b = some o → ∃ pre G post, Gs = pre ++ G :: post ∧ Rep 𝔅 ρ b o G ∧ ∀ ρ' o' G', ρ.le ρ' → Rep 𝔅 ρ' b o' G' → Reps 𝔅 ρ' (h.set b o') (pre ++ G' :: post)
  | [], _, _, hg => by cases hg
  | x :: h, Gs, r, hg => by
    obtain ⟨G, q, rfl, r1, r2⟩ := r
    rw [Heap.get_cons] at hg
    by_cases e : Nat.beq x.1 b = true
    · rw [if_pos e] at hg
      simp only [Option.some.injEq] at hg
      have e' : x.1 = b := Nat.eq_of_beq_eq_true e
      subst hg e'
      refine ⟨[], G, q, rfl, r1, fun ρ' o' G' hl r' => ?_⟩
      rw [Heap.set_cons, if_pos e]
      exact ⟨G', q, rfl, r', r2.mono hl⟩
    · rw [if_neg e] at hg
      obtain ⟨pre, G1, post, rfl, r3, r4⟩ := Reps.focus r2 hg
      refine ⟨G :: pre, G1, post, rfl, r3, fun ρ' o' G' hl r' => ?_⟩
      rw [Heap.set_cons, if_neg e]
      exact ⟨G, _, rfl, r1.mono hl, r4 ρ' o' G' hl r'⟩
/-- one object by itself, and the heap again when it has turned -/
theorem Holds.focus (H : Holds C ρ h w) (hg : h.get b = some o) : ∃ G R', Rep C.B ρ b o G ∧ Hp C.I w (G :: R') ∧ ∀ w' o' G', Rep C.B ρ b o' G' → Hp C.I w' (G' :: R') → Holds C ρ (h.set b o') w' := by
  obtain ⟨Gs, r, hp⟩ := H
  obtain ⟨pre, G, post, rfl, r1, r2⟩ := r.focus hg
  refine ⟨G, pre ++ (post ++ C.R), r1, hp.permG ?_, fun w' o' G' r' hp' => ⟨_, r2 ρ o' G' (.refl _) r', hp'.permG ?_⟩⟩
  · rw [List.append_assoc, List.cons_append]; exact List.perm_middle
  · rw [List.append_assoc, List.cons_append]; exact List.perm_middle.symm
theorem Holds.quiet (H : Holds C ρ h w) (hf : Fr (fun _ => False) w w') : Holds C ρ h w' := by
  obtain ⟨Gs, r, hp⟩ := H; exact ⟨Gs, r, hp.quiet hf⟩
theorem Holds.drew (H : Holds C ρ h w) : Holds C ρ h w.drew := H.quiet (Fr.refl _ w).drew
theorem Holds.mono (hρ : ρ.le ρ') (H : Holds C ρ h w) : Holds C ρ' h w := by
  obtain ⟨Gs, r, hp⟩ := H; exact ⟨Gs, r.mono hρ, hp⟩
/-- with a new object -/
theorem Holds.cons (H : Holds C ρ h w) {G : Grp} (hr : Rep C.B ρ b o G) (hh : ∀ Gs, Hp C.I w (Gs ++ C.R) → Hp C.I w' (G :: (Gs ++ C.R))) : Holds C ρ ((b, o) :: h) w' := by
  obtain ⟨Gs, r, hp⟩ := H
  exact ⟨G :: Gs, ⟨G, Gs, rfl, hr, r⟩, hh Gs hp⟩
def upd (ρ : Ren) (n g : Nat) : Ren := fun b => if b = n then some g else ρ b
theorem upd_at (ρ : Ren) (n g : Nat) : upd ρ n g n = some g := by unfold upd; rw [if_pos rfl]
theorem upd_le {ρ : Ren} {n g : Nat} (h : ρ n = none) : ρ.le (upd ρ n g) := fun b x e => by
  unfold upd
  by_cases hb : b = n
  · subst hb; rw [h] at e; cases e
  · rw [if_neg hb]; exact e
theorem upd_bd {ρ : Ren} {n g : Nat} (h : ρ.bd n) : (upd ρ n g).bd (n + 1) := fun b hb => by
  unfold upd
  rw [if_neg (by omega)]
  exact h b (by omega)
end
end SX
end Go.Proofs.YteicdpgmclbgjaaGreatDoor
