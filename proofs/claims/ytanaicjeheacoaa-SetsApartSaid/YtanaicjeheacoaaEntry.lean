/-
  m[k] = v as a step of an assignment of more than one: the entry is made, then stored to. No program in sight.
-/
import Derived.Test.YtanaicjeheacoaaTurn
namespace Go.Proofs.Ytanaicjeheacoaa
open Go.RowKit

/-- the map in block b holds m, and an entry of the stamp st for k behind it -/
def Made {κ : Type} (enc : κ → Value) (w : World) (b : Nat) (m : List (κ × Value)) (k : κ) (z : Value) (st : Value) : Prop :=
  ∃ (es : Array MapEntry) (clock : Nat), w.heap[b]? = some (.map (es.push { key := enc k, val := z, born := clock }) (clock + 1)) ∧ es.toList.map (fun e => (e.key, e.val)) = m.map (fun p => (enc p.1, p.2)) ∧ (m.map (·.1)).Nodup ∧ (es.toList.map (·.born)).Nodup ∧ (∀ e ∈ es.toList, e.born < clock) ∧ st = goInt clock

section
variable {P : Program} {kt et t : TypeId} {κ : Type} [DecidableEq κ] {enc : κ → Value}

omit [DecidableEq κ] in
theorem Made.fr {S : Nat → Prop} {w w' : World} {b : Nat} {m : List (κ × Value)} {k : κ} {z st : Value} (h : Made enc w b m k z st) (hf : Fr S w w') (hs : ¬ S b) : Made enc w' b m k z st := by
  obtain ⟨es, c, h1, h2⟩ := h
  exact ⟨es, c, hf.at h1 hs, h2⟩

theorem run_map_entry_new (L : KeyLaw P kt enc) (ht : P.underlying t = some (.map kt et)) {w : World} {b : Nat} {m : List (κ × Value)} (h : MapIs enc w b m) (k : κ) (hk : k ∉ m.map (·.1)) (z : Value) (hz : (zeroValue et).run P w = .ok z w) :
    ∃ st w', (Instr.mapEntry t (.map (some b)) (enc k)).run P w = .ok (.tuple #[z, st]) w' ∧ Made enc w' b m k z st ∧ Fr (fun x => x = b) w w' := by
  obtain ⟨es, clock, hb, hes, hn, hbn, hbl⟩ := h
  have hp := posOf_none.2 hk
  refine ⟨goInt clock, put w b (.map (es.push { key := enc k, val := z, born := clock }) (clock + 1)), ?_, ⟨es, clock, heap_put hb, hes, hn, hbn, hbl, rfl⟩, fr_put w b _⟩
  unfold Instr.mapEntry
  simp only [Sem.run_bind, run_underlying ht, Result.andThen, getObj_map hb, L.check, find_at L hes k w, hp, Option.bind_none, hz]
  simp [setObj_map _ hb]

theorem run_entry_store (t : TypeId) {w : World} {b : Nat} {m : List (κ × Value)} {k : κ} {z st : Value} (h : Made enc w b m k z st) (hk : k ∉ m.map (·.1)) (v : Value) :
    ∃ w', (Instr.entryStore t (.map (some b)) st v).run P w = .ok () w' ∧ MapIs enc w' b (mapSet m k v) ∧ Fr (fun x => x = b) w w' := by
  obtain ⟨es, clock, hb, hes, hn, hbn, hbl, rfl⟩ := h
  have hfind : (es.push { key := enc k, val := z, born := clock }).findIdx? (fun e => (e.born : Int) == (clock : Int)) = some es.size := by
    rw [Array.findIdx?_push]
    have : es.findIdx? (fun e => (e.born : Int) == (clock : Int)) = none := by
      rw [Array.findIdx?_eq_none_iff]
      intro e he
      have := hbl e (by simpa using he)
      simp only [beq_eq_false_iff_ne]; omega
    rw [this]; simp
  have hmod : (es.push { key := enc k, val := z, born := clock }).modify es.size (fun e => { e with val := v }) = es.push { key := enc k, val := v, born := clock } := by
    apply Array.ext_getElem?
    intro i
    simp only [Array.getElem?_modify, Array.getElem?_push]
    by_cases hi : i = es.size
    · subst hi; simp
    · simp [hi, Ne.symm hi]
  rw [mapSet_new hk]
  refine ⟨put w b (.map (es.push { key := enc k, val := v, born := clock }) (clock + 1)), ?_, ⟨_, _, heap_put hb, ?_, ?_, ?_, ?_⟩, fr_put w b _⟩
  · unfold Instr.entryStore
    simp only [Sem.run_bind, getObj_map hb, Result.andThen, goInt, asInt, asIntOf, Sem.run_pure, hfind, hmod]
    simp [setObj_map _ hb]
  · simp [hes]
  · simp only [List.map_append, List.map_cons, List.map_nil, List.nodup_append, List.nodup_cons, List.not_mem_nil, not_false_eq_true, List.nodup_nil, and_self, List.mem_singleton]
    refine ⟨hn, trivial, ?_⟩
    rintro a ha x rfl rfl
    exact hk ha
  · simp only [Array.toList_push, List.map_append, List.map_cons, List.map_nil, List.nodup_append, List.nodup_cons, List.not_mem_nil, not_false_eq_true, List.nodup_nil, and_self, List.mem_singleton]
    refine ⟨hbn, trivial, ?_⟩
    rintro a ha x rfl rfl
    obtain ⟨e, he, he2⟩ := List.mem_map.1 ha
    have := hbl e he; omega
  · intro e he
    simp only [Array.toList_push, List.mem_append, List.mem_singleton] at he
    rcases he with he | rfl
    · have := hbl e he; omega
    · simp
end
end Go.Proofs.Ytanaicjeheacoaa
