/-
  Part 17 of what the statement leans on: Shelf, Srt, Srs, Jt.
-/
import Derived.Test.YtnjaaagiindclaaGreatDoorPk7
import Derived.Test.YtnjaaagiindclaaGreatDoorPk16
import Derived.Ground.SlsfProg
import Derived.Shelf.SlSortCmp.Whole1
import Derived.Test.YtnjaaagiindclaaGreatDoorRows
/-
  DERIVED: THE SHELF's CONTRACTS AT THIS DUMP, IN PLAIN WORDS (tools/lay-plain.mjs out of 'TryzShelf.lean', which tools/lay-shelf.mjs wrote): THE SAME DECLARATIONS UNDER THE SAME NAMES: 'import', 'namespace', 'open', 'def', 'theorem' AND NOTHING ELSE: no command of the shelf's: FOR A HAND-IN. Each laying: the table of numbers ('.._ren') and one theorem, a field a fact of the dump's own or the kernel's comparison; each contract: ONE APPLICATION.
-/
namespace Go.Proofs
open Go.Shelf
def Tryz.laysSlF6_f78_ren : Go.Shelf.Ren := ⟨fun | 6 => 78 | 15 => 137 | 14 => 136 | 28 => 203 | 29 => 204 | 20 => 195 | 21 => 196 | 22 => 197 | 23 => 198 | 24 => 199 | 25 => 200 | 26 => 201 | 27 => 202 | 46 => 241 | 47 => 242 | 48 => 243 | 49 => 244 | 50 => 245 | 57 => 265 | n => n, fun | 22 => 45 | 24 => 3 | 25 => 124 | 3 => 3 | 39 => 249 | 0 => 0 | 53 => 32 | 55 => 22 | 4 => 4 | 46 => 298 | 45 => 297 | 50 => 233 | 5 => 5 | 9 => 9 | 66 => 334 | 70 => 337 | 76 => 358 | 77 => 359 | n => n, fun | n => n⟩
theorem Tryz.laysSlF6_f78 : Go.Proofs.SlLaysF.n6 Tryz.prog Tryz.laysSlF6_f78_ren := {
  mixed := by kernel_rfl
  f6 := ⟨Tryz.f78.name, by decide, Tryz.func78.trans (congrArg some (by kernel_rfl))⟩
  f14 := ⟨Tryz.f136.name, by decide, Tryz.func136.trans (congrArg some (by kernel_rfl))⟩
  f15 := Tryz.func137.trans (congrArg some (by kernel_rfl))
  f20 := ⟨Tryz.f195.name, by decide, Tryz.func195.trans (congrArg some (by kernel_rfl))⟩
  f21 := ⟨Tryz.f196.name, by decide, Tryz.func196.trans (congrArg some (by kernel_rfl))⟩
  f22 := ⟨Tryz.f197.name, by decide, Tryz.func197.trans (congrArg some (by kernel_rfl))⟩
  f23 := ⟨Tryz.f198.name, by decide, Tryz.func198.trans (congrArg some (by kernel_rfl))⟩
  f24 := ⟨Tryz.f199.name, by decide, Tryz.func199.trans (congrArg some (by kernel_rfl))⟩
  f25 := ⟨Tryz.f200.name, by decide, Tryz.func200.trans (congrArg some (by kernel_rfl))⟩
  f26 := ⟨Tryz.f201.name, by decide, Tryz.func201.trans (congrArg some (by kernel_rfl))⟩
  f27 := ⟨Tryz.f202.name, by decide, Tryz.func202.trans (congrArg some (by kernel_rfl))⟩
  f28 := Tryz.func203.trans (congrArg some (by kernel_rfl))
  f29 := Tryz.func204.trans (congrArg some (by kernel_rfl))
  f46 := ⟨Tryz.f241.name, by decide, Tryz.func241.trans (congrArg some (by kernel_rfl))⟩
  f47 := Tryz.func242.trans (congrArg some (by kernel_rfl))
  f48 := Tryz.func243.trans (congrArg some (by kernel_rfl))
  f49 := ⟨Tryz.f244.name, by decide, Tryz.func244.trans (congrArg some (by kernel_rfl))⟩
  f50 := ⟨Tryz.f245.name, by decide, Tryz.func245.trans (congrArg some (by kernel_rfl))⟩
  f57 := ⟨Tryz.f265.name, by decide, Tryz.func265.trans (congrArg some (by kernel_rfl))⟩
  t0 := Tryz.underlying0
  a0 := Tryz.isAgg0
  z0 := Tryz.sizeOf0
  v0 := Tryz.zeroValue0
  t3 := Tryz.underlying3
  a3 := Tryz.isAgg3
  z3 := Tryz.sizeOf3
  v3 := Tryz.zeroValue3
  t4 := Tryz.underlying4
  a4 := Tryz.isAgg4
  z4 := Tryz.sizeOf4
  v4 := Tryz.zeroValue4
  t5 := Tryz.underlying5
  a5 := Tryz.isAgg5
  z5 := Tryz.sizeOf5
  v5 := Tryz.zeroValue5
  t9 := Tryz.underlying9
  a9 := Tryz.isAgg9
  z9 := Tryz.sizeOf9
  v9 := Tryz.zeroValue9
  t22 := Tryz.underlying45
  a22 := Tryz.isAgg45
  z22 := Tryz.sizeOf45
  v22 := Tryz.zeroValue45
  a24 := Tryz.isAgg3
  z24 := Tryz.sizeOf3
  t25 := Tryz.underlying124
  a25 := Tryz.isAgg124
  z25 := Tryz.sizeOf124
  v25 := Tryz.zeroValue124
  t39 := Tryz.underlying249
  a39 := Tryz.isAgg249
  z39 := Tryz.sizeOf249
  v39 := Tryz.zeroValue249
  t45 := Tryz.underlying297
  a45 := Tryz.isAgg297
  z45 := Tryz.sizeOf297
  v45 := Tryz.zeroValue297
  t46 := Tryz.underlying298
  a46 := Tryz.isAgg298
  z46 := Tryz.sizeOf298
  v46 := Tryz.zeroValue298
  t50 := Tryz.underlying233
  a50 := Tryz.isAgg233
  z50 := Tryz.sizeOf233
  v50 := Tryz.zeroValue233
  t53 := Tryz.underlying32
  a53 := Tryz.isAgg32
  z53 := Tryz.sizeOf32
  v53 := Tryz.zeroValue32
  t55 := Tryz.underlying22
  a55 := Tryz.isAgg22
  z55 := Tryz.sizeOf22
  v55 := Tryz.zeroValue22
  t66 := Tryz.underlying334
  a66 := Tryz.isAgg334
  z66 := Tryz.sizeOf334
  v66 := Tryz.zeroValue334
  t70 := Tryz.underlying337
  a70 := Tryz.isAgg337
  z70 := Tryz.sizeOf337
  v70 := Tryz.zeroValue337
  t76 := Tryz.underlying358
  a76 := Tryz.isAgg358
  z76 := Tryz.sizeOf358
  v76 := Tryz.zeroValue358
  t77 := Tryz.underlying359
  a77 := Tryz.isAgg359
  z77 := Tryz.sizeOf359
  v77 := Tryz.zeroValue359 }
open Go.RowKit Go.Lib Go.Sort in
/-- **slices.SortFunc: WHAT THE ROW HOLDS, TO THE ELEMENT.** (LAID AT THE INSTANCE 'slices.SortFunc[[]int,int]': no walk: one application.) -/
theorem Tryz.slices_SortFunc_eq {α : Type} [Inhabited α] (enc : α → Value) (h1 : OneCell enc) (cf : α → α → Int) (hO : SWO (ltOf cf)) (g : Nat) (cb : Array Value) (blk off cap : Nat) (d : Array α) (w : World) (eg : ∀ args w, (callFunc g args).run Tryz.prog w = .ok (.enter g args) w) (hcmp : CmpLays1 Tryz.prog g cb enc cf blk off d.size w) (hH : Holds enc w blk off d) (hblk : blk < w.heap.size) (hsz : d.size < 4611686018427387904) :
    Calls Tryz.prog 78 #[.slice (some ⟨blk, off, none⟩) d.size cap, .func (.func g) #[] cb] w fun e w' =>
      e = .returned (.tuple #[]) ∧ ∃ n os, w' = sortWorld enc w blk off n (pdq (ltOf cf) d 0 d.size (Lib.bitLen d.size) true true) os := Any.slices_SortFunc_eq Tryz.laysSlF6_f78 enc h1 cf hO g cb blk off cap d w eg hcmp hH hblk hsz
open Go.RowKit Go.Lib Go.Sort in
/-- **slices.SortFunc, IN THE DOCUMENTATION's OWN TERMS: A PERMUTATION OF WHAT THE ROW HELD, SORTED BY 'cmp(a, b) < 0'.** Which of two equals comes first is left open ("The sort is not guaranteed to be stable"). (LAID AT THE INSTANCE 'slices.SortFunc[[]int,int]': no walk: one application.) -/
theorem Tryz.slices_SortFunc {α : Type} [Inhabited α] (enc : α → Value) (h1 : OneCell enc) (cf : α → α → Int) (hO : SWO (ltOf cf)) (g : Nat) (cb : Array Value) (blk off cap : Nat) (d : Array α) (w : World) (eg : ∀ args w, (callFunc g args).run Tryz.prog w = .ok (.enter g args) w) (hcmp : CmpLays1 Tryz.prog g cb enc cf blk off d.size w) (hH : Holds enc w blk off d) (hblk : blk < w.heap.size) (hsz : d.size < 4611686018427387904) :
    Calls Tryz.prog 78 #[.slice (some ⟨blk, off, none⟩) d.size cap, .func (.func g) #[] cb] w fun e w' =>
      e = .returned (.tuple #[]) ∧ ∃ d' n os, PermIn 0 d.size d d' ∧ SortedIn (ltOf cf) 0 d.size d' ∧ w' = sortWorld enc w blk off n d' os := Any.slices_SortFunc Tryz.laysSlF6_f78 enc h1 cf hO g cb blk off cap d w eg hcmp hH hblk hsz
end Go.Proofs

/-
  (*mheap.Heap).Spans: the numbers of all spans, by rising base. Condition: each number's span lies in memory.
-/
namespace Go.Proofs.YtnjaaagiindclaaGreatDoor
open Go.RowKit Go.Deep
/-- a span's base is known -/
def SpanB (w : World) (v : Value) (b : Nat) : Prop := ∃ s z1 z2 z3 z4 z5 z6 z7 z8 z9, v = .pointer (some ⟨s, 0, none⟩) ∧ SpanAt w s (b : Int) z1 z2 z3 z4 z5 z6 z7 z8 z9
theorem SpanAt.blk {w : World} {s : Nat} {z0 z1 z2 z3 : Int} {z4 : Bool} {z5 z6 z7 : Int} {z8 z9 : Bool} (h : SpanAt w s z0 z1 z2 z3 z4 z5 z6 z7 z8 z9) : s < w.heap.size := World.block_lt_of_cell? _ _ h.c0
theorem SpanAt.loc {w w' : World} {s : Nat} {z0 z1 z2 z3 : Int} {z4 : Bool} {z5 z6 z7 : Int} {z8 z9 : Bool} (h : SpanAt w s z0 z1 z2 z3 z4 z5 z6 z7 z8 z9) (e : w'.heap[s]? = w.heap[s]?) : SpanAt w' s z0 z1 z2 z3 z4 z5 z6 z7 z8 z9 where
  c0 := (World.cell?_of_block e).trans h.c0
  c1 := (World.cell?_of_block e).trans h.c1
  c2 := (World.cell?_of_block e).trans h.c2
  c3 := (World.cell?_of_block e).trans h.c3
  c4 := (World.cell?_of_block e).trans h.c4
  c5 := (World.cell?_of_block e).trans h.c5
  c6 := (World.cell?_of_block e).trans h.c6
  c7 := (World.cell?_of_block e).trans h.c7
  c8 := (World.cell?_of_block e).trans h.c8
  c9 := (World.cell?_of_block e).trans h.c9
theorem sort_heap {α : Type} [Inhabited α] (enc : α → Value) (w : World) (g m : Nat) (dk : Array α) (os : Array Obj) {b : Nat} (hb : b < w.heap.size) : (sortWorld enc w g 0 m dk os).heap[b]? = if b = g then (w.heap[b]?).map (Go.Sort.onCells (Go.Sort.putCells enc 0 dk)) else w.heap[b]? := by
  unfold sortWorld
  rw [Go.Sort.heap_grow_old _ _ (by rw [Go.Sort.size_putRow]; exact hb)]
  show (w.heap.modify g _)[b]? = _
  rw [Array.getElem?_modify]
  by_cases e : g = b
  · rw [if_pos e, if_pos e.symm]
  · rw [if_neg e, if_neg (Ne.symm e)]
theorem fr_sort {α : Type} [Inhabited α] (enc : α → Value) (w : World) (g m : Nat) (dk : Array α) (os : Array Obj) : Fr (fun b => b = g) w (sortWorld enc w g 0 m dk os) :=
  ⟨rfl, rfl, rfl, by unfold sortWorld; rw [Go.Sort.size_grow, Go.Sort.size_putRow]; exact Nat.le_add_right _ _, fun b hb hn => by rw [sort_heap _ _ _ _ _ _ hb, if_neg hn]⟩
theorem perm_sub {α : Type} : ∀ {D K : List α}, D.Nodup → (∀ z ∈ D, z ∈ K) → K.length ≤ D.length → D.Perm K
  | [], K, _, _, h => by
    cases K with
    | nil => exact .nil
    | cons a K => simp at h
  | x :: D, K, hD, hs, hl => by
    rw [List.nodup_cons] at hD
    obtain ⟨a, b, rfl⟩ := List.append_of_mem (hs x (by simp))
    have h1 : D.Perm (a ++ b) := perm_sub hD.2 (fun p hp => by
      rcases List.mem_append.1 (hs p (List.mem_cons_of_mem _ hp)) with h | h
      · exact List.mem_append.2 (.inl h)
      · rcases List.mem_cons.1 h with rfl | h
        · exact absurd hp hD.1
        · exact List.mem_append.2 (.inr h)) (by simp only [List.length_append, List.length_cons] at hl ⊢; omega)
    exact (h1.cons x).trans List.perm_middle.symm
theorem cmpI_neg (x y : Nat) : (cmpI x y < 0) ↔ x < y := by
  unfold cmpI
  by_cases h : x < y
  · simp [h]
  · by_cases k : y < x <;> simp [h, k]
theorem swo_base {α : Type} (f : α → Nat) : Go.Sort.SWO (Go.Proofs.ltOf fun x y => cmpI (f x) (f y)) where
  irrefl x := by simp [Go.Proofs.ltOf, cmpI_neg]
  trans x y z h1 h2 := by simp only [Go.Proofs.ltOf, decide_eq_true_eq, cmpI_neg] at h1 h2 ⊢; omega
  ntrans x y z h1 h2 := by simp only [Go.Proofs.ltOf, decide_eq_false_iff_not, cmpI_neg] at h1 h2 ⊢; omega
set_option maxRecDepth 100000 in
set_option maxHeartbeats 4000000 in
theorem spans_any {bh bm : Nat} {es : List (Int × Value)} (w : World) (h4 : w.cell? ⟨bh, 4, none⟩ = some (.map (some bm))) (hm : MapIs intE w bm es) (hl : es.length ≤ 1000000) (hne : 0 < es.length) (base : Int → Nat) (hs : ∀ e ∈ es, SpanB w e.2 (base e.1)) :
    Calls Tryz.prog 33 #[.pointer (some ⟨bh, 0, none⟩)] w fun e w' => ∃ x, e = .returned x ∧ ∃ D : List Int, Fr (fun _ => False) w w' ∧ D.Perm (es.map (·.1)) ∧ D.Pairwise (fun a b => base a ≤ base b) ∧ w'.ownsRow w.heap.size 3 1 x es.length (D.map intE) ∧ ∀ b, x.ownBlock = some b → b ≠ w.heap.size := by
  refine spans_walk (Post := fun x w' => ∃ D : List Int, Fr (fun _ => False) w w' ∧ D.Perm (es.map (·.1)) ∧ D.Pairwise (fun a b => base a ≤ base b) ∧ w'.ownsRow w.heap.size 3 1 x es.length (D.map intE) ∧ ∀ b, x.ownBlock = some b → b ≠ w.heap.size) w h4 hm hl ?_
  intro W x D hf hbx hnd hDl hDs hxb hown
  have hbh : bh < w.heap.size := World.block_lt_of_cell? _ _ h4
  have hbm : bm < w.heap.size := by obtain ⟨_, _, hb, _⟩ := hm; exact lt_blk hb
  obtain ⟨hxl, ⟨rfl, h0⟩ | ⟨gr, cap, cur, rfl, hA, hcur, h1, hmax, hsz, htk⟩⟩ := hown
  · omega
  have hne2 : gr ≠ w.heap.size := hxb gr rfl
  have hgW : gr < W.heap.size := lt_blk hcur
  obtain ⟨α, hα⟩ : ∃ α : Type, α = {z : Int // z ∈ es.map (·.1)} := ⟨_, rfl⟩
  subst hα
  haveI : Inhabited {z : Int // z ∈ es.map (·.1)} := ⟨⟨(es.map (·.1))[0]'(by rw [List.length_map]; exact hne), List.getElem_mem _⟩⟩
  let enc : {z : Int // z ∈ es.map (·.1)} → Value := fun z => intE z.1
  let d : Array {z : Int // z ∈ es.map (·.1)} := (D.attach.map fun z => (⟨z.1, hDs z.1 z.2⟩ : {z : Int // z ∈ es.map (·.1)})).toArray
  have hd1 : d.toList.map (·.1) = D := by simp [d, List.map_map, Function.comp_def]
  have hds : d.size = es.length := by rw [← hDl]; simp [d]
  have eg : ∀ args w, (callFunc 79 args).run Tryz.prog w = .ok (.enter 79 args) w := fun args w => SX.enter_of Tryz.func79 (SX.bodyOf_eq (by kernel_rfl)) (by kernel_rfl) w args
  have hcmp : Go.Proofs.CmpLays1 Tryz.prog 79 #[.pointer (some ⟨w.heap.size, 0, none⟩)] enc (fun x y => cmpI (base x.1) (base y.1)) gr 0 d.size W := by
    intro m os dk _ x y
    have hfs := fr_sort enc W gr m dk os
    have hfw : Fr (fun b => b = gr) w (sortWorld enc W gr 0 m dk os) := (hf.mono fun _ _ h => h.elim).trans hfs (fun _ _ h => h)
    have hold : ∀ b, b < w.heap.size → (sortWorld enc W gr 0 m dk os).heap[b]? = w.heap[b]? := fun b hb => hfw.same b hb (by show b ≠ gr; omega)
    have hbx2 : (sortWorld enc W gr 0 m dk os).heap[w.heap.size]? = some (boxO bh) := hfs.at hbx (Ne.symm hne2)
    have hsp : ∀ z : {z : Int // z ∈ es.map (·.1)}, ∃ s z1 z2 z3 z4 z5 z6 z7 z8 z9, mapGet es z.1 = some (.pointer (some ⟨s, 0, none⟩)) ∧ SpanAt (sortWorld enc W gr 0 m dk os) s (base z.1 : Int) z1 z2 z3 z4 z5 z6 z7 z8 z9 := fun z => by
      obtain ⟨e, he, hez⟩ := List.mem_map.1 z.2
      obtain ⟨s, z1, z2, z3, z4, z5, z6, z7, z8, z9, hv, hsa⟩ := hs e he
      refine ⟨s, z1, z2, z3, z4, z5, z6, z7, z8, z9, ?_, ?_⟩
      · rw [← hez, ← hv]
        exact (mapGet_some hm.nodup).2 he
      · rw [← hez]
        exact hsa.loc (hold s hsa.blk)
    obtain ⟨s1, a1, a2, a3, a4, a5, a6, a7, a8, a9, g1, k1⟩ := hsp x
    obtain ⟨s2, b1, b2, b3, b4, b5, b6, b7, b8, b9, g2, k2⟩ := hsp y
    refine (spcmp_h (sortWorld enc W gr 0 m dk os) (bx := w.heap.size) (g := bh) (bm := bm) (cell_blk hbx2 0) ((World.cell?_of_block (hold bh hbh)).trans h4) (hm.loc (hold bm hbm)) g1 g2 k1 k2).mono ?_
    rintro e w' ⟨rfl, n, os', rfl⟩
    exact ⟨rfl, n, os', rfl⟩
  have hcl : ∀ j, j < d.size → cur[j]? = some (enc d[j]!) ∧ d[j]! = d[j]! := fun j hj => by
    refine ⟨?_, rfl⟩
    have h2 : (cur.toList.take (es.length * 1))[j]? = some (enc d[j]!) := by
      rw [htk, ← hd1, List.map_map, List.getElem?_map, Array.getElem?_toList, getElem!_pos d j hj, Array.getElem?_eq_getElem hj]
      rfl
    rw [List.getElem?_take_of_lt (by omega), Array.getElem?_toList] at h2
    exact h2
  have hH : Go.Sort.Holds enc W gr 0 d := fun j hj => ⟨by rw [Nat.zero_add, cell_blk hcur]; exact (hcl j hj).1, by rw [Nat.zero_add]; exact free_blk hcur j⟩
  have key := Tryz.slices_SortFunc enc (fun x => rfl) (fun (x y : {z : Int // z ∈ es.map (·.1)}) => cmpI (base x.1) (base y.1)) (swo_base fun (x : {z : Int // z ∈ es.map (·.1)}) => base x.1) 79 #[.pointer (some ⟨w.heap.size, 0, none⟩)] gr 0 cap d W eg hcmp hH hgW (by omega)
  rw [hds] at key
  refine key.mono ?_
  rintro e w' ⟨rfl, d', n, os, ⟨hps, _, hpp⟩, hsrt, rfl⟩
  have hps' : d'.size = es.length := hps.trans hds
  have hx1 : d'.extract 0 es.length = d' := by rw [← hps']; simp
  have hx2 : d.extract 0 es.length = d := by rw [← hds]; simp
  rw [hx1, hx2] at hpp
  refine ⟨rfl, d'.toList.map (·.1), ?_, ?_, ?_, ?_, hxb⟩
  · have h2 := (hf.mono (T := fun b => b = gr) fun _ _ h => h.elim).trans (fr_sort enc W gr n d' os) (fun _ _ h => h)
    exact ⟨h2.os, h2.tape, h2.output, h2.size, fun b hb _ => h2.same b hb (by show b ≠ gr; omega)⟩
  · refine (hpp.map _).trans ?_
    rw [hd1]
    exact perm_sub hnd hDs (by rw [List.length_map]; omega)
  · rw [List.pairwise_map, List.pairwise_iff_getElem]
    intro i j hi hj hij
    have h2 := hsrt i j (Nat.zero_le _) hij (by rw [← hps']; simpa using hj)
    simp only [Array.length_toList] at hi hj
    rw [getElem!_pos d' i hi, getElem!_pos d' j hj] at h2
    simp only [Go.Proofs.ltOf, decide_eq_false_iff_not, cmpI_neg] at h2
    simp only [Array.getElem_toList]
    omega
  · refine ⟨by simp [hps'], .inr ⟨gr, cap, Go.Sort.putCells enc 0 d' cur, rfl, hA, ?_, h1, hmax, ?_, ?_⟩⟩
    · rw [sort_heap _ _ _ _ _ _ hgW, if_pos rfl, hcur]
      rfl
    · simpa [Go.Sort.putCells] using hsz
    · apply List.ext_getElem?
      intro i
      by_cases hi : i < es.length
      · rw [List.getElem?_take_of_lt (by omega), Array.getElem?_toList, List.map_map, List.getElem?_map, Array.getElem?_toList]
        unfold Go.Sort.putCells
        rw [Array.getElem?_mapIdx, Array.getElem?_eq_getElem (by omega : i < cur.size), Option.map_some, if_pos ⟨Nat.zero_le _, by omega⟩, Nat.sub_zero, getElem!_pos d' i (by omega), Array.getElem?_eq_getElem (by omega : i < d'.size)]
        rfl
      · rw [List.getElem?_eq_none (by simp; omega), List.getElem?_eq_none (by simp; omega)]
end Go.Proofs.YtnjaaagiindclaaGreatDoor

/-
  SX: Spans, told at once where all spans are known.
-/
namespace Go.Proofs.YtnjaaagiindclaaGreatDoor
open Go.RowKit Go.Deep
namespace SX
noncomputable def basesOf (h : Heap) : List (Int × SV) → Option (List (Int × Nat))
  | [] => some []
  | e :: es => (match spanBase h e.2 with
    | some p => (match basesOf h es with
      | some l => some ((e.1, p.2) :: l)
      | none => none)
    | none => none)
def baseL : List (Int × Nat) → Int → Nat
  | [], _ => 0
  | e :: l, z => if z = e.1 then e.2 else baseL l z
def risB : List (Int × Nat) → Bool
  | [] => true
  | e :: l => (match l with
    | [] => true
    | f :: _ => Nat.blt e.2 f.2) && risB l
def insP (x : Int × Nat) : List (Int × Nat) → List (Int × Nat)
  | [] => [x]
  | y :: l => if Nat.blt x.2 y.2 then x :: y :: l else y :: insP x l
def sortP : List (Int × Nat) → List (Int × Nat)
  | [] => []
  | x :: l => insP x (sortP l)
theorem insP_perm (x : Int × Nat) : ∀ l, (insP x l).Perm (x :: l)
  | [] => .refl _
  | y :: l => by
    unfold insP
    split
    · exact .refl _
    · exact ((insP_perm x l).cons y).trans (.swap ..)
theorem sortP_perm : ∀ l, (sortP l).Perm l
  | [] => .refl _
  | x :: l => (insP_perm x _).trans ((sortP_perm l).cons x)
theorem risB_is : ∀ {l : List (Int × Nat)}, risB l = true → l.Pairwise (fun a b => a.2 < b.2)
  | [], _ => .nil
  | [e], _ => List.pairwise_singleton ..
  | e :: f :: l, h => by
    have h' : (Nat.blt e.2 f.2 && risB (f :: l)) = true := h
    rw [Bool.and_eq_true, Nat.blt_eq] at h'
    have h2 := risB_is h'.2
    refine List.pairwise_cons.2 ⟨fun x hx => ?_, h2⟩
    rcases List.mem_cons.1 hx with rfl | hx
    · exact h'.1
    · exact Nat.lt_trans h'.1 ((List.pairwise_cons.1 h2).1 x hx)
theorem rise_one (f : Int → Nat) : ∀ {l2 l1 : List Int}, l1.Perm l2 → l1.Pairwise (fun a b => f a ≤ f b) → l2.Pairwise (fun a b => f a < f b) → l1 = l2
  | [], l1, h, _, _ => List.Perm.eq_nil h
  | y :: t, [], h, _, _ => by have := h.length_eq; simp at this
  | y :: t, x :: s, h, h1, h2 => by
    rw [List.pairwise_cons] at h1 h2
    by_cases e : x = y
    · subst e
      rw [rise_one f (List.Perm.cons_inv h) h1.2 h2.2]
    · have hx : x ∈ y :: t := h.mem_iff.1 (by simp)
      have hy : y ∈ x :: s := h.mem_iff.2 (by simp)
      rcases List.mem_cons.1 hx with rfl | hx
      · exact absurd rfl e
      rcases List.mem_cons.1 hy with rfl | hy
      · exact absurd rfl e
      have := h1.1 y hy
      have := h2.1 x hx
      omega
theorem basesOf_is {C : Ctx} {ρ : Ren} {h : Heap} {w : World} (H : Holds C ρ h w) : ∀ {es : List (Int × SV)} {bs : List (Int × Nat)} {m : List (Int × Value)}, basesOf h es = some bs → MR ρ es m → (es.map (·.1)).Nodup →
    bs.map (·.1) = es.map (·.1) ∧ ∀ e ∈ m, SpanB w e.2 (baseL bs e.1)
  | [], bs, m, e, r, _ => by
    cases e
    rw [show m = [] from r]
    exact ⟨rfl, fun _ h => by simp at h⟩
  | x :: es, bs, m, e, r, hn => by
    obtain ⟨v, q, rfl, r1, r2⟩ := r
    have e' : (match spanBase h x.2 with
      | some p => (match basesOf h es with
        | some l => some ((x.1, p.2) :: l)
        | none => none)
      | none => none) = some bs := e
    split at e'
    next p hp =>
      split at e'
      next l hl =>
        cases e'
        rw [List.map_cons, List.nodup_cons] at hn
        obtain ⟨h1, h2⟩ := basesOf_is H hl r2 hn.2
        refine ⟨by rw [List.map_cons, List.map_cons, h1], fun e he => ?_⟩
        rcases List.mem_cons.1 he with rfl | he
        · obtain ⟨g, z1, z2, z3, z4, z5, z6, z7, z8, z9, hv, hs⟩ := spanBase_is H hp r1
          refine ⟨g, z1, z2, z3, z4, z5, z6, z7, z8, z9, hv, ?_⟩
          show SpanAt w g ((if x.1 = x.1 then p.2 else baseL l x.1 : Nat) : Int) z1 z2 z3 z4 z5 z6 z7 z8 z9
          rw [if_pos rfl]
          exact hs
        · have hne : e.1 ≠ x.1 := fun e1 => hn.1 (by rw [← MR.keys r2, ← e1]; exact List.mem_map_of_mem he)
          show SpanB w e.2 (if e.1 = x.1 then p.2 else baseL l e.1)
          rw [if_neg hne]
          exact h2 e he
      · cases e'
    · cases e'
theorem baseL_at : ∀ {bs : List (Int × Nat)}, (bs.map (·.1)).Nodup → ∀ e ∈ bs, baseL bs e.1 = e.2
  | x :: bs, hn, e, he => by
    rw [List.map_cons, List.nodup_cons] at hn
    rcases List.mem_cons.1 he with rfl | he
    · exact if_pos rfl
    · show (if e.1 = x.1 then x.2 else baseL bs e.1) = e.2
      rw [if_neg (fun e1 => hn.1 (by rw [← e1]; exact List.mem_map_of_mem he))]
      exact baseL_at hn.2 e he
/-- Spans, where all is known -/
noncomputable def spanRow (args : List SV) (h : Heap) : Option (List Int) := match args with
  | [x] => (match x with
    | .p a f => (match f with
      | .c z => if Nat.beq z 0 then (match h.get a with
        | some o => (match cellsAt 141 o with
          | some cs => if Nat.blt 4 cs.length then (match lget cs 4 with
            | .m b => (match h.get b with
              | some u => (match keysOf u with
                | some ks => if Nat.blt 0 ks.length && Nat.blt ks.length 1000000 then (match basesOf h (entsOf u) with
                  | some bs => (match sortP bs with
                    | [] => none
                    | e :: l => if risB (e :: l) then some (List.map (fun x : Int × Nat => x.1) (e :: l)) else none)
                  | none => none) else none
                | none => none)
              | none => none)
            | _ => none) else none
          | none => none)
        | none => none) else none
      | _ => none)
    | _ => none)
  | _ => none
noncomputable def spanRowB : List SV → Heap → Bool := fun args h => match spanRow args h with | some _ => true | none => false
noncomputable def spSpansN : Spec := fun args h n K => match spanRow args h with
  | some D => K true (.sl true n 1 0 D.length (.o (n + 1) 0)) ((n, .vec 3 1 (rowI D) (.o (n + 1) 0)) :: h) (n + 2)
  | none => .fail 950
theorem spanRow_is {args : List SV} {h : Heap} {D : List Int} (e : spanRow args h = some D) {C : Ctx} {ρ : Ren} {w : World} {vs : Array Value} (hv : RelL ρ args vs.toList) (hH : Holds C ρ h w) :
    Calls Tryz.prog 33 vs w fun e w' => ∃ x, e = .returned x ∧ Fr (fun _ => False) w w' ∧ w'.ownsRow w.heap.size 3 1 x D.length (D.map intE) ∧ D ≠ [] ∧ ∀ b, x.ownBlock = some b → b ≠ w.heap.size := by
  unfold spanRow at e
  split at e <;> try cases e
  split at e <;> try cases e
  split at e <;> try cases e
  split at e <;> try cases e
  split at e <;> try cases e
  split at e <;> try cases e
  split at e <;> try cases e
  split at e <;> try cases e
  split at e <;> try cases e
  split at e <;> try cases e
  split at e <;> try cases e
  split at e <;> try cases e
  split at e <;> try cases e
  split at e <;> try cases e
  rename_i x0 a f0 z hz oo o ho oc cs hcs hlen x4 b hb ou u hu ok ks hks hkl obs bs hbs ol e0 l hsrt hris
  obtain ⟨es, rfl, rfl⟩ := keysOf_is hks
  have ho' := cellsAt_is hcs
  subst ho'
  have hz' := Nat.eq_of_beq_eq_true hz
  subst hz'
  obtain ⟨v1, us, e1, hx, rfl⟩ := hv
  simp only [SV.Rel] at hx
  obtain ⟨g, hg, rfl⟩ := hx
  have e2 : vs = #[.pointer (some ⟨g, 0, none⟩)] := by rw [← Array.toList_inj, e1]; rfl
  subst e2
  obtain ⟨G, R', ⟨g', c, hg', rfl, hc⟩, hp, _⟩ := hH.focus ho
  have eg := hg.symm.trans hg'
  injection eg with eg
  subst eg
  have hlen' : 4 < cs.length := by simpa [Nat.blt_eq] using hlen
  obtain ⟨v4, hv4, hr4⟩ := hc.get? hlen'
  rw [hb] at hr4
  simp only [SV.Rel] at hr4
  obtain ⟨bm, hbm, rfl⟩ := hr4
  obtain ⟨G2, R2, ⟨g2, m2, hg2, hm2, hG2⟩, hp2, _⟩ := hH.focus hu
  have eg := hbm.symm.trans hg2
  injection eg with eg
  subst eg
  obtain ⟨m3, hm3⟩ : ∃ m3 : List (Int × Value), m3 = m2 := ⟨m2, rfl⟩
  subst hm3
  have hkeys : m3.map (·.1) = es.map (·.1) := MR.keys hm2
  have hM : MapIs intE w bm m3 := hp2.map hG2
  have hml : m3.length = es.length := (List.length_map ..).symm.trans ((congrArg List.length hkeys).trans (List.length_map ..))
  rw [Bool.and_eq_true, Nat.blt_eq, Nat.blt_eq] at hkl
  simp only [List.length_map] at hkl
  have hnd : (es.map (·.1)).Nodup := by rw [← hkeys]; exact hM.nodup
  obtain ⟨hb1, hb2⟩ := basesOf_is hH (es := es) hbs hm2 hnd
  refine (spans_any w (by rw [hp.cell 4, ← Array.getElem?_toList, hv4]) hM (by omega) (by omega) (baseL bs) hb2).mono ?_
  rintro e w' ⟨x, rfl, D, hf, hD, hDs, hrow, hxb⟩
  have hpm : ((e0 :: l).map (·.1)).Perm (es.map (·.1)) := by
    rw [← hb1, ← hsrt]
    exact (sortP_perm bs).map _
  have hlp : (e0 :: l).Perm bs := by rw [← hsrt]; exact sortP_perm bs
  have hD2 : D = (e0 :: l).map (·.1) := by
    refine rise_one (baseL bs) (hD.trans (by rw [hkeys]; exact hpm.symm)) hDs ?_
    rw [List.pairwise_map]
    refine (risB_is hris).imp_of_mem ?_
    intro a c ha hc hac
    rw [baseL_at (by rw [hb1]; exact hnd) a (hlp.mem_iff.1 ha), baseL_at (by rw [hb1]; exact hnd) c (hlp.mem_iff.1 hc)]
    exact hac
  have hDl : D.length = m3.length := by rw [hD.length_eq, List.length_map]
  have hE : D = List.map (fun x : Int × Nat => x.1) (e0 :: l) := hD2
  rw [← hE]
  exact ⟨x, rfl, hf, by rw [hDl]; exact hrow, by rw [hE]; simp, hxb⟩
theorem spSpansN_ok (𝔅 : BigRep) : SpecEnters Tryz.prog 𝔅 33 spSpansN where
  enter := enter_of Tryz.func33 (bodyOf_eq (by kernel_rfl)) (by kernel_rfl)
  calls := by
    intro C Q args h n K hB hk ρ w vs hv hH hbd
    unfold spSpansN at hk
    split at hk
    next D hD =>
      refine (spanRow_is hD hv hH).mono ?_
      rintro e w' ⟨x, rfl, hf, ⟨hxl, ⟨rfl, h0⟩ | ⟨gr, cap, cur, rfl, hA, hcur, h1, hmax, hsz, htk⟩⟩, hne, hxb⟩
      · exact absurd (List.length_eq_zero_iff.1 h0) hne
      let ρ2 := upd (upd ρ n gr) (n + 1) cap
      have b1 := upd_bd (g := gr) hbd
      have b2 := upd_bd (g := cap) b1
      have l1 := upd_le (g := gr) (hbd n (Nat.le_refl _))
      have l2 := upd_le (g := cap) (b1 (n + 1) (Nat.le_refl _))
      have hle : ρ.le ρ2 := fun i y e => l2 _ _ (l1 _ _ e)
      have at0 : ρ2 n = some gr := l2 _ _ (upd_at _ _ _)
      have at1 : ρ2 (n + 1) = some cap := upd_at _ _ _
      have hrow : Rep C.B ρ2 n (.vec 3 1 (rowI D) (.o (n + 1) 0)) [(gr, .cells cur 3 (0, 0))] := by
        refine ⟨cap, ⟨cap, at1, rfl⟩, by simp [rowI]; omega, hmax, .inr ⟨gr, cur, at0, rfl, hsz, ?_⟩⟩
        have e3 : (rowI D).length = D.length * 1 := by simp [rowI]
        rw [e3, htk]
        unfold rowI
        exact RelL.map fun z _ => by simp only [SV.Rel, intE]
      have H2 : Holds C ρ2 ((n, .vec 3 1 (rowI D) (.o (n + 1) 0)) :: h) w' := by
        obtain ⟨Gs, hr, hp0⟩ := hH
        refine ⟨_ :: Gs, ⟨_, _, rfl, hrow, hr.mono hle⟩, ?_⟩
        have q0 : Hp C.I w' (Gs ++ C.R) := hp0.quiet hf
        refine ⟨q0.io, ?_, fun y hy => ?_⟩
        · show (([(gr, Obj.cells cur 3 (0, 0))] :: (Gs ++ C.R)).flatten.map Prod.fst).Nodup
          rw [List.flatten_cons, List.map_append]
          show (gr :: (Gs ++ C.R).flatten.map Prod.fst).Nodup
          rw [List.nodup_cons]
          refine ⟨fun hm => ?_, q0.nd⟩
          obtain ⟨y, hy, he⟩ := List.mem_map.1 hm
          have := hp0.lt hy
          omega
        · have hy' : y ∈ [(gr, Obj.cells cur 3 (0, 0))] ++ (Gs ++ C.R).flatten := hy
          rcases List.mem_append.1 hy' with hy | hy
          · rw [List.mem_singleton.1 hy]; exact hcur
          · exact q0.has y hy
      refine ⟨true, _, .sl true n 1 0 D.length (.o (n + 1) 0), _, n + 2, ρ2, rfl, ?_, H2, hle, b2, hk⟩
      simp only [SV.Rel]
      exact ⟨_, cap, rfl, ⟨cap, at1, rfl⟩, h1, fun _ => ⟨gr, at0, fun _ => rfl⟩⟩
    · exact hk.elim
end SX
end Go.Proofs.YtnjaaagiindclaaGreatDoor

/-
  Regions that draw their order, walked by hand: what is taken first, what comes up. No program in sight.
-/
namespace Go.Proofs.YtnjaaagiindclaaGreatDoor
open Go.RowKit Go.Deep
section
variable {P : Program} {ops : Array Oper} {Q : Exit → Act → World → Prop} {md : Region.Mode}
def closedB (md : Region.Mode) (ops : Array Oper) (listed : Array Bool) : Bool := (List.range ops.size).all fun j => !(listed.getD j false) || (match ops[j]? with
  | some o => o.after.all fun e => !Region.binds md e || listed.getD e.on false
  | none => true)
theorem closedB_is {listed : Array Bool} (h : closedB md ops listed = true) : ClosedL md ops listed := by
  intro j o ho hl e he hb
  have hj := (Array.getElem?_eq_some_iff.1 ho).1
  have h1 := List.all_eq_true.1 h j (List.mem_range.2 hj)
  rw [hl, ho] at h1
  simp only [Bool.not_true, Bool.false_or] at h1
  have h2 := Array.all_eq_true'.1 h1 e he
  rw [hb] at h2
  simpa using h2
theorem waits_direct {N i j : Nat} {oj : Oper} (hj : ops[j]? = some oj) (h : waitsT md ops (N + 1) j i = false) : ∀ e ∈ oj.after, Region.binds md e = true → e.on ≠ i := fun e he hb hi => by
  have h1 : waitsT md ops (N + 1) j i = true := by
    simp only [waitsT, hj]
    exact Array.any_eq_true'.2 ⟨e, he, by rw [hb, hi, Nat.beq_refl]; rfl⟩
  rw [h] at h1
  cases h1
theorem wpAnyJ_take {C : World → Prop} {T : Taken} {N i : Nat} {oi : Oper} {v : Value} {fuel : Nat} {listed : Array Bool} {a : Act} {w : World} (hi : ops[i]? = some oi)
    (hs : Region.noSelect ops = true) (hf : Region.free md ops listed i = true) (hr : (Region.ready md ops listed).contains i = true) (hc : closedB md ops listed = true)
    (hQ : ∀ c a w, Q (.panic c) (a.put oi.dst v) w → Q (.panic c) a w) (hy : YieldsIf P ops C oi v a) (hS : C w)
    (h : wpAnyJ P md ops Q (N + 1) ((i, C) :: T) fuel (listed.setIfInBounds i true) (a.put oi.dst v) w) : wpAnyJ P md ops Q (N + 1) T (fuel + 1) listed a w :=
  wpAnyJ_first hi (Region.noSelect_spec hs) hQ fuel listed a w (closedB_is hc) (fun j oj hj hji hl hw => Region.free_spec hi hf j oj hj hji hl (waits_direct hj hw)) (by simpa using hr) hy hS h
theorem wpAnyJ_all {T : Taken} {N : Nat} {rs : List Nat} {fuel : Nat} {listed : Array Bool} {a : Act} {w : World} (hr : Region.ready md ops listed = rs) (hne : rs ≠ [])
    (h : ∀ i ∈ rs, wpOp P ops Q i (fun a' w' => (∀ k ∈ T, waitsT md ops N i k.1 = false → k.2 w → k.2 w') ∧ wpAnyJ P md ops Q N T fuel (listed.setIfInBounds i true) a' w') a w) : wpAnyJ P md ops Q N T (fuel + 1) listed a w :=
  ⟨fun h0 => absurd (hr ▸ h0) hne, hr ▸ h⟩
theorem wpAnyJ_done {T : Taken} {N : Nat} {a : Act} {w : World} {listed : Array Bool} (hr : Region.ready md ops listed = []) (h : Q .normal a w) : wpAnyJ P md ops Q N T 0 listed a w := ⟨hr, h⟩
theorem wpOp_gen {i : Nat} {o : Oper} {K : Act → World → Prop} {a : Act} {w : World} (hi : ops[i]? = some o) (hw : Region.wanted o (yielded ops a.tmps) = true) (h : ∀ K', (∀ a w, K a w → K' a w) → o.wp P a w K' Q) : wpOp P ops Q i K a w := by
  unfold wpOp
  rw [hi]
  simp only
  rw [if_pos hw]
  exact .inl (h K fun _ _ h => h)
/-- what has been taken by one condition lasts where that holds -/
theorem lasts {T : Taken} {N i : Nat} {S : World → Prop} {w w' : World} (hT : ∀ k ∈ T, k.2 = S) (h : S w') : ∀ k ∈ T, waitsT md ops N i k.1 = false → k.2 w → k.2 w' := fun k hk _ _ => by
  rw [hT k hk]
  exact h
/-- what waits for all that has been taken may turn it -/
theorem lasts_no {T : Taken} {N i : Nat} {w w' : World} (h : (T.all fun k => waitsT md ops N i k.1) = true) : ∀ k ∈ T, waitsT md ops N i k.1 = false → k.2 w → k.2 w' := fun k hk h1 _ => by
  have h2 := List.all_eq_true.1 h k hk
  rw [h1] at h2
  cases h2
end
end Go.Proofs.YtnjaaagiindclaaGreatDoor
