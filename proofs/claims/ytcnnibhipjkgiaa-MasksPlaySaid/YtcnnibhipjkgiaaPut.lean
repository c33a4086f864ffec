/-
  put: the walk.
-/
import Derived.Test.YtcnnibhipjkgiaaCut
import Derived.Deep.RegionWith
import Derived.Deep.RegionLaw
namespace Go.Proofs.Ytcnnibhipjkgiaa
open Go.RowKit Go.Deep

/-- how put's loop stands: pre is kept, done is cut, todo comes -/
structure Cutting (w0 w : World) (L pre done todo : List PV) (a b : Nat) (l r : Value) : Prop where
  own : Own2 w0 w l (pre ++ done.flatMap (cutLv a)) r (done.flatMap (cutRv b))
  all : L = pre ++ (done ++ todo)
  lo : ∀ x ∈ done, x.1.from_ < b

theorem Cutting.bounds {w0 w : World} {L pre done todo : List PV} {a b : Nat} {l r : Value} (h : Cutting w0 w L pre done todo a b l r) (ho : (L.map (·.1)).Pairwise (fun x y => x.to_ ≤ y.from_)) (hm : ∀ x ∈ done ++ todo, a < x.1.to_) :
    (done.flatMap (cutLv a)).length ≤ 1 ∧ (done.flatMap (cutRv b)).length ≤ 1 ∧ pre.length + done.length ≤ L.length := by
  rw [h.all, List.pairwise_map] at ho
  have h1 := (List.pairwise_append.1 (List.pairwise_append.1 ho).2.1).1
  refine ⟨(cutLv_len h1 (fun x hx => hm x (by simp [hx]))).1, (cutRv_len h1 h.lo).1, ?_⟩
  rw [h.all]; simp

theorem later {L done todo : List PV} {r a : Nat} (hrl : r ≤ L.length) (hall : L = L.take r ++ (done ++ todo)) (hr3 : ∀ i x, r ≤ i → L[i]? = some x → a < x.1.to_) : ∀ x ∈ done ++ todo, a < x.1.to_ := by
  intro x hx
  obtain ⟨j, hj⟩ := List.mem_iff_getElem?.1 hx
  refine hr3 (r + j) x (by omega) ?_
  have hl : (L.take r).length = r := by rw [List.length_take, Nat.min_eq_left hrl]
  rw [hall, List.getElem?_append_right (by omega), hl, show r + j - r = j from by omega]; exact hj

theorem one_of {F : Nat → Prop} {w : World} {v : Value} {f : Fm} (h : FormAt F w v f) (p q o : Nat) : ones [(⟨p, q, o, f⟩, v)] := ones_of (F := F) (w := w) (fun y hy => by simp only [List.mem_singleton] at hy; subst hy; exact h)

theorem Cutting.step {w0 w : World} {L pre done todo xs ys : List PV} {x : PV} {a b : Nat} {l r l' r' : Value} (h : Cutting w0 w L pre done (x :: todo) a b l r) (hb : x.1.from_ < b) {w' : World} (ho : Own2 w0 w' l' ((pre ++ done.flatMap (cutLv a)) ++ xs) r' (done.flatMap (cutRv b) ++ ys)) (hx : cutLv a x = xs) (hy : cutRv b x = ys) : Cutting w0 w' L pre (done ++ [x]) todo a b l' r' := by
  refine ⟨?_, by rw [h.all]; simp, fun y hy => ?_⟩
  · rw [List.flatMap_append, List.flatMap_append, List.flatMap_cons, List.flatMap_cons, List.flatMap_nil, List.flatMap_nil, List.append_nil, List.append_nil, hx, hy, ← List.append_assoc]
    exact ho
  · rcases List.mem_append.1 hy with hy | hy
    · exact h.lo y hy
    · simp only [List.mem_singleton] at hy; subst hy; exact hb

theorem form_iface {F : Nat → Prop} {w : World} {v : Value} {f : Fm} (h : FormAt F w v f) : ∃ t u, v = .iface t u := by
  cases f with
  | none => obtain rfl := h; exact ⟨_, _, rfl⟩
  | place bs => obtain ⟨a, c, rfl, _⟩ := h; exact ⟨_, _, rfl⟩
  | things bs n => obtain ⟨a, c, a', c', rfl, _⟩ := h; exact ⟨_, _, rfl⟩

theorem Is.rd_of {F : Nat → Prop} {w : World} {m cl : Nat} {al : Option Addr} {L : List PV} (h : Is w m L F) (hc : w.cell? ⟨m, 0, none⟩ = some (.slice al L.length cl)) : RdF F w 4 (.slice al L.length cl) L.length (L.flatMap pcc) := by
  obtain ⟨a, c, h1, h2⟩ := h.row
  have := cell_blk h1 0
  rw [hc] at this
  rw [Option.some.inj this]; exact h2

/-- how put's loop has ended -/
structure Ended (w0 w : World) (m : Nat) (L pre done todo : List PV) (F : Nat → Prop) (a b : Nat) (l r sv : Value) (al : Option Addr) (cl q : Nat) : Prop where
  cut : Cutting w0 w L pre done todo a b l r
  fit : (pre ++ done.flatMap (cutLv a)).length ≤ 1000002 ∧ (done.flatMap (cutRv b)).length ≤ 1 ∧ todo.length ≤ 1000000
  post : ∀ x ∈ todo, b ≤ x.1.from_
  pre_ : ∀ x ∈ pre, x.1.to_ ≤ a
  mid : ∀ x ∈ done ++ todo, a < x.1.to_
  run : ∀ W, (Instr.slice 51 (.slice al L.length cl) (some (.int .i64 (q : Nat))) none none).run Try.prog W = .ok sv W
  rd : ∀ W, Fr (fun _ => False) w0 W → Rd W 4 sv todo.length (todo.flatMap pcc)
  root : ∀ W, Fr (fun _ => False) w0 W → W.cell? ⟨m, 0, none⟩ = some (.slice al L.length cl) ∧ W.frozen? ⟨m, 0, none⟩ = false
  on1 : ones (done.flatMap (cutRv b)) ∧ ones todo

theorem ended {F : Nat → Prop} {w0 w : World} {m a b r cl : Nat} {L done todo : List PV} {l rv : Value} {al : Option Addr} (H : Is w0 m L F) (h : Cutting w0 w L (L.take r) done todo a b l rv) (hn : L.length ≤ 1000000) (hrl : r ≤ L.length)
    (hr2 : ∀ i x, i < r → L[i]? = some x → x.1.to_ ≤ a) (hr3 : ∀ i x, r ≤ i → L[i]? = some x → a < x.1.to_) (hc : w.cell? ⟨m, 0, none⟩ = some (.slice al L.length cl)) (hle : L.length ≤ cl) (hpost : ∀ x ∈ todo.head?, b ≤ x.1.from_) : ∃ sv, Ended w0 w m L (L.take r) done todo F a b l rv sv al cl (r + done.length) := by
  obtain ⟨i0, hi, hz0, hz1, hz2⟩ := info_parts Try.infoPiece
  have hlt := later hrl h.all hr3
  have BD := h.bounds H.rows.ord hlt
  have hl : (L.take r).length = r := by rw [List.length_take, Nat.min_eq_left hrl]
  have hlen : L.length = r + done.length + todo.length := by
    have := congrArg List.length h.all
    rw [List.length_append, List.length_append, hl] at this
    omega
  have hdrop : L.drop (r + done.length) = todo := by
    have e : L = (L.take r ++ done) ++ todo := by rw [List.append_assoc]; exact h.all
    have hl2 : (L.take r ++ done).length = r + done.length := by rw [List.length_append, hl]
    conv => lhs; rw [e]
    rw [← hl2, List.drop_left]
  have hroot : ∀ W, Fr (fun _ => False) w0 W → W.cell? ⟨m, 0, none⟩ = some (.slice al L.length cl) ∧ W.frozen? ⟨m, 0, none⟩ = false := fun W hW => by
    obtain ⟨a1, c1, h1, _⟩ := H.row
    have h2 := cell_blk (h.own.fr.at h1 (fun x => x)) 0
    rw [hc] at h2
    have h3 := hW.at h1 (fun x => x)
    exact ⟨(cell_blk h3 0).trans h2.symm, free_blk h3 0⟩
  refine ⟨_, h, ⟨by rw [List.length_append]; omega, BD.2.1, by omega⟩, ?_, fun x hx => ?_, hlt, run_from (P := Try.prog) 51 61 i0 Try.underlying51 hi 4 hz1 al L.length cl .i64 (r + done.length) (by omega) hle, fun W hW => ?_, fun W hW => ?_, ones_of (F := F) (w := w0) (fun x hx => ?_), ones_of (F := F) (w := w0) (fun x hx => H.forms x (by rw [h.all]; simp [hx]))⟩
  · have ho := H.rows.ord
    have hok := H.rows.ok
    rw [h.all] at ho hok
    rw [List.pairwise_map] at ho
    have ho := (List.pairwise_append.1 (List.pairwise_append.1 ho).2.1).2.1
    intro x hx
    cases todo with
    | nil => simp at hx
    | cons y todo =>
      have h1 := hpost y rfl
      rcases List.mem_cons.1 hx with rfl | hx
      · exact h1
      · have h2 := (List.pairwise_cons.1 ho).1 x hx
        have h3 := hok y.1 (List.mem_map_of_mem (by simp))
        omega
  · obtain ⟨i, hi⟩ := List.mem_iff_getElem?.1 hx
    rw [List.getElem?_take] at hi
    split at hi
    · exact hr2 i x (by assumption) hi
    · cases hi
  · have h2 := ((H.quiet hW).rd_of (hroot W hW).1).1
    have h3 := h2.from (k := r + done.length) (by omega)
    rw [flat_drop pcc_len _ _ (by omega), hdrop] at h3
    rw [show todo.length = L.length - (r + done.length) by omega]
    exact h3
  · exact hroot W hW
  · obtain ⟨y, hy, e1, e2⟩ := mem_cutRv hx
    rw [e1, e2]
    exact H.forms y (by rw [h.all]; simp [hy])

theorem own_form {w0 w : World} {l r : Value} {xs ys : List PV} (h : Own2 w0 w l xs r ys) : ∃ al n cl, l = .slice al n cl ∧ Hid (n = xs.length) := by
  obtain ⟨al, cl, h1⟩ := ownsRow_form h.rowL
  exact ⟨al, _, cl, h1, Lib.hid rfl⟩

theorem is_none (w : World) : (Instr.typeAssert (.iface 65 (.agg #[])) 57 65 true).run Try.prog w = .ok (.tuple #[.agg #[], .bool true]) w := by kernel_rfl
theorem is_place (v : Value) (w : World) : (Instr.typeAssert (.iface 67 v) 57 65 true).run Try.prog w = .ok (.tuple #[.agg #[], .bool false]) w := by kernel_rfl
theorem is_things (v : Value) (w : World) : (Instr.typeAssert (.iface 69 v) 57 65 true).run Try.prog w = .ok (.tuple #[.agg #[], .bool false]) w := by kernel_rfl

/-- what put leaves -/
def PutPost (L : List PV) (F G : Nat → Prop) (m a b : Nat) (f : Fm) (w : World) (e : Ending) (w' : World) : Prop :=
  e = .returned (.tuple #[]) ∧ ∃ L' F', Hid (Is w' m L' F') ∧ Hid (∀ z, sem (L'.map (·.1)) z = if a ≤ z ∧ z < b then f.at (z - a) else sem (L.map (·.1)) z) ∧ L'.length ≤ L.length + 2 ∧ Hid (Fr (fun b => b = m) w w') ∧ Hid (∀ x, F' x → F x ∨ G x ∨ w.heap.size ≤ x)

theorem put_done {F G : Nat → Prop} {m a b : Nat} {L pre mid post : List PV} {f : Fm} {v : Value} {w w1 w2 : World} {l : Value} {al : Option Addr} {c : Nat} (h : Is w m L F) (hf : FormAt G w v f) (hG : ∀ x, G x → x < w.heap.size ∧ x ≠ m) (hab : a < b) (hb : b ≤ 35184372088832)
    (hall : L = pre ++ (mid ++ post)) (hpre : ∀ x ∈ pre, x.1.to_ ≤ a) (hmid : ∀ x ∈ mid ++ post, a < x.1.to_) (hlo : ∀ x ∈ mid, x.1.from_ < b) (hpost : ∀ x ∈ post, b ≤ x.1.from_)
    (hl : l = .slice al (putPvs pre mid post a b f v).length c) (ho : w1.ownsRow 0 61 4 l (putPvs pre mid post a b f v).length ((putPvs pre mid post a b f v).flatMap pcc)) (hlb : ∀ g, l.ownBlock = some g → w.heap.size ≤ g)
    (hfr : Fr (fun _ => False) w w1) (h2 : w2 = w1.setCell ⟨m, 0, none⟩ l) : PutPost L F G m a b f w (.returned (.tuple #[])) w2 := by
  have hf2 : Fr (fun x => x = m) w1 w2 := by rw [h2]; exact (Fr.refl _ w1).setCell _ _ (.inl rfl)
  have hfw : Fr (fun x => x = m) w w2 := (hfr.mono (fun _ _ x => x.elim)).trans hf2 (fun _ _ x => x)
  have hsz := hfw.size
  obtain ⟨a0, c0, hr0, _⟩ := h.row
  have hmw := lt_blk hr0
  have h1m := hfr.at hr0 (fun x => x)
  have hall' : L = pre ++ mid ++ post := by rw [hall]; simp
  have hfl := hfr.size
  refine ⟨rfl, putPvs pre mid post a b f v, fun x => F x ∨ G x ∨ (w.heap.size ≤ x ∧ x < w2.heap.size), Lib.hid ⟨⟨al, c, ?_, ?_⟩, fun x hx => ?_, ?_, fun hm => ?_, fun x hx => ?_⟩, Lib.hid (fun z => ?_), ?_, Lib.hid hfw, Lib.hid (fun x hx => ?_)⟩
  · rw [h2, ← hl, heap_setCell_at h1m]; rfl
  · rw [← hl]
    have ho2 : w2.ownsRow 0 61 4 l (putPvs pre mid post a b f v).length ((putPvs pre mid post a b f v).flatMap pcc) := owns_keep ho hf2 (fun g hg e => by have := hlb g hg; omega)
    refine ⟨ownsRow_rd ho2, fun ad n' c' hv => .inr (.inr ?_)⟩
    have hob : l.ownBlock = some ad.block := by rw [hv]; rfl
    exact ⟨hlb _ hob, owns_lt ho2 hob⟩
  · rcases putPvs_forms hx with ⟨y, hy, e1, e2⟩ | ⟨e1, e2⟩
    · rw [← hall'] at hy
      rw [e1, e2]
      exact ((h.forms y hy).fr hfw (fun b hb e => by subst e; exact h.own hb)).mono (fun b hb => .inl hb)
    · rw [e1, e2]
      exact (hf.fr hfw (fun b hb e => (hG b hb).2 e)).mono (fun b hb => .inr (.inl hb))
  · rw [putPvs_fst]
    refine Rows.put (by have := h.rows; rw [hall', List.map_append, List.map_append] at this; exact this) hab hb (fun x hx => ?_) (fun x hx => ?_) (fun x hx => ?_)
    · obtain ⟨y, hy, rfl⟩ := List.mem_map.1 hx; exact hpre y hy
    · obtain ⟨y, hy, rfl⟩ := List.mem_map.1 hx; exact ⟨hmid y (by simp [hy]), hlo y hy⟩
    · obtain ⟨y, hy, rfl⟩ := List.mem_map.1 hx; exact hpost y hy
  · rcases hm with hm | hm | hm
    · exact h.own hm
    · exact (hG m hm).2 rfl
    · omega
  · rcases hx with hx | hx | hx
    · have := h.lt x hx; omega
    · have := (hG x hx).1; omega
    · exact hx.2
  · rw [putPvs_fst, sem_put hab (fun x hx => ?_) (fun x hx => ?_) (fun x hx => ?_), hall', List.map_append, List.map_append]
    · obtain ⟨y, hy, rfl⟩ := List.mem_map.1 hx; exact hpre y hy
    · obtain ⟨y, hy, rfl⟩ := List.mem_map.1 hx; exact ⟨hmid y (by simp [hy]), hlo y hy⟩
    · obtain ⟨y, hy, rfl⟩ := List.mem_map.1 hx; exact hpost y hy
  · rw [hall']
    refine putPvs_len ?_ (fun x hx => ⟨hmid x (by simp [hx]), hlo x hx⟩)
    have := h.rows.ord
    rw [hall, List.pairwise_map] at this
    exact (List.pairwise_append.1 (List.pairwise_append.1 this).2.1).1
  · rcases hx with hx | hx | hx
    · exact .inl hx
    · exact .inr (.inl hx)
    · exact .inr (.inr hx.1)

set_option maxRecDepth 20000 in
set_option maxHeartbeats 4000000 in
theorem put_any {F G : Nat → Prop} {m : Nat} {L : List PV} (w : World) (h : Is w m L F) (a b : Nat) (v : Value) (f : Fm) (hf : FormAt G w v f) (hG : ∀ x, G x → x < w.heap.size ∧ x ≠ m) (hab : a < b) (hb : b ≤ 35184372088832) (hn : L.length ≤ 1000000) :
    Calls Try.prog 17 #[.pointer (some ⟨m, 0, none⟩), .int .u64 a, .int .u64 b, v] w (PutPost L F G m a b f w) := by
  have hat := Lib.hid (at_any w h a hn)
  have H := Lib.hid h
  have HF := Lib.hid (And.intro hf hG)
  obtain ⟨i0, hi, hz0, hz1, hz2⟩ := info_parts Try.infoPiece
  clear h hf hG
  go_enter Try.func17, Try.ntmps17
  go_wp2_with (first | (go_at_call 19; refine hat.out.mono ?_; rintro e w1 ⟨r, rfl, hr, hf1⟩; obtain ⟨al, cl, hp, hle, hpc⟩ := (H.out.quiet hf1.out).piece; have PC := Lib.hid (And.intro hle hpc); have hp2 := cell_through ((Fr.refl (fun _ => False) w1).alloc (.cells #[] 61)) hp (fun x => x); have hrl := hr.out.1; have s1 := run_to (P := Try.prog) 51 61 i0 Try.underlying51 hi al L.length cl .i64 r (Nat.le_trans hrl hle); clear hle hpc) | (at_builtin; refine wpList_left (w0 := w) (l := .slice (some ⟨w1.heap.size, 0, none⟩) 0 0) (r := .slice none 0 0) (xs := []) (ys := []) (zs := L.take r) rfl _ _ rfl rfl rfl ?c1 ?c2 ?c3 ?c4 ?_))
  case c1 =>
    have hs := hf1.out.size
    exact ⟨ownsRow_empty 4 (by rw [heap_alloc]; exact if_pos rfl) (Nat.zero_le _), World.ownsRow_nil _ _ _ _, fun g hg => by simp only [Value.ownBlock, Option.some.injEq] at hg; omega, by simp [Value.ownBlock], by simp [Value.ownBlock], hf1.out.alloc _⟩
  case c2 =>
    obtain ⟨a', c', hrow, hrd⟩ := (H.out.quiet hf1.out).row
    have e : Value.slice al L.length cl = .slice a' L.length c' := by
      have := cell_blk hrow 0
      rw [hp] at this
      exact Option.some.inj this
    simp only [Value.slice.injEq] at e
    obtain ⟨rfl, _, rfl⟩ := e
    have h2 := (hrd.1.fr (S := fun _ => False) ((Fr.refl _ w1).alloc (.cells #[] 61)) (fun _ _ x => x)).to hrl
    rw [flat_take pcc_len _ _ hrl] at h2
    rw [List.length_take, Nat.min_eq_left hrl]; exact h2
  case c3 => exact ones_of (F := F) (w := w) (fun x hx => H.out.forms x (List.mem_of_mem_take hx))
  case c4 => rw [List.length_take]; simp; omega
  intro l w2 ho2 hf2
  clear s1 hp hp2 hi hz0 hz1 hz2
  have O2 := Lib.hid (And.intro ho2 hf2)
  clear ho2 hf2
  go_wp2_with fail
  go_loopg [9, 10, 11] L.length (fun kk k l1 r1 wr => ∃ done todo : List PV, k = .int .i64 ((r + done.length : Nat) : Nat) ∧ Hid (Cutting w wr L (L.take r) done todo a b l1 r1 ∧ todo.length ≤ kk))
  case atStart =>
    refine ⟨[], L.drop r, by simp, Lib.hid ⟨⟨?_, by simp, by simp⟩, by simp⟩⟩
    simpa using O2.out.1
  case round =>
    obtain ⟨done, todo, rfl, HC⟩ := hrel
    obtain ⟨al', cl', hp, hle, hpc⟩ := (H.out.quiet HC.out.1.own.fr).piece
    have hall := HC.out.1.all
    have hqt : (L.take r).length = r := by rw [List.length_take, Nat.min_eq_left hrl]
    have hlen : L.length = r + done.length + todo.length := by
      have := congrArg List.length hall
      rw [List.length_append, List.length_append, hqt] at this
      omega
    cases todo with
    | nil =>
      have hk : r + done.length = L.length := by simp at hlen; omega
      have EN := ended H.out HC.out.1 hn hrl hr.out.2.1 hr.out.2.2 hp hle (by simp)
      obtain ⟨sv, EN⟩ := EN
      obtain ⟨q, hq⟩ : ∃ q, q = r + done.length := ⟨_, rfl⟩
      rw [← hq] at EN hk ⊢
      have run2 := EN.run
      have E := Lib.hid EN
      have hmw : m < w.heap.size := by obtain ⟨_, _, h1, _⟩ := H.out.row; exact lt_blk h1
      have HM := Lib.hid hmw
      have hnk : ¬ q < L.length := by omega
      clear EN hq hall hqt hlen hle hpc hmw hk
      cases f with
      | none =>
        obtain rfl : v = .iface 65 (.agg #[]) := HF.out.1
        have ta := is_none
        go_wp2_with fail
        obtain ⟨W, hW⟩ : ∃ W, W = wr.alloc (.cells #[] 65) := ⟨_, rfl⟩
        rw [← hW]
        have O3 : Hid (Own2 w W.drew u10 (L.take r ++ done.flatMap (cutLv a)) u11 (done.flatMap (cutRv b))) := Lib.hid (by rw [hW]; exact E.out.cut.own.quiet ((Fr.refl _ wr).alloc _).drew)
        obtain ⟨f1, f2⟩ := E.out.root W (by rw [hW]; exact E.out.cut.own.fr.alloc _)
        clear hW hp
        go_region_law ((first
          | (refine step_plain (by rfl) (wp_left (w0 := w) (l := .slice al4 n4 cl4) (r := u11) (xs := L.take r ++ done.flatMap (cutLv a) ++ done.flatMap (cutRv b)) (ys := done.flatMap (cutRv b)) (zs := ([] : List PV)) _ _ (by rfl) (by simp [go_sem]) (by simp [go_sem]) O4.out (E.out.rd _ O4.out.fr) E.out.on1.2 (by have := E.out.fit; simp only [List.length_append, List.length_cons, List.length_nil] at this ⊢; omega) ?_); intro l5 w5 ho5 hf5; obtain ⟨al5, n5, cl5, he5, hn5⟩ := own_form ho5; subst he5; have O5 := Lib.hid ho5; obtain ⟨i1, i2⟩ := E.out.root _ O5.out.fr; clear ho5 hf5)
          | (refine step_plain (by rfl) (wp_left (w0 := w) (l := u10) (r := u11) (xs := L.take r ++ done.flatMap (cutLv a)) (ys := done.flatMap (cutRv b)) (zs := done.flatMap (cutRv b)) _ _ (by rfl) (by simp [go_sem]) (by simp [go_sem]) O3.out (ownsRow_rd O3.out.rowR) E.out.on1.1 (by have := E.out.fit; simp only [List.length_append, List.length_cons, List.length_nil] at this ⊢; omega) ?_); intro l4 w4 ho4 hf4; obtain ⟨al4, n4, cl4, he4, hn4⟩ := own_form ho4; subst he4; have O4 := Lib.hid ho4; obtain ⟨h1, h2⟩ := E.out.root _ O4.out.fr; clear ho4 hf4)))
        all_goals (
          go_end0
          exact put_done (pre := L.take r) (mid := done) (post := ([] : List PV)) (w1 := w5) (l := .slice al5 n5 cl5) (al := al5) (c := cl5) H.out HF.out.1 HF.out.2 hab hb E.out.cut.all E.out.pre_ E.out.mid E.out.cut.lo E.out.post (by rw [hn5.out]; simp [putPvs, newPv, newPc]) (by have := O5.out.rowL; simpa [putPvs, newPv, newPc] using this) O5.out.lb O5.out.fr rfl)
      | place bs =>
        obtain ⟨uv, rfl⟩ : ∃ uv, v = .iface 67 uv := by obtain ⟨_, _, h1, _⟩ := HF.out.1; exact ⟨_, h1⟩
        have ta := is_place uv
        have onv := Lib.hid (one_of HF.out.1 a b a)
        have hnv : (L.take r ++ done.flatMap (cutLv a)).length + 1 ≤ 10000000 := by have := E.out.fit; omega
        have HNV := Lib.hid hnv
        clear hnv
        go_wp2_with (at_builtin; refine wpList_left (w0 := w) (l := u10) (xs := L.take r ++ done.flatMap (cutLv a)) (r := u11) (ys := done.flatMap (cutRv b)) (zs := [(⟨a, b, a, .place bs⟩, .iface 67 uv)]) rfl _ _ rfl rfl rfl (E.out.cut.own.quiet (((Fr.refl _ wr).alloc _).alloc _)) (rd_piece (⟨a, b, a, .place bs⟩, .iface 67 uv) (by simp)) onv.out HNV.out ?_; intro l3 w3 ho3 hf3; have O3 := Lib.hid ho3; obtain ⟨f1, f2⟩ := E.out.root _ O3.out.fr; clear ho3 hf3)
        have O3d := Lib.hid (O3.out.quiet (Fr.refl _ w3).drew)
        clear hp
        go_region_law ((first
          | (refine step_plain (by rfl) (wp_left (w0 := w) (l := .slice al4 n4 cl4) (r := u11) (xs := L.take r ++ done.flatMap (cutLv a) ++ [(⟨a, b, a, .place bs⟩, .iface 67 uv)] ++ done.flatMap (cutRv b)) (ys := done.flatMap (cutRv b)) (zs := ([] : List PV)) _ _ (by rfl) (by simp [go_sem]) (by simp [go_sem]) O4.out (E.out.rd _ O4.out.fr) E.out.on1.2 (by have := E.out.fit; simp only [List.length_append, List.length_cons, List.length_nil] at this ⊢; omega) ?_); intro l5 w5 ho5 hf5; obtain ⟨al5, n5, cl5, he5, hn5⟩ := own_form ho5; subst he5; have O5 := Lib.hid ho5; obtain ⟨i1, i2⟩ := E.out.root _ O5.out.fr; clear ho5 hf5)
          | (refine step_plain (by rfl) (wp_left (w0 := w) (l := l3) (r := u11) (xs := L.take r ++ done.flatMap (cutLv a) ++ [(⟨a, b, a, .place bs⟩, .iface 67 uv)]) (ys := done.flatMap (cutRv b)) (zs := done.flatMap (cutRv b)) _ _ (by rfl) (by simp [go_sem]) (by simp [go_sem]) O3d.out (ownsRow_rd O3d.out.rowR) E.out.on1.1 (by have := E.out.fit; simp only [List.length_append, List.length_cons, List.length_nil] at this ⊢; omega) ?_); intro l4 w4 ho4 hf4; obtain ⟨al4, n4, cl4, he4, hn4⟩ := own_form ho4; subst he4; have O4 := Lib.hid ho4; obtain ⟨h1, h2⟩ := E.out.root _ O4.out.fr; clear ho4 hf4)))
        all_goals (
          go_end0
          exact put_done (pre := L.take r) (mid := done) (post := ([] : List PV)) (w1 := w5) (l := .slice al5 n5 cl5) (al := al5) (c := cl5) H.out HF.out.1 HF.out.2 hab hb E.out.cut.all E.out.pre_ E.out.mid E.out.cut.lo E.out.post (by rw [hn5.out]; simp [putPvs, newPv, newPc]) (by have := O5.out.rowL; simpa [putPvs, newPv, newPc] using this) O5.out.lb O5.out.fr rfl)
      | things bs n =>
        obtain ⟨uv, rfl⟩ : ∃ uv, v = .iface 69 uv := by obtain ⟨_, _, _, _, h1, _⟩ := HF.out.1; exact ⟨_, h1⟩
        have ta := is_things uv
        have onv := Lib.hid (one_of HF.out.1 a b a)
        have hnv : (L.take r ++ done.flatMap (cutLv a)).length + 1 ≤ 10000000 := by have := E.out.fit; omega
        have HNV := Lib.hid hnv
        clear hnv
        go_wp2_with (at_builtin; refine wpList_left (w0 := w) (l := u10) (xs := L.take r ++ done.flatMap (cutLv a)) (r := u11) (ys := done.flatMap (cutRv b)) (zs := [(⟨a, b, a, .things bs n⟩, .iface 69 uv)]) rfl _ _ rfl rfl rfl (E.out.cut.own.quiet (((Fr.refl _ wr).alloc _).alloc _)) (rd_piece (⟨a, b, a, .things bs n⟩, .iface 69 uv) (by simp)) onv.out HNV.out ?_; intro l3 w3 ho3 hf3; have O3 := Lib.hid ho3; obtain ⟨f1, f2⟩ := E.out.root _ O3.out.fr; clear ho3 hf3)
        have O3d := Lib.hid (O3.out.quiet (Fr.refl _ w3).drew)
        clear hp
        go_region_law ((first
          | (refine step_plain (by rfl) (wp_left (w0 := w) (l := .slice al4 n4 cl4) (r := u11) (xs := L.take r ++ done.flatMap (cutLv a) ++ [(⟨a, b, a, .things bs n⟩, .iface 69 uv)] ++ done.flatMap (cutRv b)) (ys := done.flatMap (cutRv b)) (zs := ([] : List PV)) _ _ (by rfl) (by simp [go_sem]) (by simp [go_sem]) O4.out (E.out.rd _ O4.out.fr) E.out.on1.2 (by have := E.out.fit; simp only [List.length_append, List.length_cons, List.length_nil] at this ⊢; omega) ?_); intro l5 w5 ho5 hf5; obtain ⟨al5, n5, cl5, he5, hn5⟩ := own_form ho5; subst he5; have O5 := Lib.hid ho5; obtain ⟨i1, i2⟩ := E.out.root _ O5.out.fr; clear ho5 hf5)
          | (refine step_plain (by rfl) (wp_left (w0 := w) (l := l3) (r := u11) (xs := L.take r ++ done.flatMap (cutLv a) ++ [(⟨a, b, a, .things bs n⟩, .iface 69 uv)]) (ys := done.flatMap (cutRv b)) (zs := done.flatMap (cutRv b)) _ _ (by rfl) (by simp [go_sem]) (by simp [go_sem]) O3d.out (ownsRow_rd O3d.out.rowR) E.out.on1.1 (by have := E.out.fit; simp only [List.length_append, List.length_cons, List.length_nil] at this ⊢; omega) ?_); intro l4 w4 ho4 hf4; obtain ⟨al4, n4, cl4, he4, hn4⟩ := own_form ho4; subst he4; have O4 := Lib.hid ho4; obtain ⟨h1, h2⟩ := E.out.root _ O4.out.fr; clear ho4 hf4)))
        all_goals (
          go_end0
          exact put_done (pre := L.take r) (mid := done) (post := ([] : List PV)) (w1 := w5) (l := .slice al5 n5 cl5) (al := al5) (c := cl5) H.out HF.out.1 HF.out.2 hab hb E.out.cut.all E.out.pre_ E.out.mid E.out.cut.lo E.out.post (by rw [hn5.out]; simp [putPvs, newPv, newPc]) (by have := O5.out.rowL; simpa [putPvs, newPv, newPc] using this) O5.out.lb O5.out.fr rfl)
    | cons x todo =>
      have hxi : L[r + done.length]? = some x := by
        rw [hall, List.getElem?_append_right (by omega), hqt, show r + done.length - r = done.length from by omega, List.getElem?_append_right (Nat.le_refl _), Nat.sub_self]; rfl
      have hxf := H.out.forms x (List.mem_of_getElem? hxi)
      obtain ⟨tx, ux, hux⟩ := form_iface hxf
      obtain ⟨⟨xa, xb, xo, xm⟩, xv⟩ := x
      simp only at hux hxf
      subst hux
      obtain ⟨pb, po, rfl, hFb, c0, c1, c2, c3⟩ := hpc _ _ hxi
      simp only at c0 c1 c2 c3
      have hlt : r + done.length < L.length := by simp at hlen; omega
      have BD := HC.out.1.bounds H.out.rows.ord (later hrl hall hr.out.2.2)
      have hn1 : (L.take r ++ done.flatMap (cutLv a)).length + 1 ≤ 10000000 := by rw [List.length_append]; omega
      have hn2 : (done.flatMap (cutRv b)).length + 1 ≤ 10000000 := by omega
      have on1 := Lib.hid (And.intro (one_of hxf xa a xo) (And.intro (one_of hxf b xb xo) (And.intro hn1 hn2)))
      have hlw : ∀ g, u10.ownBlock = some g → g < wr.heap.size := fun g hg => owns_lt HC.out.1.own.rowL hg
      have HLW := Lib.hid hlw
      clear BD hn1 hn2 hxf hlw
      have LL := Lib.hid (And.intro hall (And.intro hqt (And.intro hlen (And.intro hxi hle))))
      have HPB := Lib.hid (H.out.lt pb hFb)
      obtain ⟨q, hq⟩ : ∃ q, q = r + done.length := ⟨_, rfl⟩
      rw [← hq] at c0 c1 c2 c3 hlt ⊢
      have HQ := Lib.hid hq
      clear hall hqt hlen hxi hle hpc hFb hq
      by_cases hb1 : xa < b
      · by_cases hc1 : xa < a
        · by_cases hc2 : b < xb
          · have KL : Hid (cutLv a (⟨xa, xb, xo, xm⟩, .iface tx ux) = [(⟨xa, a, xo, xm⟩, .iface tx ux)]) := Lib.hid (by unfold cutLv; rw [if_pos hc1])
            have KR : Hid (cutRv b (⟨xa, xb, xo, xm⟩, .iface tx ux) = [(⟨b, xb, xo, xm⟩, .iface tx ux)]) := Lib.hid (by unfold cutRv; rw [if_pos hc2])
            have KB := Lib.hid hb1
            go_wp2_with (first
              | (at_builtin; refine wpList_right (w0 := w) (l := l3) (xs := L.take r ++ done.flatMap (cutLv a) ++ [(⟨xa, a, xo, xm⟩, .iface tx ux)]) (r := u11) (ys := done.flatMap (cutRv b)) (zs := [(⟨b, xb, xo, xm⟩, .iface tx ux)]) rfl _ _ rfl rfl rfl (O3.out.quiet ((Fr.refl _ _).alloc _)) (rd_piece (⟨b, xb, xo, xm⟩, .iface tx ux) (by simp)) on1.out.2.1 on1.out.2.2.2 ?_; intro r4 w4 ho4 hf4; have O4 := Lib.hid ho4; clear ho4 hf4)
              | (at_builtin; refine wpList_left (w0 := w) (l := u10) (xs := L.take r ++ done.flatMap (cutLv a)) (r := u11) (ys := done.flatMap (cutRv b)) (zs := [(⟨xa, a, xo, xm⟩, .iface tx ux)]) rfl _ _ rfl rfl rfl (HC.out.1.own.quiet (((Fr.refl _ _).alloc _).alloc _)) (rd_piece (⟨xa, a, xo, xm⟩, .iface tx ux) (by simp)) on1.out.1 on1.out.2.2.1 ?_; intro l3 w3 ho3 hf3; have O3 := Lib.hid ho3; obtain ⟨e0, e1, e2, e3⟩ := blk4 (hf3.at (b := wr.heap.size) (o := .cells #[.int .u64 (xa : Nat), .int .u64 (xb : Nat), .int .u64 (xo : Nat), .iface tx ux] 61 (0, 0)) (by rw [heap_alloc_ne (by simp), heap_alloc, if_pos rfl]) (fun h => by have := HLW.out _ h.symm; omega)); clear ho3 hf3))
            go_roundg todo.length
            case measure => have h2 := HC.out.2; simp at h2; omega
            case rel => exact ⟨done ++ [_], todo, by rw [HQ.out]; go_num, Lib.hid ⟨HC.out.1.step KB.out O4.out KL.out KR.out, Nat.le_refl _⟩⟩
          · have KL : Hid (cutLv a (⟨xa, xb, xo, xm⟩, .iface tx ux) = [(⟨xa, a, xo, xm⟩, .iface tx ux)]) := Lib.hid (by unfold cutLv; rw [if_pos hc1])
            have KR : Hid (cutRv b (⟨xa, xb, xo, xm⟩, .iface tx ux) = []) := Lib.hid (by unfold cutRv; rw [if_neg hc2])
            have KB := Lib.hid hb1
            go_wp2_with (at_builtin; refine wpList_left (w0 := w) (l := u10) (xs := L.take r ++ done.flatMap (cutLv a)) (r := u11) (ys := done.flatMap (cutRv b)) (zs := [(⟨xa, a, xo, xm⟩, .iface tx ux)]) rfl _ _ rfl rfl rfl (HC.out.1.own.quiet (((Fr.refl _ _).alloc _).alloc _)) (rd_piece (⟨xa, a, xo, xm⟩, .iface tx ux) (by simp)) on1.out.1 on1.out.2.2.1 ?_; intro l3 w3 ho3 hf3; have O3 := Lib.hid ho3; obtain ⟨e0, e1, e2, e3⟩ := blk4 (hf3.at (b := wr.heap.size) (o := .cells #[.int .u64 (xa : Nat), .int .u64 (xb : Nat), .int .u64 (xo : Nat), .iface tx ux] 61 (0, 0)) (by rw [heap_alloc_ne (by simp), heap_alloc, if_pos rfl]) (fun h => by have := HLW.out _ h.symm; omega)); clear ho3 hf3)
            go_roundg todo.length
            case measure => have h2 := HC.out.2; simp at h2; omega
            case rel => exact ⟨done ++ [_], todo, by rw [HQ.out]; go_num, Lib.hid ⟨HC.out.1.step KB.out (by rw [List.append_nil]; exact O3.out) KL.out KR.out, Nat.le_refl _⟩⟩
        · by_cases hc2 : b < xb
          · have KL : Hid (cutLv a (⟨xa, xb, xo, xm⟩, .iface tx ux) = []) := Lib.hid (by unfold cutLv; rw [if_neg hc1])
            have KR : Hid (cutRv b (⟨xa, xb, xo, xm⟩, .iface tx ux) = [(⟨b, xb, xo, xm⟩, .iface tx ux)]) := Lib.hid (by unfold cutRv; rw [if_pos hc2])
            have KB := Lib.hid hb1
            go_wp2_with (at_builtin; refine wpList_right (w0 := w) (l := u10) (xs := L.take r ++ done.flatMap (cutLv a)) (r := u11) (ys := done.flatMap (cutRv b)) (zs := [(⟨b, xb, xo, xm⟩, .iface tx ux)]) rfl _ _ rfl rfl rfl (HC.out.1.own.quiet (((Fr.refl _ _).alloc _).alloc _)) (rd_piece (⟨b, xb, xo, xm⟩, .iface tx ux) (by simp)) on1.out.2.1 on1.out.2.2.2 ?_; intro r4 w4 ho4 hf4; have O4 := Lib.hid ho4; clear ho4 hf4)
            go_roundg todo.length
            case measure => have h2 := HC.out.2; simp at h2; omega
            case rel => exact ⟨done ++ [_], todo, by rw [HQ.out]; go_num, Lib.hid ⟨HC.out.1.step KB.out (by rw [List.append_nil]; exact O4.out) KL.out KR.out, Nat.le_refl _⟩⟩
          · have KL : Hid (cutLv a (⟨xa, xb, xo, xm⟩, .iface tx ux) = []) := Lib.hid (by unfold cutLv; rw [if_neg hc1])
            have KR : Hid (cutRv b (⟨xa, xb, xo, xm⟩, .iface tx ux) = []) := Lib.hid (by unfold cutRv; rw [if_neg hc2])
            have KB := Lib.hid hb1
            go_wp2_with fail
            go_roundg todo.length
            case measure => have h2 := HC.out.2; simp at h2; omega
            case rel => exact ⟨done ++ [_], todo, by rw [HQ.out]; go_num, Lib.hid ⟨HC.out.1.step KB.out (by rw [List.append_nil, List.append_nil]; exact HC.out.1.own.quiet ((Fr.refl _ _).alloc _)) KL.out KR.out, Nat.le_refl _⟩⟩
      · have EN := ended H.out HC.out.1 hn hrl hr.out.2.1 hr.out.2.2 hp LL.out.2.2.2.2 (by intro y hy; simp at hy; subst hy; simp only; omega)
        obtain ⟨sv, EN⟩ := EN
        rw [← HQ.out] at EN
        have run2 := EN.run
        have E := Lib.hid EN
        clear EN
        cases f with
        | none =>
          obtain rfl : v = .iface 65 (.agg #[]) := HF.out.1
          have ta := is_none
          go_wp2_with fail
          obtain ⟨W, hW⟩ : ∃ W, W = wr.alloc (.cells #[] 65) := ⟨_, rfl⟩
          rw [← hW]
          have O3 : Hid (Own2 w W.drew u10 (L.take r ++ done.flatMap (cutLv a)) u11 (done.flatMap (cutRv b))) := Lib.hid (by rw [hW]; exact E.out.cut.own.quiet ((Fr.refl _ wr).alloc _).drew)
          obtain ⟨f1, f2⟩ := E.out.root W (by rw [hW]; exact E.out.cut.own.fr.alloc _)
          clear hW hp
          go_region_law ((first
            | (refine step_plain (by rfl) (wp_left (w0 := w) (l := .slice al4 n4 cl4) (r := u11) (xs := L.take r ++ done.flatMap (cutLv a) ++ done.flatMap (cutRv b)) (ys := done.flatMap (cutRv b)) (zs := ((⟨xa, xb, xo, xm⟩, .iface tx ux) :: todo)) _ _ (by rfl) (by simp [go_sem]) (by simp [go_sem]) O4.out (E.out.rd _ O4.out.fr) E.out.on1.2 (by have := E.out.fit; simp only [List.length_append, List.length_cons, List.length_nil] at this ⊢; omega) ?_); intro l5 w5 ho5 hf5; obtain ⟨al5, n5, cl5, he5, hn5⟩ := own_form ho5; subst he5; have O5 := Lib.hid ho5; obtain ⟨i1, i2⟩ := E.out.root _ O5.out.fr; clear ho5 hf5)
            | (refine step_plain (by rfl) (wp_left (w0 := w) (l := u10) (r := u11) (xs := L.take r ++ done.flatMap (cutLv a)) (ys := done.flatMap (cutRv b)) (zs := done.flatMap (cutRv b)) _ _ (by rfl) (by simp [go_sem]) (by simp [go_sem]) O3.out (ownsRow_rd O3.out.rowR) E.out.on1.1 (by have := E.out.fit; simp only [List.length_append, List.length_cons, List.length_nil] at this ⊢; omega) ?_); intro l4 w4 ho4 hf4; obtain ⟨al4, n4, cl4, he4, hn4⟩ := own_form ho4; subst he4; have O4 := Lib.hid ho4; obtain ⟨h1, h2⟩ := E.out.root _ O4.out.fr; clear ho4 hf4)))
          all_goals (
            go_end0
            exact put_done (pre := L.take r) (mid := done) (post := ((⟨xa, xb, xo, xm⟩, .iface tx ux) :: todo)) (w1 := w5) (l := .slice al5 n5 cl5) (al := al5) (c := cl5) H.out HF.out.1 HF.out.2 hab hb E.out.cut.all E.out.pre_ E.out.mid E.out.cut.lo E.out.post (by rw [hn5.out]; simp [putPvs, newPv, newPc]) (by have := O5.out.rowL; simpa [putPvs, newPv, newPc] using this) O5.out.lb O5.out.fr rfl)
        | place bs =>
          obtain ⟨uv, rfl⟩ : ∃ uv, v = .iface 67 uv := by obtain ⟨_, _, h1, _⟩ := HF.out.1; exact ⟨_, h1⟩
          have ta := is_place uv
          have onv := Lib.hid (one_of HF.out.1 a b a)
          have hnv : (L.take r ++ done.flatMap (cutLv a)).length + 1 ≤ 10000000 := by have := E.out.fit; omega
          have HNV := Lib.hid hnv
          clear hnv
          go_wp2_with (at_builtin; refine wpList_left (w0 := w) (l := u10) (xs := L.take r ++ done.flatMap (cutLv a)) (r := u11) (ys := done.flatMap (cutRv b)) (zs := [(⟨a, b, a, .place bs⟩, .iface 67 uv)]) rfl _ _ rfl rfl rfl (E.out.cut.own.quiet (((Fr.refl _ wr).alloc _).alloc _)) (rd_piece (⟨a, b, a, .place bs⟩, .iface 67 uv) (by simp)) onv.out HNV.out ?_; intro l3 w3 ho3 hf3; have O3 := Lib.hid ho3; obtain ⟨f1, f2⟩ := E.out.root _ O3.out.fr; clear ho3 hf3)
          have O3d := Lib.hid (O3.out.quiet (Fr.refl _ w3).drew)
          clear hp
          go_region_law ((first
            | (refine step_plain (by rfl) (wp_left (w0 := w) (l := .slice al4 n4 cl4) (r := u11) (xs := L.take r ++ done.flatMap (cutLv a) ++ [(⟨a, b, a, .place bs⟩, .iface 67 uv)] ++ done.flatMap (cutRv b)) (ys := done.flatMap (cutRv b)) (zs := ((⟨xa, xb, xo, xm⟩, .iface tx ux) :: todo)) _ _ (by rfl) (by simp [go_sem]) (by simp [go_sem]) O4.out (E.out.rd _ O4.out.fr) E.out.on1.2 (by have := E.out.fit; simp only [List.length_append, List.length_cons, List.length_nil] at this ⊢; omega) ?_); intro l5 w5 ho5 hf5; obtain ⟨al5, n5, cl5, he5, hn5⟩ := own_form ho5; subst he5; have O5 := Lib.hid ho5; obtain ⟨i1, i2⟩ := E.out.root _ O5.out.fr; clear ho5 hf5)
            | (refine step_plain (by rfl) (wp_left (w0 := w) (l := l3) (r := u11) (xs := L.take r ++ done.flatMap (cutLv a) ++ [(⟨a, b, a, .place bs⟩, .iface 67 uv)]) (ys := done.flatMap (cutRv b)) (zs := done.flatMap (cutRv b)) _ _ (by rfl) (by simp [go_sem]) (by simp [go_sem]) O3d.out (ownsRow_rd O3d.out.rowR) E.out.on1.1 (by have := E.out.fit; simp only [List.length_append, List.length_cons, List.length_nil] at this ⊢; omega) ?_); intro l4 w4 ho4 hf4; obtain ⟨al4, n4, cl4, he4, hn4⟩ := own_form ho4; subst he4; have O4 := Lib.hid ho4; obtain ⟨h1, h2⟩ := E.out.root _ O4.out.fr; clear ho4 hf4)))
          all_goals (
            go_end0
            exact put_done (pre := L.take r) (mid := done) (post := ((⟨xa, xb, xo, xm⟩, .iface tx ux) :: todo)) (w1 := w5) (l := .slice al5 n5 cl5) (al := al5) (c := cl5) H.out HF.out.1 HF.out.2 hab hb E.out.cut.all E.out.pre_ E.out.mid E.out.cut.lo E.out.post (by rw [hn5.out]; simp [putPvs, newPv, newPc]) (by have := O5.out.rowL; simpa [putPvs, newPv, newPc] using this) O5.out.lb O5.out.fr rfl)
        | things bs n =>
          obtain ⟨uv, rfl⟩ : ∃ uv, v = .iface 69 uv := by obtain ⟨_, _, _, _, h1, _⟩ := HF.out.1; exact ⟨_, h1⟩
          have ta := is_things uv
          have onv := Lib.hid (one_of HF.out.1 a b a)
          have hnv : (L.take r ++ done.flatMap (cutLv a)).length + 1 ≤ 10000000 := by have := E.out.fit; omega
          have HNV := Lib.hid hnv
          clear hnv
          go_wp2_with (at_builtin; refine wpList_left (w0 := w) (l := u10) (xs := L.take r ++ done.flatMap (cutLv a)) (r := u11) (ys := done.flatMap (cutRv b)) (zs := [(⟨a, b, a, .things bs n⟩, .iface 69 uv)]) rfl _ _ rfl rfl rfl (E.out.cut.own.quiet (((Fr.refl _ wr).alloc _).alloc _)) (rd_piece (⟨a, b, a, .things bs n⟩, .iface 69 uv) (by simp)) onv.out HNV.out ?_; intro l3 w3 ho3 hf3; have O3 := Lib.hid ho3; obtain ⟨f1, f2⟩ := E.out.root _ O3.out.fr; clear ho3 hf3)
          have O3d := Lib.hid (O3.out.quiet (Fr.refl _ w3).drew)
          clear hp
          go_region_law ((first
            | (refine step_plain (by rfl) (wp_left (w0 := w) (l := .slice al4 n4 cl4) (r := u11) (xs := L.take r ++ done.flatMap (cutLv a) ++ [(⟨a, b, a, .things bs n⟩, .iface 69 uv)] ++ done.flatMap (cutRv b)) (ys := done.flatMap (cutRv b)) (zs := ((⟨xa, xb, xo, xm⟩, .iface tx ux) :: todo)) _ _ (by rfl) (by simp [go_sem]) (by simp [go_sem]) O4.out (E.out.rd _ O4.out.fr) E.out.on1.2 (by have := E.out.fit; simp only [List.length_append, List.length_cons, List.length_nil] at this ⊢; omega) ?_); intro l5 w5 ho5 hf5; obtain ⟨al5, n5, cl5, he5, hn5⟩ := own_form ho5; subst he5; have O5 := Lib.hid ho5; obtain ⟨i1, i2⟩ := E.out.root _ O5.out.fr; clear ho5 hf5)
            | (refine step_plain (by rfl) (wp_left (w0 := w) (l := l3) (r := u11) (xs := L.take r ++ done.flatMap (cutLv a) ++ [(⟨a, b, a, .things bs n⟩, .iface 69 uv)]) (ys := done.flatMap (cutRv b)) (zs := done.flatMap (cutRv b)) _ _ (by rfl) (by simp [go_sem]) (by simp [go_sem]) O3d.out (ownsRow_rd O3d.out.rowR) E.out.on1.1 (by have := E.out.fit; simp only [List.length_append, List.length_cons, List.length_nil] at this ⊢; omega) ?_); intro l4 w4 ho4 hf4; obtain ⟨al4, n4, cl4, he4, hn4⟩ := own_form ho4; subst he4; have O4 := Lib.hid ho4; obtain ⟨h1, h2⟩ := E.out.root _ O4.out.fr; clear ho4 hf4)))
          all_goals (
            go_end0
            exact put_done (pre := L.take r) (mid := done) (post := ((⟨xa, xb, xo, xm⟩, .iface tx ux) :: todo)) (w1 := w5) (l := .slice al5 n5 cl5) (al := al5) (c := cl5) H.out HF.out.1 HF.out.2 hab hb E.out.cut.all E.out.pre_ E.out.mid E.out.cut.lo E.out.post (by rw [hn5.out]; simp [putPvs, newPv, newPc]) (by have := O5.out.rowL; simpa [putPvs, newPv, newPc] using this) O5.out.lb O5.out.fr rfl)
end Go.Proofs.Ytcnnibhipjkgiaa
