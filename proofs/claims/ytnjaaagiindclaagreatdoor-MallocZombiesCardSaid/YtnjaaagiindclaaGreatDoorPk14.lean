/-
  Part 14 of what the statement leans on: One3.
-/
import Derived.Test.YtnjaaagiindclaaGreatDoorPk13
import Derived.Deep.RegionLaw
/-
  Sets of numbers: Cut.
-/
namespace Go.Proofs.YtnjaaagiindclaaGreatDoor
open Go.RowKit Go.Deep
namespace One
/-- the set as it stands in a block that may be written -/
structure SetIn (w : World) (b o : Nat) (c : Array Value) (t : TypeId) (v : Value) (s : Nat) (l : List P2) : Prop where
  blk : w.heap[b]? = some (.cells c t (0, 0))
  co : c[o]? = some v
  cs : c[o + 1]? = some (.int .u64 (s : Int))
  rd : Rd w 2 v l.length (enc l)
  ne : l = [] ∨ ∀ a, (∃ k, v = .slice (some a) l.length k) → a.block ≠ b
  can : Can l
  len : l.length ≤ 1000000
theorem SetIn.at {w : World} {b o : Nat} {c : Array Value} {t : TypeId} {v : Value} {s : Nat} {l : List P2} (h : SetIn w b o c t v s l) : SetAt w b o v s l :=
  ⟨(cell_blk h.blk o).trans h.co, (cell_blk h.blk (o + 1)).trans h.cs, h.rd, h.can, h.len⟩
theorem SetIn.keep {w w' : World} {b o : Nat} {c : Array Value} {t : TypeId} {v : Value} {s : Nat} {l : List P2} (h : SetIn w b o c t v s l) (hf : Fr (fun x => x = b) w w') : Rd w' 2 v l.length (enc l) := by
  rcases h.ne with hl | hne
  · obtain ⟨a, c, hv, h1, h2, h3, _⟩ := h.rd
    subst hl
    exact ⟨a, c, hv, h1, h2, h3, by simp [enc]⟩
  · exact h.rd.fr hf (fun a ha e => hne a ha e)
theorem SetIn.quiet {w w' : World} {b o : Nat} {c : Array Value} {t : TypeId} {v : Value} {s : Nat} {l : List P2} (h : SetIn w b o c t v s l) (hf : Fr (fun _ => False) w w') : SetIn w' b o c t v s l :=
  ⟨hf.at h.blk (fun x => x), h.co, h.cs, h.rd.fr hf (fun _ _ x => x), h.ne, h.can, h.len⟩
/-- what is left of those that are cut -/
def mids (fr tt : Nat) : List P2 → List P2
  | [] => []
  | e :: l => if e.1 < tt then (if e.1 < fr then [(e.1, fr)] else []) ++ ((if tt < e.2 then [(tt, e.2)] else []) ++ mids fr tt l) else []
/-- those behind -/
def tailR (tt : Nat) : List P2 → List P2
  | [] => []
  | e :: l => if e.1 < tt then tailR tt l else e :: l
structure CutI (w wr : World) (b : Nat) (c1 : Array Value) (t : TypeId) (l : List P2) (fr tt r q : Nat) (rv : Value) (m : List P2) : Prop where
  frm : Fr (fun x => x = b) w wr
  blk : wr.heap[b]? = some (.cells c1 t (0, 0))
  own : wr.ownsRow w.heap.size 290 2 rv m.length (enc m)
  lo : r ≤ q
  hi : q ≤ l.length
  mid : m ++ mids fr tt (l.drop q) = mids fr tt (l.drop r)
  tl : tailR tt (l.drop q) = tailR tt (l.drop r)
  ml : m.length ≤ 2 * (q - r)
theorem AtIs.uniq {l : List P2} {x r r' : Nat} (h : AtIs l x r) (h' : AtIs l x r') : r = r' := by
  obtain ⟨a1, a2, a3⟩ := h
  obtain ⟨b1, b2, b3⟩ := h'
  rcases Nat.lt_trichotomy r r' with hlt | rfl | hlt
  · obtain ⟨e, he⟩ : ∃ e, l[r]? = some e := ⟨_, List.getElem?_eq_getElem (by omega)⟩
    have := a3 r e (Nat.le_refl _) he
    have := b2 r e hlt he
    omega
  · rfl
  · obtain ⟨e, he⟩ : ∃ e, l[r']? = some e := ⟨_, List.getElem?_eq_getElem (by omega)⟩
    have := b3 r' e (Nat.le_refl _) he
    have := a2 r' e hlt he
    omega
theorem SetIn.set {w w' : World} {b o : Nat} {c : Array Value} {t : TypeId} {v : Value} {s s' : Nat} {l : List P2} (h : SetIn w b o c t v s l) (hf : Fr (fun x => x = b) w w')
    (hb : w'.heap[b]? = some (.cells (c.setIfInBounds (o + 1) (.int .u64 (s' : Int))) t (0, 0))) : SetIn w' b o (c.setIfInBounds (o + 1) (.int .u64 (s' : Int))) t v s' l := by
  have hlt : o + 1 < c.size := (Array.getElem?_eq_some_iff.1 h.cs).1
  refine ⟨hb, ?_, ?_, h.keep hf, h.ne, h.can, h.len⟩
  · rw [Array.getElem?_setIfInBounds_ne (by omega)]; exact h.co
  · rw [Array.getElem?_setIfInBounds_self_of_lt hlt]
theorem wrap_u64 {z : Int} (h0 : 0 ≤ z) (h1 : z ≤ 18446744073709551615) : IntKind.u64.wrap z = z := by
  simp [IntKind.wrap, IntKind.bits, IntKind.signed]; omega
theorem own_ge {w : World} {B T sz n : Nat} {v : Value} {xs : List Value} (h : w.ownsRow B T sz v n xs) {g : Nat} (hg : v.ownBlock = some g) : B ≤ g ∧ g < w.heap.size := by
  rcases h with ⟨_, ⟨rfl, _⟩ | ⟨g', cap, cur, rfl, hB, hb, _⟩⟩
  · simp [Value.ownBlock] at hg
  · simp only [Value.ownBlock, Option.some.injEq] at hg
    subst hg; exact ⟨hB, lt_blk hb⟩
theorem mids_in {fr tt : Nat} {l : List P2} {q : Nat} {e : P2} (h : l[q]? = some e) (hlt : e.1 < tt) : mids fr tt (l.drop q) = (if e.1 < fr then [(e.1, fr)] else []) ++ ((if tt < e.2 then [(tt, e.2)] else []) ++ mids fr tt (l.drop (q + 1))) ∧ tailR tt (l.drop q) = tailR tt (l.drop (q + 1)) := by
  rw [drop_at h]
  simp only [mids, tailR, if_pos hlt]
  exact ⟨trivial, trivial⟩
theorem CutI.step {w wr w' : World} {b : Nat} {c1 : Array Value} {t : TypeId} {l : List P2} {fr tt r q : Nat} {rv rv' : Value} {m m' : List P2} {e : P2} (h : CutI w wr b c1 t l fr tt r q rv m) (he : l[q]? = some e) (hlt : e.1 < tt)
    (hm : m' = m ++ ((if e.1 < fr then [(e.1, fr)] else []) ++ (if tt < e.2 then [(tt, e.2)] else []))) (hf : Fr (fun x => x = b) w w') (hb : w'.heap[b]? = some (.cells c1 t (0, 0))) (ho : w'.ownsRow w.heap.size 290 2 rv' m'.length (enc m')) : CutI w w' b c1 t l fr tt r (q + 1) rv' m' := by
  obtain ⟨h1, h2⟩ := mids_in (fr := fr) he hlt
  have hq : q < l.length := (List.getElem?_eq_some_iff.1 he).1
  have hlo := h.lo
  have hml := h.ml
  refine ⟨hf, hb, ho, by omega, hq, ?_, ?_, ?_⟩
  · rw [← h.mid, h1, hm]; simp only [List.append_assoc]
  · rw [← h.tl, h2]
  · rw [hm]
    simp only [List.length_append]
    have k1 : (if e.1 < fr then [(e.1, fr)] else ([] : List P2)).length ≤ 1 := by split <;> simp
    have k2 : (if tt < e.2 then [(tt, e.2)] else ([] : List P2)).length ≤ 1 := by split <;> simp
    omega
theorem CutI.done {w wr : World} {b : Nat} {c1 : Array Value} {t : TypeId} {l : List P2} {fr tt r q : Nat} {rv : Value} {m : List P2} (h : CutI w wr b c1 t l fr tt r q rv m) (hn : ∀ e, l[q]? = some e → ¬ e.1 < tt) : m = mids fr tt (l.drop r) ∧ tailR tt (l.drop r) = l.drop q := by
  rw [← h.mid, ← h.tl]
  cases hd : l.drop q with
  | nil => simp [mids, tailR]
  | cons e l' =>
    have he : l[q]? = some e := by
      have := congrArg List.head? hd
      rwa [List.head?_drop] at this
    simp only [mids, tailR, if_neg (hn e he), List.append_nil, and_self]
theorem one_enc (l : List P2) : ∀ u ∈ enc l, u.oneCell' = true := by
  intro u hu
  obtain ⟨e, _, he⟩ := List.mem_flatMap.1 hu
  simp only [List.mem_cons, List.not_mem_nil, or_false] at he
  rcases he with rfl | rfl <;> rfl
theorem CutI.fin {w wr w6 : World} {b o : Nat} {c1 : Array Value} {t : TypeId} {l : List P2} {fr tt r q : Nat} {rv v6 : Value} {m : List P2} (h : CutI w wr b c1 t l fr tt r q rv m) (hn : ∀ e, l[q]? = some e → ¬ e.1 < tt) (hb : b < w.heap.size)
    (ho : w6.ownsRow wr.heap.size 290 2 v6 (r + m.length + (l.length - q)) (enc (l.take r) ++ enc m ++ enc (l.drop q))) (hf : Fr (fun _ => False) wr w6) :
    Fr (fun x => x = b) w (w6.setCell ⟨b, o, none⟩ v6) ∧ (w6.setCell ⟨b, o, none⟩ v6).heap[b]? = some (.cells (c1.setIfInBounds o v6) t (0, 0)) ∧
      (w6.setCell ⟨b, o, none⟩ v6).ownsRow w.heap.size 290 2 v6 (l.take r ++ (mids fr tt (l.drop r) ++ tailR tt (l.drop r))).length (enc (l.take r ++ (mids fr tt (l.drop r) ++ tailR tt (l.drop r)))) := by
  obtain ⟨h1, h2⟩ := h.done hn
  have hlo := h.lo
  have hhi := h.hi
  have hsz := h.frm.size
  have hbk := hf.at h.blk (fun x => x)
  refine ⟨(h.frm.trans hf (fun _ _ x => x.elim)).setCell _ _ (.inl rfl), heap_setCell_at hbk, ?_⟩
  rw [← h1, h2]
  have e1 : (l.take r ++ (m ++ l.drop q)).length = r + m.length + (l.length - q) := by
    simp only [List.length_append, List.length_take, List.length_drop]; omega
  have e2 : enc (l.take r ++ (m ++ l.drop q)) = enc (l.take r) ++ enc m ++ enc (l.drop q) := by
    simp only [enc_append, List.append_assoc]
  rw [e1, e2]
  exact ownsRow_mono (ownsRow_fr ho ((Fr.refl (fun x => x = b) w6).setCell ⟨b, o, none⟩ v6 (.inl rfl)) (fun x hx => by subst hx; omega)) hsz
theorem blk2 {w : World} {g : Nat} {a b : Value} {t : TypeId} (h : w.heap[g]? = some (.cells #[a, b] t (0, 0))) : w.cell? ⟨g, 0, none⟩ = some a ∧ w.cell? ⟨g, 1, none⟩ = some b := ⟨cell_blk h 0, cell_blk h 1⟩
theorem oneInfo : (Tryz.prog.info? 290).map (fun i => (i.zero, i.size, i.bytes)) = some (some (.agg #[.int .u64 0, .int .u64 0]), 2, 16) := by kernel_rfl
set_option maxRecDepth 100000 in
set_option maxHeartbeats 4000000 in
theorem cut_any {b o : Nat} {c : Array Value} {t : TypeId} {v : Value} {s : Nat} {l : List P2} (w : World) (h : SetIn w b o c t v s l) (fr tt : Nat) (hft : fr < tt) (htt : tt ≤ 18446744073709551615)
    (hs : ∀ r, AtIs l fr r → cntR fr tt (l.drop r) ≤ s) (hs2 : s ≤ 18446744073709551615) :
    Calls Tryz.prog 187 #[.pointer (some ⟨b, o, none⟩), .int .u64 fr, .int .u64 tt] w fun e w' => ∃ (r : Nat) (v' : Value), e = .returned (.tuple #[]) ∧ Hid (AtIs l fr r ∧ Fr (fun x => x = b) w w' ∧
      w'.heap[b]? = some (.cells ((c.setIfInBounds (o + 1) (.int .u64 ((s - cntR fr tt (l.drop r) : Nat) : Int))).setIfInBounds o v') t (0, 0)) ∧
      w'.ownsRow w.heap.size 290 2 v' (l.take r ++ (mids fr tt (l.drop r) ++ tailR tt (l.drop r))).length (enc (l.take r ++ (mids fr tt (l.drop r) ++ tailR tt (l.drop r))))) := by
  obtain ⟨i0, hi, hz0, hz1, hz2⟩ := info_parts oneInfo
  have hn := h.len
  have hat := Lib.hid (fun (W : World) (hW : Fr (fun _ => False) w W) => count_any W (h.quiet hW).at fr tt hft htt)
  have HS := Lib.hid hs
  have H := Lib.hid h
  have e1 : w.drew.cell? ⟨b, o + 1, none⟩ = some (.int .u64 (s : Int)) := h.at.sum
  have f1 : w.drew.frozen? ⟨b, o + 1, none⟩ = false := free_blk h.blk (o + 1)
  clear h hs
  go_enter Tryz.func187, Tryz.ntmps187
  go_wp2_with fail
  go_region_with (first
    | (go_at_call 190; refine (hat.out _ ((Fr.refl _ w).drew)).mono ?_; rintro e w1 ⟨r, rfl, hr, hf⟩; have hle := HS.out r hr.out; have e2 := cell_through hf.out e1 (fun x => x); have f2 : w1.frozen? ⟨b, o + 1, none⟩ = false := free_blk (H.out.quiet (((Fr.refl (fun _ => False) w).drew).trans hf.out (fun _ _ x => x))).blk (o + 1)))
  all_goals (
      have hq := H.out.quiet (((Fr.refl (fun _ => False) w).drew).trans hf.out (fun _ _ x => x))
      have hF2 : Fr (fun x => x = b) w (w1.setCell ⟨b, o + 1, none⟩ (.int .u64 ((s - cntR fr tt (l.drop r) : Nat) : Int))) := ((((Fr.refl (fun _ => False) w).drew).trans hf.out (fun _ _ x => x)).mono (T := fun x => x = b) (fun _ _ x => x.elim)).setCell _ _ (.inl rfl)
      have hB2 : (w1.setCell ⟨b, o + 1, none⟩ (.int .u64 ((s - cntR fr tt (l.drop r) : Nat) : Int))).heap[b]? = some (.cells (c.setIfInBounds (o + 1) (.int .u64 ((s - cntR fr tt (l.drop r) : Nat) : Int))) t (0, 0)) := heap_setCell_at hq.blk
      have S2 := Lib.hid (H.out.set hF2 hB2)
      have F2 := Lib.hid hF2
      have ez : ((s : Int) - (cntR fr tt (l.drop r) : Nat)) = ((s - cntR fr tt (l.drop r) : Nat) : Int) := by omega
      have ez2 : IntKind.u64.wrap ((s - cntR fr tt (l.drop r) : Nat) : Int) = ((s - cntR fr tt (l.drop r) : Nat) : Int) := wrap_u64 (by omega) (by omega)
      simp only [ez, ez2]
      have E2 : Hid (∃ s2, s2 = s - cntR fr tt (l.drop r)) := Lib.hid ⟨_, rfl⟩
      obtain ⟨s2, hs2'⟩ := E2.out
      rw [← hs2'] at S2 F2 ⊢
      obtain ⟨w2, hw2⟩ : ∃ w2, w2 = w1.setCell ⟨b, o + 1, none⟩ (.int .u64 ((s2 : Nat) : Int)) := ⟨_, rfl⟩
      rw [← hw2] at S2 F2 ⊢
      obtain ⟨c1, hc1⟩ : ∃ c1, c1 = c.setIfInBounds (o + 1) (.int .u64 ((s2 : Nat) : Int)) := ⟨_, rfl⟩
      rw [← hc1] at S2
      have hat2 := Lib.hid (at_any w2 S2.out.at fr)
      have C1 := Lib.hid (And.intro hc1 hs2')
      clear hw2 hc1 hs2' ez ez2 E2 hq hF2 hB2 e1 f1 e2 f2 hle hat HS
      go_upto_block 0 with (first | (go_at_call 206; refine hat2.out.mono ?_; rintro e w3 ⟨r', rfl, hr', hf3⟩; obtain rfl := hr.out.uniq hr'.out))
      have I0 : Hid (CutI w w3 b c1 t l fr tt r r (.slice none 0 0) []) := Lib.hid ⟨F2.out.trans hf3.out (fun _ _ x => x.elim), (S2.out.quiet hf3.out).blk, ⟨rfl, .inl ⟨rfl, rfl⟩⟩, Nat.le_refl _, hr.out.1, rfl, rfl, Nat.zero_le _⟩
      have T2 : Hid (∀ (W : World), W.heap[b]? = some (.cells c1 t (0, 0)) → Fr (fun x => x = b) w W → SetIn W b o c1 t v s2 l) := Lib.hid fun W hW hf => ⟨hW, S2.out.co, S2.out.cs, H.out.keep hf, H.out.ne, H.out.can, H.out.len⟩
      clear hat2
      go_cut [7, 8] (fun k rv wx => ∃ (q : Nat) (m : List P2), k = .int .i64 q ∧ Hid (CutI w wx b c1 t l fr tt r q rv m ∧ ∀ e, l[q]? = some e → ¬ e.1 < tt))
      case first =>
        go_wp2_with fail
        go_loopg [7, 8] l.length (fun kk k rv wr => ∃ (q : Nat) (m : List P2), k = .int .i64 q ∧ Hid (CutI w wr b c1 t l fr tt r q rv m ∧ l.length - q ≤ kk))
        case atStart => exact ⟨r, [], rfl, Lib.hid ⟨I0.out, by omega⟩⟩
        case round =>
          obtain ⟨q, m, rfl, HC⟩ := hrel
          have hS := T2.out wr HC.out.1.blk HC.out.1.frm
          obtain ⟨al, cl, hv, hle, hpc⟩ := hS.at.piece
          have hcell := hS.at.cell
          rw [hv] at hcell
          clear hS
          by_cases hlt : q < l.length
          · obtain ⟨e, hei⟩ : ∃ e, l[q]? = some e := ⟨_, List.getElem?_eq_getElem hlt⟩
            obtain ⟨pb, po, rfl, x0, x1⟩ := hpc _ _ hei
            have HE := Lib.hid hei
            obtain ⟨ea, eb⟩ := e
            simp only at x0 x1
            have HV := Lib.hid (And.intro hv hle)
            clear hpc hv hei hle
            by_cases hin : ea < tt
            · have hml := HC.out.1.ml
              have hbw : b < w.heap.size := lt_blk H.out.blk
              have hws := HC.out.1.frm.size
              by_cases hc1 : ea < fr <;> by_cases hc2 : tt < eb
              · go_wp2_with (first | (at_builtin; refine wpList_append_rd (w0 := w) (S := fun x => x = b) rfl _ _ 177 rfl 290 i0 _ 2 16 Tryz.underlying177 hi hz0 hz1 hz2 rfl (by decide) v3 (m.length + 1) (enc m ++ [.int .u64 (ea : Int), .int .u64 (fr : Int)]) rfl (ownsRow_keep O3.out.1 ((Fr.refl (fun _ => False) w4).alloc _) (fun _ _ x => x)) (O3.out.2.1.alloc _) _ 1 [.int .u64 (tt : Int), .int .u64 (eb : Int)] rfl (Rd.new (t := 290) (by rw [heap_alloc, if_pos (by simp)]) 2 1 (by simp)) (by simp [Value.oneCell']) (by simp [maxLen]; omega) (by omega) ?_; intro v5 w6 ho5 hf5 hg5; have hbk5 := hg5.at (b := b) (by rw [heap_alloc_ne (lt_blk O3.out.2.2)]; exact O3.out.2.2) (fun e => by have := own_ge O3.out.1 e.symm; omega); have O5 := Lib.hid (And.intro ho5 (And.intro hf5 hbk5)); clear ho5 hf5 hg5 hbk5) | (at_builtin; refine wpList_append_rd (w0 := w) (S := fun x => x = b) rfl _ _ 177 rfl 290 i0 _ 2 16 Tryz.underlying177 hi hz0 hz1 hz2 rfl (by decide) u8 m.length (enc m) rfl (ownsRow_keep HC.out.1.own (((Fr.refl (fun _ => False) wr).alloc _).alloc _) (fun _ _ x => x)) ((HC.out.1.frm.alloc _).alloc _) _ 1 [.int .u64 (ea : Int), .int .u64 (fr : Int)] rfl (Rd.new (t := 290) (by rw [heap_alloc, if_pos (by simp)]) 2 1 (by simp)) (by simp [Value.oneCell']) (by simp [maxLen]; omega) (by omega) ?_; intro v3 w4 ho3 hf3 hg3; have hbk3 := hg3.at (b := b) (by rw [heap_alloc_ne (by rw [size_alloc]; omega), heap_alloc_ne (by omega)]; exact HC.out.1.blk) (fun e => by have := own_ge HC.out.1.own e.symm; omega); obtain ⟨y0, y1⟩ := blk2 (hg3.at (b := wr.heap.size) (o := .cells #[.int .u64 (ea : Int), .int .u64 (eb : Int)] 290 (0, 0)) (by rw [heap_alloc_ne (by simp), heap_alloc, if_pos rfl]) (fun e => by have := own_ge HC.out.1.own e.symm; omega)); have O3 := Lib.hid (And.intro ho3 (And.intro hf3 hbk3)); clear ho3 hf3 hg3 hbk3))
                go_roundg (l.length - (q + 1))
                case measure => have := HC.out.2; omega
                case rel => exact ⟨q + 1, m ++ [(ea, fr), (tt, eb)], by go_num, Lib.hid ⟨HC.out.1.step HE.out hin (by simp [hc1, hc2]) O5.out.2.1 O5.out.2.2 (by simpa [enc] using O5.out.1), Nat.le_refl _⟩⟩
              · go_wp2_with (at_builtin; refine wpList_append_rd (w0 := w) (S := fun x => x = b) rfl _ _ 177 rfl 290 i0 _ 2 16 Tryz.underlying177 hi hz0 hz1 hz2 rfl (by decide) u8 m.length (enc m) rfl (ownsRow_keep HC.out.1.own (((Fr.refl (fun _ => False) wr).alloc _).alloc _) (fun _ _ x => x)) ((HC.out.1.frm.alloc _).alloc _) _ 1 [.int .u64 (ea : Int), .int .u64 (fr : Int)] rfl (Rd.new (t := 290) (by rw [heap_alloc, if_pos (by simp)]) 2 1 (by simp)) (by simp [Value.oneCell']) (by simp [maxLen]; omega) (by omega) ?_; intro v3 w4 ho3 hf3 hg3; have hbk3 := hg3.at (b := b) (by rw [heap_alloc_ne (by rw [size_alloc]; omega), heap_alloc_ne (by omega)]; exact HC.out.1.blk) (fun e => by have := own_ge HC.out.1.own e.symm; omega); obtain ⟨y0, y1⟩ := blk2 (hg3.at (b := wr.heap.size) (o := .cells #[.int .u64 (ea : Int), .int .u64 (eb : Int)] 290 (0, 0)) (by rw [heap_alloc_ne (by simp), heap_alloc, if_pos rfl]) (fun e => by have := own_ge HC.out.1.own e.symm; omega)); have O3 := Lib.hid (And.intro ho3 (And.intro hf3 hbk3)); clear ho3 hf3 hg3 hbk3)
                go_roundg (l.length - (q + 1))
                case measure => have := HC.out.2; omega
                case rel => exact ⟨q + 1, m ++ [(ea, fr)], by go_num, Lib.hid ⟨HC.out.1.step HE.out hin (by simp [hc1, hc2]) O3.out.2.1 O3.out.2.2 (by simpa [enc] using O3.out.1), Nat.le_refl _⟩⟩
              · go_wp2_with (at_builtin; refine wpList_append_rd (w0 := w) (S := fun x => x = b) rfl _ _ 177 rfl 290 i0 _ 2 16 Tryz.underlying177 hi hz0 hz1 hz2 rfl (by decide) u8 m.length (enc m) rfl (ownsRow_keep HC.out.1.own (((Fr.refl (fun _ => False) wr).alloc _).alloc _) (fun _ _ x => x)) ((HC.out.1.frm.alloc _).alloc _) _ 1 [.int .u64 (tt : Int), .int .u64 (eb : Int)] rfl (Rd.new (t := 290) (by rw [heap_alloc, if_pos (by simp)]) 2 1 (by simp)) (by simp [Value.oneCell']) (by simp [maxLen]; omega) (by omega) ?_; intro v3 w4 ho3 hf3 hg3; have hbk3 := hg3.at (b := b) (by rw [heap_alloc_ne (by rw [size_alloc]; omega), heap_alloc_ne (by omega)]; exact HC.out.1.blk) (fun e => by have := own_ge HC.out.1.own e.symm; omega); have O3 := Lib.hid (And.intro ho3 (And.intro hf3 hbk3)); clear ho3 hf3 hg3 hbk3)
                go_roundg (l.length - (q + 1))
                case measure => have := HC.out.2; omega
                case rel => exact ⟨q + 1, m ++ [(tt, eb)], by go_num, Lib.hid ⟨HC.out.1.step HE.out hin (by simp [hc1, hc2]) O3.out.2.1 O3.out.2.2 (by simpa [enc] using O3.out.1), Nat.le_refl _⟩⟩
              · go_wp2_with fail
                go_roundg (l.length - (q + 1))
                case measure => have := HC.out.2; omega
                case rel => exact ⟨q + 1, m ++ [], by go_num, Lib.hid ⟨HC.out.1.step HE.out hin (by simp [hc1, hc2]) (HC.out.1.frm.alloc _) (by rw [heap_alloc_ne (by omega)]; exact HC.out.1.blk) (by simpa using ownsRow_keep HC.out.1.own ((Fr.refl (fun _ => False) wr).alloc _) (fun _ _ x => x)), Nat.le_refl _⟩⟩
            · have K := Lib.hid (And.intro HC.out.1 (show ∀ e, l[q]? = some e → ¬ e.1 < tt from fun e he => by rw [HE.out] at he; cases he; exact hin))
              go_wp2_with fail
              go_meet
              exact ⟨q, m, rfl, K⟩
          · have K := Lib.hid (And.intro HC.out.1 (show ∀ e, l[q]? = some e → ¬ e.1 < tt from fun e he => by rw [List.getElem?_eq_none (by omega)] at he; cases he))
            clear hle hpc hv
            go_wp2_with fail
            go_meet
            exact ⟨q, m, rfl, K⟩
      case rest =>
        obtain ⟨q, m, rfl, HC⟩ := hcut
        have hS := T2.out wc HC.out.1.blk HC.out.1.frm
        obtain ⟨al, cl, hv, hle, hpc⟩ := hS.at.piece
        have hcell := hS.at.cell
        rw [hv] at hcell
        clear hS
        have hr1 := HC.out.1.lo
        have hr2 := HC.out.1.hi
        have hml := HC.out.1.ml
        have s1 := run_to (P := Tryz.prog) 177 290 i0 Tryz.underlying177 hi al l.length cl .i64 r (by omega)
        have s2 := run_from (P := Tryz.prog) 177 290 i0 Tryz.underlying177 hi 2 hz1 al l.length cl .i64 q (by omega) hle
        have RO : Hid (∀ W, Fr (fun _ => False) wc W → W.cell? ⟨b, o, none⟩ = some (.slice al l.length cl) ∧ W.frozen? ⟨b, o, none⟩ = false) := Lib.hid fun W hW => ⟨cell_through hW hcell (fun x => x), free_blk (hW.at HC.out.1.blk (fun x => x)) o⟩
        have RD : Hid ((∀ W, Fr (fun _ => False) wc W → Rd W 2 (.slice al r cl) r (enc (l.take r))) ∧ (∀ W, Fr (fun _ => False) wc W → Rd W 2 u8 m.length (enc m)) ∧ (∀ W, Fr (fun _ => False) wc W → Rd W 2 (sliced al q l.length cl 2) (l.length - q) (enc (l.drop q)))) := Lib.hid (by
          have hrd := (T2.out wc HC.out.1.blk HC.out.1.frm).rd
          rw [hv] at hrd
          refine ⟨fun W hW => ?_, fun W hW => (ownsRow_rd HC.out.1.own).fr hW (fun _ _ x => x), fun W hW => ?_⟩
          · rw [← enc_take]; exact (hrd.fr hW (fun _ _ x => x)).to (by omega)
          · rw [← enc_drop]; exact (hrd.fr hW (fun _ _ x => x)).from (by omega))
        obtain ⟨d1, d2⟩ := RO.out wc.drew ((Fr.refl _ wc).drew)
        obtain ⟨d3, d4⟩ := RO.out (wc.alloc (.cells #[] 290)) ((Fr.refl _ wc).alloc _)
        obtain ⟨d5, d6⟩ := RO.out wc (Fr.refl _ wc)
        clear hv hle hpc hcell
        go_wp2_with fail
        go_region_law ((first | (refine step_plain (by rfl) (wp_append_rd (w0 := wc) (S := fun _ => False) _ _ 177 (by rfl) 290 i0 _ 2 16 Tryz.underlying177 hi hz0 hz1 hz2 rfl (by decide) (.slice a5 (0 + r + m.length) cc5) (0 + r + m.length) ([] ++ enc (l.take r) ++ enc m) (by simp [go_sem]) O5.out.1 O5.out.2 (sliced al q l.length cl 2) (l.length - q) (enc (l.drop q)) (by simp [go_sem]) (RD.out.2.2 _ O5.out.2) (one_enc _) (by simp [maxLen]; omega) (by omega) ?_); intro v6 w6 ho6 hf6 hg6; obtain ⟨j1, j2⟩ := RO.out _ hf6; obtain ⟨a6, cc6, q6⟩ := ownsRow_form ho6; subst q6; have O6 := Lib.hid (And.intro ho6 hf6); clear ho6 hf6 hg6) | (refine step_plain (by rfl) (wp_append_rd (w0 := wc) (S := fun _ => False) _ _ 177 (by rfl) 290 i0 _ 2 16 Tryz.underlying177 hi hz0 hz1 hz2 rfl (by decide) (.slice a4 (0 + r) cc4) (0 + r) ([] ++ enc (l.take r)) (by simp [go_sem]) O4.out.1 O4.out.2 u8 m.length (enc m) (by simp [go_sem]) (RD.out.2.1 _ O4.out.2) (one_enc _) (by simp [maxLen]; omega) (by omega) ?_); intro v5 w5 ho5 hf5 hg5; obtain ⟨i1, i2⟩ := RO.out _ hf5; obtain ⟨a5, cc5, q5⟩ := ownsRow_form ho5; subst q5; have O5 := Lib.hid (And.intro ho5 hf5); clear ho5 hf5 hg5) | (refine step_plain (by rfl) (wp_append_rd (w0 := wc) (S := fun _ => False) _ _ 177 (by rfl) 290 i0 _ 2 16 Tryz.underlying177 hi hz0 hz1 hz2 rfl (by decide) (.slice (some ⟨wc.heap.size, 0, none⟩) 0 0) 0 [] (by simp [go_sem]) (ownsRow_empty 2 (by show (wc.alloc _).heap[_]? = _; rw [heap_alloc]; exact if_pos rfl) (Nat.le_refl _)) (((Fr.refl (fun _ => False) wc).alloc _).drew) (.slice al r cl) r (enc (l.take r)) (by simp [go_sem]) (RD.out.1 _ (((Fr.refl (fun _ => False) wc).alloc _).drew)) (one_enc _) (by simp [maxLen]; omega) (by omega) ?_); intro v4 w4 ho4 hf4 hg4; obtain ⟨g1, g2⟩ := RO.out _ hf4; obtain ⟨a4, cc4, q4⟩ := ownsRow_form ho4; subst q4; have O4 := Lib.hid (And.intro ho4 hf4); clear ho4 hf4 hg4)))
        all_goals (
          go_end0
          have O7 := O6.out
          simp only [Nat.zero_add, List.nil_append] at O7
          refine ⟨r, .slice a6 (r + m.length + (l.length - q)) cc6, rfl, Lib.hid ⟨hr.out, ?_⟩⟩
          rw [← C1.out.2, ← C1.out.1]
          exact HC.out.1.fin HC.out.2 (lt_blk H.out.blk) O7.1 O7.2))
end One
end Go.Proofs.YtnjaaagiindclaaGreatDoor
