/-
  MasksOver: the walk.
-/
import Derived.Test.YtcnnibhipjkgiaaTruths
import Derived.Test.YtcnnibhipjkgiaaOpen
namespace Go.Proofs.Ytcnnibhipjkgiaa
open Go.RowKit Go.Deep

/-- rows of truths -/
def Grid (w : World) (v : Value) (rows : List (List Bool)) : Prop :=
  ∃ ad c, v = .slice ad rows.length c ∧ ∀ (i : Nat) bs, rows[i]? = some bs → ∃ b o, ad = some ⟨b, o, none⟩ ∧ ∃ a c, w.cell? ⟨b, o + i, none⟩ = some (.slice a bs.length c) ∧ Rd w 1 (.slice a bs.length c) bs.length (bs.map .bool) ∧ bs.length ≤ 9223372036854775807

/-- the Masks and the call's own row say the same -/
structure Ov (w0 w : World) (m WB : Nat) (p : Nat → Bool) (k : Nat) : Prop where
  has : Has (fun b => b = WB) w0 w m p k
  row : w.rowIs WB 4 400 (fun j => .bool (p (100 + j)))

theorem fm_one {bs : List Bool} (hl : 0 < bs.length) {j : Nat} (hj : j < bs.length) : (fmOf bs 1).at j = bit bs j := by
  rw [fmOf_at bs hl, Nat.div_eq_of_lt hj, Nat.mod_eq_of_lt hj]
  simp

/-- append onto an empty row that was just made -/
theorem wp_append_new {P : Program} {w : World} {o : Oper} {act : Act} {K : Act → World → Prop} {Q : Exit → Act → World → Prop} (s x : Operand) (t : TypeId)
    (ho : o.op = .call { callee := .builtin .append, args := #[s, x], argTypes := #[t, t] })
    (e : TypeId) (i : TypeInfo) (z : Value) (size bytes : Nat) (ht : P.underlying t = some (.slice e)) (hi : P.info? e = some i) (hz : i.zero = some z)
    (hsize : i.size = size) (hby : i.bytes = bytes) (hzs : z.cells.size = size) (hsz : 0 < size)
    (g : Addr) (hs : act.eval s = .slice (some g) 0 0) (u : Value) (m : Nat) (news : List Value) (hx : act.eval x = u) (hrd : Rd w size u m news) (h63 : m ≤ maxLen) (hbytes : m * bytes ≤ 140737488355328)
    (h : ∀ a' c' w', Rd w' size (.slice a' m c') m news → Fr (fun _ => False) w w' → K (act.put o.dst (.slice a' m c')) w') : o.wp P act w K Q :=
  wp_append_full s x t ho e i z size bytes ht hi hz hsize hby hzs hsz (some g) 0 [] hs ⟨_, _, rfl, Nat.le_refl _, by simp, (fun e => by cases e), by simp⟩ u m news hx hrd (by rw [Nat.zero_add]; exact h63) (by rw [Nat.zero_add]; exact hbytes)
    (fun a' c' w' h1 h2 => by rw [Nat.zero_add] at h1 ⊢; exact h a' c' w' h1 h2)

/-- a call's end while the row is written -/
structure Mid (w0 w : World) (m WB A : Nat) (p : Nat → Bool) (bs : List Bool) (k q : Nat) : Prop where
  has : Has (fun b => b = WB) w0 w m (over (100 + A) (100 + A + bs.length) (fmOf bs 1).at p) k
  row : w.rowIs WB 4 400 (fun j => .bool (if A ≤ j ∧ j < A + q then bit bs (j - A) else p (100 + j)))

theorem Mid.done {w0 w : World} {m WB A k : Nat} {p : Nat → Bool} {bs : List Bool} (hl : 0 < bs.length) (h : Mid w0 w m WB A p bs k bs.length) : Ov w0 w m WB (over (100 + A) (100 + A + bs.length) (fmOf bs 1).at p) k := by
  refine ⟨h.has, h.row.congr (fun j hj => ?_)⟩
  unfold over
  by_cases h1 : A ≤ j ∧ j < A + bs.length
  · rw [if_pos h1, if_pos (by omega), show 100 + j - (100 + A) = j - A by omega, fm_one hl (by omega)]
  · rw [if_neg h1, if_neg (by omega)]

theorem Mid.set {w0 w : World} {m WB A k q : Nat} {p : Nat → Bool} {bs : List Bool} (h : Mid w0 w m WB A p bs k q) {w' : World} (hf : Fr (fun _ => False) w w') : Mid w0 (w'.setCell ⟨WB, A + q, none⟩ (.bool (bit bs q))) m WB A p bs k (q + 1) := by
  have hrow : w'.rowIs WB 4 400 (fun j => .bool (if A ≤ j ∧ j < A + q then bit bs (j - A) else p (100 + j))) := h.row.of_block (hf.same _ h.row.lt (fun x => x))
  refine ⟨h.has.frA ((hf.mono (fun _ _ x => x.elim)).setCell _ _ (.inl rfl)), (hrow.set (A + q) _).congr (fun j hj => ?_)⟩
  by_cases e : j = A + q
  · subst e
    rw [if_pos rfl, if_pos (by omega), show A + q - A = q by omega]
  · rw [if_neg e]
    by_cases h1 : A ≤ j ∧ j < A + q
    · rw [if_pos h1, if_pos (by omega)]
    · rw [if_neg h1, if_neg (by omega)]

theorem rd_of_row {w : World} {b n : Nat} {t : TypeId} {f : Nat → Bool} (h : w.rowIs b t n (fun j => .bool (f j))) : Rd w 1 (.slice (some ⟨b, 0, none⟩) n n) n (((List.range n).map f).map .bool) := by
  refine ⟨_, _, rfl, Nat.le_refl _, by simp, (fun e => by cases e), fun j u hu => ⟨_, rfl, ?_⟩⟩
  have hj : j < n := by have := (List.getElem?_eq_some_iff.1 hu).1; simpa using this
  rw [List.map_map, List.getElem?_map, List.getElem?_range hj] at hu
  simp only [Option.map_some, Function.comp, Option.some.injEq] at hu
  rw [add_plain', Nat.zero_add, ← hu]
  exact h.cell hj

theorem cell_far {w : World} {b i b' i' : Nat} {u v : Value} (h : w.cell? ⟨b, i, none⟩ = some u) (hne : b ≠ b') : ((w.setCell ⟨b', i', none⟩ v).drew).cell? ⟨b, i, none⟩ = some u := by
  show (w.setCell ⟨b', i', none⟩ v).cell? ⟨b, i, none⟩ = some u
  rw [World.cell?_of_block (w := w) (heap_setCell_ne hne)]; exact h

theorem truths_row (w : World) (b d n : Nat) (f g : Nat → Bool) (t t' : TypeId) (h1 : w.rowIs b t n (fun j => .bool (f j))) (h2 : w.rowIs d t' n (fun j => .bool (g j))) (hn : n ≤ 9223372036854775807) (hfg : ∀ i, i < n → f i = g i) :
    Calls Try.prog 12 #[.slice (some ⟨b, 0, none⟩) n n, .slice (some ⟨d, 0, none⟩) n n] w fun e w' => e = .returned (.bool true) ∧ Hid (Still w w') := by
  have e : (List.range n).map f = (List.range n).map g := List.map_congr_left (fun i hi => hfg i (List.mem_range.1 hi))
  have k1 : ((List.range n).map f).length = n := by simp
  have k2 : ((List.range n).map g).length = n := by simp
  have h := truths_any w ((List.range n).map f) ((List.range n).map g) (some ⟨b, 0, none⟩) (some ⟨d, 0, none⟩) n n (by rw [k1]; exact rd_of_row h1) (by rw [k2]; exact rd_of_row h2) (by omega) (by omega)
  rw [k1, k2, decide_eq_true e] at h
  exact h

set_option maxRecDepth 100000 in
set_option maxHeartbeats 8000000 in
theorem over_in (w : World) (v v' : Value) (rows : List (List Bool)) (zs : List Int) (hv : Grid w v rows) (hz : Ints w .u64 v' zs) (h1 : rows.length ≤ 30) (h2 : zs.length ≤ 30) :
    Calls Try.prog 4 #[v, v'] w (Law w) := by
  obtain ⟨ra, rc, rfl, hrow⟩ := hv
  obtain ⟨za, zc, rfl, _, _, hzc, hzw⟩ := hz
  obtain ⟨i0, hi, hz0, hz1, hz2⟩ := info_parts Try.infoBool
  obtain ⟨O, hO⟩ : ∃ O, O = madeCells #[.bool false] 400 := ⟨_, rfl⟩
  have hmk : ∀ W : World, (Instr.makeSlice 22 (.int .i64 400) (.int .i64 400)).run Try.prog W = .ok (.slice (some ⟨W.heap.size, 0, none⟩) 400 400) (W.alloc (.cells O 4)) := fun W => by
    rw [hO]
    exact run_make_row' (P := Try.prog) 22 4 (.bool false) 1 Try.underlying22 Try.infoBool rfl .i64 .i64 400 (by omega) (by omega) W
  have hor := Lib.hid (fun (W : World) => (by rw [hO]; exact World.rowIs_made W (.bool false) 400 4 : (W.alloc (.cells O 4)).rowIs W.heap.size 4 400 (fun _ => .bool false)))
  have hnew := Lib.hid (new_h w (Fr.refl _ w))
  have haw := Lib.hid (fun (W : World) => awake_any W)
  have HR := Lib.hid hrow
  have HZ := Lib.hid hzc
  have HW := Lib.hid hzw
  clear hrow hzc hzw hO
  go_enter Try.func4, Try.ntmps4
  go_wp2_with (first
    | (go_at_call 7; refine hnew.out.mono ?_; rintro e w1 ⟨m, rfl, hm1, hf1⟩))
  have OV : Hid (Ov w (w1.alloc (.cells O 4)) m w1.heap.size (fun _ => false) 0) := Lib.hid ⟨hm1.out.avoid ((Fr.refl _ w1).alloc _) (fun b hb => by subst hb; simp), hor.out w1⟩
  obtain ⟨WB, hWB⟩ : ∃ WB, WB = w1.heap.size := ⟨_, rfl⟩
  rw [← hWB] at OV ⊢
  clear hm1 hmk hor hWB
  go_loopg [7] rows.length (fun kk i wr => ∃ (q : Nat) (p : Nat → Bool), i = .int .i64 q ∧ Hid (q ≤ rows.length ∧ Ov w wr m WB p (2 * q) ∧ rows.length - q ≤ kk))
  case atStart => exact ⟨0, _, rfl, Lib.hid ⟨Nat.zero_le _, OV.out, Nat.le_refl _⟩⟩
  case round =>
    obtain ⟨q, p, rfl, HQ⟩ := hrel
    have hq2 := HQ.out.1
    by_cases hlt : q < rows.length ∧ q < zs.length
    · obtain ⟨hl1, hl2⟩ := hlt
      obtain ⟨bs, hbs⟩ : ∃ bs, rows[q]? = some bs := ⟨_, List.getElem?_eq_getElem hl1⟩
      obtain ⟨z, hz⟩ : ∃ z, zs[q]? = some z := ⟨_, List.getElem?_eq_getElem hl2⟩
      obtain ⟨A, rfl, hA⟩ := nat_of_u64 (HW.out z (List.mem_of_getElem? hz))
      obtain ⟨rb, ro, rfl, a, c, hc1, hrd, hlen⟩ := HR.out q bs hbs
      obtain ⟨zb, zo, rfl, hc2⟩ := HZ.out q _ hz
      have HFR := Lib.hid HQ.out.2.1.has.fr
      have e1 := cell_through HFR.out hc1 (fun x => x)
      have e2 := cell_through HFR.out hc2 (fun x => x)
      have HRD : Hid (Rd wr 1 (.slice a bs.length c) bs.length (bs.map .bool)) := Lib.hid (hrd.fr HFR.out (fun _ _ x => x))
      have HC := Lib.hid (And.intro hc2 hc1)
      have HM := Lib.hid hrd
      clear hbs hz hc1 hc2 hrd
      by_cases g1 : bs.length < 1
      · go_wp2_with fail
        go_ret
        exact ⟨rfl, HFR.out⟩
      by_cases g2 : 100 < bs.length
      · go_wp2_with fail
        go_ret
        exact ⟨rfl, HFR.out⟩
      by_cases g3 : 300 < A
      · go_wp2_with fail
        go_ret
        exact ⟨rfl, HFR.out⟩
      have q0 : ¬ bs = [] := by intro h; subst h; simp at g1
      obtain ⟨B, hB⟩ : ∃ B, B = 100 + A := ⟨_, rfl⟩
      obtain ⟨C, hC⟩ : ∃ C, C = 8 * B := ⟨_, rfl⟩
      obtain ⟨D, hD⟩ : ∃ D, D = 8 * bs.length := ⟨_, rfl⟩
      have j0 : (0 : Int) ≤ ((q : Nat) : Int) := by omega
      have j1 : ((q : Nat) : Int) < ((rows.length : Nat) : Int) := by omega
      have j2 : ((q : Nat) : Int) < ((zs.length : Nat) : Int) := by omega
      have hl : 0 < bs.length := by omega
      have WC := Lib.hid (fun (W : World) (a2 : Option Addr) (c2 : Nat) (hW : Fr (fun _ => False) wr W) (hr : Rd W 1 (.slice a2 bs.length c2) bs.length (bs.map .bool)) =>
        write_h (HQ.out.2.1.has.quiet hW) C D (by omega) (by omega) (by omega) (bs.length : Nat) bs a2 c2 1 (by omega) hr 0 (by
          have hR : Right C D := by unfold Right; omega
          unfold wcode
          rw [if_neg (by rintro (h | h | h | h); exact h hR; omega; omega; exact h rfl), if_neg (by rw [hD, Nat.mul_div_cancel_left _ (by decide : 0 < 8), Nat.div_self hl]; omega)]))
      have HD := Lib.hid (And.intro hB (And.intro hC hD))
      have u1 : IntKind.u64.wrap (100 + ((A : Nat) : Int)) = ((B : Nat) : Int) := (IntWalk.u64_in _ ⟨by omega, by omega⟩).trans (by omega)
      have u2 : IntKind.u64.wrap (8 * ((B : Nat) : Int)) = ((C : Nat) : Int) := (IntWalk.u64_in _ ⟨by omega, by omega⟩).trans (by omega)
      have u3 : IntKind.u64.wrap ((bs.length : Nat) : Int) = ((bs.length : Nat) : Int) := IntWalk.u64_in _ ⟨by omega, by omega⟩
      have u4 : IntKind.u64.wrap (8 * ((bs.length : Nat) : Int)) = ((D : Nat) : Int) := (IntWalk.u64_in _ ⟨by omega, by omega⟩).trans (by omega)
      have m1 : bs.length ≤ maxLen := by simp only [maxLen]; omega
      have m2 : bs.length * 1 ≤ 140737488355328 := by omega
      have E := Lib.hid (And.intro e2 e1)
      clear hB hC hD
      go_wp2_with fail
      go_region_held3 (fun w' => w'.cell? ⟨zb, zo + q, none⟩ = some (.int .u64 (A : Nat)) ∧ w'.cell? ⟨rb, ro + q, none⟩ = some (.slice a bs.length c)) (first | go_keep | exact ⟨cell_through (((Fr.refl _ wr).drew.alloc _).trans HF2.out (fun _ _ x => x)) E.out.1 (fun x => x), cell_through (((Fr.refl _ wr).drew.alloc _).trans HF2.out (fun _ _ x => x)) E.out.2 (fun x => x)⟩ | exact ⟨cell_through hm3.out.fr HC.out.1 (fun x => x), cell_through hm3.out.fr HC.out.2 (fun x => x)⟩) ((first
        | (refine step_plain (by rfl) (wp_append_new _ _ 22 (by rfl) 4 i0 _ 1 1 Try.underlying22 hi hz0 hz1 hz2 (by rfl) (by decide) _ (by rfl) _ bs.length (bs.map .bool) (by rfl) (HRD.out.fr (S := fun _ => False) (((Fr.refl _ wr).drew).alloc _) (fun _ _ x => x)) m1 m2 ?_); intro a2 c2 w2 hr2 hf2; have HF2 := Lib.hid hf2; have HR2 := Lib.hid hr2; clear hf2 hr2)
        | (go_at_call 8; refine (WC.out w2 a2 c2 (((Fr.refl _ wr).drew.alloc _).trans HF2.out (fun _ _ x => x)) HR2.out).mono ?_; rintro e w3 ⟨rfl, hm3, hf3⟩)))
      clear u1 u2 u3 u4
      go_wp2_with fail
      have MD : Hid (Mid w w3 m WB A p bs (2 * q + 2) 0) := Lib.hid (by
        have hw3 : Fr (fun b => b = m) wr w3 := ((((Fr.refl _ wr).drew.alloc _).trans HF2.out (fun _ _ x => x)).mono (T := fun b => b = m) (fun _ _ x => x.elim)).trans hf3.out (fun _ _ x => x)
        refine ⟨?_, (HQ.out.2.1.row.of_block (hw3.same _ HQ.out.2.1.row.lt (fun e => HQ.out.2.1.has.root.2 e.symm))).congr (fun j hj => by rw [if_neg (by omega)])⟩
        have h := hm3.out
        rw [if_pos trivial, show C / 8 = 100 + A by have := HD.out; omega, show (C + D) / 8 = 100 + A + bs.length by have := HD.out; omega] at h
        exact h)
      clear WC HRD E hm3
      go_loopg [8] bs.length (fun kk i wx => ∃ k : Nat, i = .int .i64 k ∧ Hid (k ≤ bs.length ∧ Mid w wx m WB A p bs (2 * q + 2) k ∧ bs.length - k ≤ kk))
      case atStart => exact ⟨0, rfl, Lib.hid ⟨Nat.zero_le _, MD.out, Nat.le_refl _⟩⟩
      case round =>
        obtain ⟨k, rfl, HK⟩ := hrel
        have hk1 := HK.out.1
        have MF := Lib.hid HK.out.2.1.has.fr
        have f1 := cell_through MF.out HC.out.1 (fun x => x)
        have f2 := cell_through MF.out HC.out.2 (fun x => x)
        clear e1 e2
        by_cases hkl : k < bs.length
        · obtain ⟨mb, mo, rfl, hcm⟩ := rd_at (HM.out.fr (S := fun _ => False) MF.out (fun _ _ x => x)) (bools_get hkl)
          obtain ⟨G, hG⟩ : ∃ G, G = A + k := ⟨_, rfl⟩
          have y0 := HK.out.2.1.row.cell (i := G) (by omega)
          have y1 := HK.out.2.1.row.frozen G
          have j3 : (0 : Int) ≤ ((k : Nat) : Int) := by omega
          have j4 : ((k : Nat) : Int) < ((bs.length : Nat) : Int) := by omega
          have j5 : (0 : Int) ≤ ((G : Nat) : Int) := by omega
          have j6 : ((G : Nat) : Int) < 400 := by omega
          have n1 : zb ≠ WB := fun e => by have h1 := World.block_lt_of_cell? _ _ HC.out.1; have h2 := (HK.out.2.1.has.away WB rfl).1; simp only at h1; omega
          have n2 : rb ≠ WB := fun e => by have h1 := World.block_lt_of_cell? _ _ HC.out.2; have h2 := (HK.out.2.1.has.away WB rfl).1; simp only at h1; omega
          have n3 : mb ≠ WB := fun e => by
            obtain ⟨b2, o2, hh, hc⟩ := rd_at HM.out (bools_get hkl)
            simp only [Option.some.injEq, Addr.mk.injEq] at hh
            have h1 := World.block_lt_of_cell? _ _ hc
            have h2 := (HK.out.2.1.has.away WB rfl).1
            simp only at h1
            omega
          have HG := Lib.hid hG
          have KS := Lib.hid (⟨cell_far f1 n1, cell_far f2 n2, cell_far hcm n3⟩ : ((wr.setCell ⟨WB, G, none⟩ (.bool (bit bs k))).drew).cell? ⟨zb, zo + q, none⟩ = _ ∧ ((wr.setCell ⟨WB, G, none⟩ (.bool (bit bs k))).drew).cell? ⟨rb, ro + q, none⟩ = _ ∧ ((wr.setCell ⟨WB, G, none⟩ (.bool (bit bs k))).drew).cell? ⟨mb, mo + k, none⟩ = _)
          have u5 : IntKind.u64.wrap ((k : Nat) : Int) = ((k : Nat) : Int) := IntWalk.u64_in _ ⟨by omega, by omega⟩
          have u6 : IntKind.u64.wrap (((A : Nat) : Int) + ((k : Nat) : Int)) = ((G : Nat) : Int) := (IntWalk.u64_in _ ⟨by omega, by omega⟩).trans (by omega)
          clear hG
          go_wp2_with fail
          go_region
          clear u5 u6
          go_wp2_with fail
          go_roundg (bs.length - (k + 1))
          case measure => have := HK.out.2.2; omega
          case rel =>
            rw [HG.out]
            exact ⟨k + 1, by go_num, Lib.hid ⟨hkl, HK.out.2.1.set ((Fr.refl _ _).drew), Nat.le_refl _⟩⟩
        · have hke : k = bs.length := by omega
          subst hke
          go_wp2_with fail
          go_roundg (rows.length - (q + 1))
          case measure => have := HQ.out.2.2; omega
          case rel => exact ⟨q + 1, _, by go_num, Lib.hid ⟨hl1, Mid.done hl HK.out.2.1, Nat.le_refl _⟩⟩
    · by_cases hl1 : q < rows.length
      · have hl2 : ¬ q < zs.length := fun h2 => hlt ⟨hl1, h2⟩
        clear hlt
        have OQ := Lib.hid HQ.out.2.1
        have RD := Lib.hid (read_h OQ.out.has 800 3200 (by omega) (by omega) (by omega) (by unfold Right; omega))
        go_wp2_with (go_at_call 9; refine RD.out.mono ?_; rintro e w4 ⟨b, rfl, hb, hr4, hf4⟩)
        have O4 : Hid (Ov w w4 m WB p (2 * q)) := Lib.hid ⟨OQ.out.has.quiet hf4.out, OQ.out.row.of_block (hf4.out.same _ OQ.out.row.lt (fun x => x))⟩
        have hq60 : 2 * q ≤ 60 := by omega
        clear RD OQ
        go_loopg [11, 12] 400 (fun kk x i wx => wx = w4 ∧ ∃ k : Nat, i = .int .i64 k ∧ x = .int .u64 (cntTo (fun j => p (100 + j)) k : Nat) ∧ Hid (k ≤ 400 ∧ 400 - k ≤ kk))
        case atStart => exact ⟨rfl, 0, rfl, rfl, Lib.hid ⟨Nat.zero_le _, Nat.le_refl _⟩⟩
        case round =>
          obtain ⟨rfl, k, rfl, rfl, HK⟩ := hrel
          have hk4 := HK.out.1
          by_cases hkl : k < 400
          · have y0 := O4.out.row.cell (i := k) hkl
            have hcl := cntTo_le (fun j => p (100 + j)) k
            have S : Hid (cntTo (fun j => p (100 + j)) (k + 1) = cntTo (fun j => p (100 + j)) k + if p (100 + k) then 1 else 0) := Lib.hid rfl
            cases hpk : p (100 + k) with
            | true =>
              rw [hpk] at y0
              have HP := Lib.hid hpk
              clear hpk
              go_wp2_with fail
              go_roundg (400 - (k + 1))
              case measure => have := HK.out.2; omega
              case rel => exact ⟨rfl, k + 1, by go_num, by rw [S.out, HP.out]; go_num, Lib.hid ⟨hkl, Nat.le_refl _⟩⟩
            | false =>
              rw [hpk] at y0
              have HP := Lib.hid hpk
              clear hpk
              go_wp2_with fail
              go_roundg (400 - (k + 1))
              case measure => have := HK.out.2; omega
              case rel => exact ⟨rfl, k + 1, by go_num, by rw [S.out, HP.out]; go_num, Lib.hid ⟨hkl, Nat.le_refl _⟩⟩
          · have hke : k = 400 := by omega
            subst hke
            have PT := Lib.hid (ptrs_h O4.out.has 800 3200 (by omega) (by omega) (by omega) (by unfold Right; omega) (cntTo (fun j => p (100 + j)) 400) (by
              have h := cnt_shift p 100 0 400
              rw [show (800 : Nat) / 8 = 100 + 0 from rfl, show ((800 : Nat) + 3200) / 8 = 100 + 400 from rfl, ← h]
              unfold cnt; simp [cntTo]))
            obtain ⟨N, hN⟩ : ∃ N, N = cntTo (fun j => p (100 + j)) 400 := ⟨_, rfl⟩
            rw [← hN] at PT ⊢
            clear hN
            go_wp2_with (first
              | (go_at_call 10; refine PT.out.mono ?_; rintro e w5 ⟨rfl, hf5⟩)
              | (go_at_call 12; refine (truths_row w5 b WB 400 (fun j => p (100 + j)) (fun j => p (100 + j)) _ _ (hr4.out.of_block (hf5.out.same _ hr4.out.lt (fun x => x))) (O4.out.row.of_block (hf5.out.same _ O4.out.row.lt (fun x => x))) (by omega) (fun _ _ => rfl)).mono ?_; rintro e w6 ⟨rfl, hs6⟩; have hf6 := Lib.hid hs6.out.fr)
              | (go_at_call 11; refine (haw.out _).mono ?_; rintro e w7 ⟨rfl, hf7⟩))
            go_ret
            exact ⟨rfl, ((O4.out.has.fr.trans hf5.out (fun _ _ x => x)).trans hf6.out (fun _ _ x => x)).trans hf7.out (fun _ _ x => x)⟩
      · clear hlt
        have OQ := Lib.hid HQ.out.2.1
        have RD := Lib.hid (read_h OQ.out.has 800 3200 (by omega) (by omega) (by omega) (by unfold Right; omega))
        go_wp2_with (go_at_call 9; refine RD.out.mono ?_; rintro e w4 ⟨b, rfl, hb, hr4, hf4⟩)
        have O4 : Hid (Ov w w4 m WB p (2 * q)) := Lib.hid ⟨OQ.out.has.quiet hf4.out, OQ.out.row.of_block (hf4.out.same _ OQ.out.row.lt (fun x => x))⟩
        have hq60 : 2 * q ≤ 60 := by omega
        clear RD OQ
        go_loopg [11, 12] 400 (fun kk x i wx => wx = w4 ∧ ∃ k : Nat, i = .int .i64 k ∧ x = .int .u64 (cntTo (fun j => p (100 + j)) k : Nat) ∧ Hid (k ≤ 400 ∧ 400 - k ≤ kk))
        case atStart => exact ⟨rfl, 0, rfl, rfl, Lib.hid ⟨Nat.zero_le _, Nat.le_refl _⟩⟩
        case round =>
          obtain ⟨rfl, k, rfl, rfl, HK⟩ := hrel
          have hk4 := HK.out.1
          by_cases hkl : k < 400
          · have y0 := O4.out.row.cell (i := k) hkl
            have hcl := cntTo_le (fun j => p (100 + j)) k
            have S : Hid (cntTo (fun j => p (100 + j)) (k + 1) = cntTo (fun j => p (100 + j)) k + if p (100 + k) then 1 else 0) := Lib.hid rfl
            cases hpk : p (100 + k) with
            | true =>
              rw [hpk] at y0
              have HP := Lib.hid hpk
              clear hpk
              go_wp2_with fail
              go_roundg (400 - (k + 1))
              case measure => have := HK.out.2; omega
              case rel => exact ⟨rfl, k + 1, by go_num, by rw [S.out, HP.out]; go_num, Lib.hid ⟨hkl, Nat.le_refl _⟩⟩
            | false =>
              rw [hpk] at y0
              have HP := Lib.hid hpk
              clear hpk
              go_wp2_with fail
              go_roundg (400 - (k + 1))
              case measure => have := HK.out.2; omega
              case rel => exact ⟨rfl, k + 1, by go_num, by rw [S.out, HP.out]; go_num, Lib.hid ⟨hkl, Nat.le_refl _⟩⟩
          · have hke : k = 400 := by omega
            subst hke
            have PT := Lib.hid (ptrs_h O4.out.has 800 3200 (by omega) (by omega) (by omega) (by unfold Right; omega) (cntTo (fun j => p (100 + j)) 400) (by
              have h := cnt_shift p 100 0 400
              rw [show (800 : Nat) / 8 = 100 + 0 from rfl, show ((800 : Nat) + 3200) / 8 = 100 + 400 from rfl, ← h]
              unfold cnt; simp [cntTo]))
            obtain ⟨N, hN⟩ : ∃ N, N = cntTo (fun j => p (100 + j)) 400 := ⟨_, rfl⟩
            rw [← hN] at PT ⊢
            clear hN
            go_wp2_with (first
              | (go_at_call 10; refine PT.out.mono ?_; rintro e w5 ⟨rfl, hf5⟩)
              | (go_at_call 12; refine (truths_row w5 b WB 400 (fun j => p (100 + j)) (fun j => p (100 + j)) _ _ (hr4.out.of_block (hf5.out.same _ hr4.out.lt (fun x => x))) (O4.out.row.of_block (hf5.out.same _ O4.out.row.lt (fun x => x))) (by omega) (fun _ _ => rfl)).mono ?_; rintro e w6 ⟨rfl, hs6⟩; have hf6 := Lib.hid hs6.out.fr)
              | (go_at_call 11; refine (haw.out _).mono ?_; rintro e w7 ⟨rfl, hf7⟩))
            go_ret
            exact ⟨rfl, ((O4.out.has.fr.trans hf5.out (fun _ _ x => x)).trans hf6.out (fun _ _ x => x)).trans hf7.out (fun _ _ x => x)⟩

theorem over_out (w : World) (v v' : Value) (rows : List (List Bool)) (zs : List Int) (hv : Grid w v rows) (hz : Ints w .u64 v' zs) (hm : rows.length ≤ 9223372036854775807) (hout : 30 < rows.length ∨ 30 < zs.length) :
    Calls Try.prog 4 #[v, v'] w (Law w) := by
  obtain ⟨ra, rc, rfl, _⟩ := hv
  obtain ⟨za, zc, rfl, hm1, hm2, _⟩ := hz
  unfold maxLen at hm2
  have hm3 : zs.length ≤ 9223372036854775807 := by omega
  clear hm1 hm2
  by_cases h1 : 30 < rows.length
  · clear hout
    go_enter Try.func4, Try.ntmps4
    go_wp2
    go_ret
    exact ⟨rfl, Fr.refl _ _⟩
  · have h2 : 30 < zs.length := by omega
    clear hout
    go_enter Try.func4, Try.ntmps4
    go_wp2
    go_ret
    exact ⟨rfl, Fr.refl _ _⟩

theorem over_said (w : World) (v v' : Value) (rows : List (List Bool)) (zs : List Int) (hv : Grid w v rows) (hz : Ints w .u64 v' zs) (hm : rows.length ≤ 9223372036854775807) : Calls Try.prog 4 #[v, v'] w (Law w) := by
  by_cases h : 30 < rows.length ∨ 30 < zs.length
  · exact over_out w v v' rows zs hv hz hm h
  · exact over_in w v v' rows zs hv hz (by omega) (by omega)
end Go.Proofs.Ytcnnibhipjkgiaa
