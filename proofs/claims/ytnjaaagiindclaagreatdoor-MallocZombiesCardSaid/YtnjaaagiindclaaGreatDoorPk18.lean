/-
  Part 18 of what the statement leans on: One4.
-/
import Derived.Test.YtnjaaagiindclaaGreatDoorPk14
import Derived.Test.YtnjaaagiindclaaGreatDoorPk17
/-
  Sets of numbers: Add.
-/
namespace Go.Proofs.YtnjaaagiindclaaGreatDoor
open Go.RowKit Go.Deep
namespace One
/-- does the one that begins at tt join? its number, and where the new one ends -/
def jr (l : List P2) (r tt : Nat) : Nat × Nat := match l[r]? with
  | some e => if e.1 = tt then (r + 1, e.2) else (r, tt)
  | none => (r, tt)
/-- does the one that ends at fr join? -/
def jl (l : List P2) (r fr : Nat) : Nat × Nat := match r with
  | 0 => (0, fr)
  | k + 1 => (match l[k]? with
    | some e => if e.2 = fr then (k, e.1) else (k + 1, fr)
    | none => (k + 1, fr))
def addJ (l : List P2) (r fr tt : Nat) : List P2 := l.take (jl l r fr).1 ++ (((jl l r fr).2, (jr l r tt).2) :: l.drop (jr l r tt).1)
theorem jr_le (l : List P2) (r tt : Nat) (h : r ≤ l.length) : (jr l r tt).1 ≤ l.length := by
  unfold jr
  split
  next e he =>
    have := (List.getElem?_eq_some_iff.1 he).1
    split
    · exact this
    · exact h
  · exact h
theorem jl_le (l : List P2) (r fr : Nat) : (jl l r fr).1 ≤ r := by
  unfold jl
  split
  · exact Nat.le_refl _
  · split
    · split
      · exact Nat.le_succ _
      · exact Nat.le_refl _
    · exact Nat.le_refl _
theorem jr_ge (l : List P2) (r tt : Nat) : r ≤ (jr l r tt).1 := by
  unfold jr
  split
  · split
    · exact Nat.le_succ _
    · exact Nat.le_refl _
  · exact Nat.le_refl _
theorem set4 (c : Array Value) (o : Nat) (x y z u : Value) : ((((c.setIfInBounds (o + 1) x).setIfInBounds o y).setIfInBounds (o + 1) z).setIfInBounds o u) = (c.setIfInBounds (o + 1) z).setIfInBounds o u := by
  apply Array.ext_getElem?
  intro i
  simp only [Array.getElem?_setIfInBounds, Array.size_setIfInBounds]
  by_cases h1 : o = i
  · simp [h1]
  · by_cases h2 : o + 1 = i
    · simp [h1, h2]
    · simp [h1, h2]
theorem enc_one (l m : List P2) (a b : Nat) : enc (l ++ (a, b) :: m) = enc l ++ [.int .u64 (a : Int), .int .u64 (b : Int)] ++ enc m := by
  simp [enc]
set_option maxRecDepth 100000 in
set_option maxHeartbeats 8000000 in
theorem add_any {b o : Nat} {c : Array Value} {t : TypeId} {v : Value} {s : Nat} {l : List P2} (w : World) (h : SetIn w b o c t v s l) (fr tt : Nat) (hft : fr < tt) (htt : tt ≤ 18446744073709551615)
    (hs : ∀ r, AtIs l fr r → cntR fr tt (l.drop r) ≤ s) (hs2 : s ≤ 18446744073709551615) {l1 : List P2} {s1 : Nat} (h1 : ∀ r, AtIs l fr r → l.take r ++ (mids fr tt (l.drop r) ++ tailR tt (l.drop r)) = l1 ∧ s - cntR fr tt (l.drop r) = s1)
    (hc : Can l1) (hn : l1.length ≤ 999999) (hsum : s1 + (tt - fr) ≤ 18446744073709551615) :
    Calls Tryz.prog 188 #[.pointer (some ⟨b, o, none⟩), .int .u64 fr, .int .u64 tt] w fun e w' => ∃ (r : Nat) (v' : Value), e = .returned (.tuple #[]) ∧ Hid (AtIs l1 fr r ∧ Fr (fun x => x = b) w w' ∧
      w'.heap[b]? = some (.cells ((c.setIfInBounds (o + 1) (.int .u64 ((s1 + (tt - fr) : Nat) : Int))).setIfInBounds o v') t (0, 0)) ∧
      w'.ownsRow w.heap.size 290 2 v' (addJ l1 r fr tt).length (enc (addJ l1 r fr tt))) := by
  obtain ⟨i0, hi, hz0, hz1, hz2⟩ := info_parts oneInfo
  have HC := Lib.hid (cut_any w h fr tt hft htt hs hs2)
  have H := Lib.hid h
  have H1 := Lib.hid h1
  have HCan := Lib.hid hc
  have hbw := lt_blk h.blk
  have hos : o + 1 < c.size := (Array.getElem?_eq_some_iff.1 h.cs).1
  clear h h1 hc hs
  have hftI : (fr : Int) < (tt : Int) := by omega
  go_enter Tryz.func188, Tryz.ntmps188
  go_upto_region 2 with (go_at_call 187; refine HC.out.mono ?_; rintro e w1 ⟨r, v1, rfl, hq⟩)
  obtain ⟨hr, hf1, hb1, ho1⟩ := hq.out
  obtain ⟨q1, q2⟩ := H1.out r hr
  rw [q1] at ho1
  rw [q2] at hb1
  obtain ⟨c1, hc1⟩ : ∃ c1, c1 = (c.setIfInBounds (o + 1) (.int .u64 (s1 : Int))).setIfInBounds o v1 := ⟨_, rfl⟩
  have S1 : SetIn w1 b o c1 t v1 s1 l1 := by
    refine ⟨by rw [hc1]; exact hb1, ?_, ?_, ownsRow_rd ho1, .inr fun a ⟨k, hk⟩ e => ?_, HCan.out, by omega⟩
    · rw [hc1, Array.getElem?_setIfInBounds_self_of_lt (by simp; omega)]
    · rw [hc1, Array.getElem?_setIfInBounds_ne (by omega), Array.getElem?_setIfInBounds_self_of_lt hos]
    · have := own_ge ho1 (g := a.block) (by rw [hk]; rfl)
      omega
  have e1 : w1.cell? ⟨b, o + 1, none⟩ = some (.int .u64 (s1 : Int)) := S1.at.sum
  have f1 : w1.frozen? ⟨b, o + 1, none⟩ = false := free_blk S1.blk (o + 1)
  have ez : ((s1 : Int) + ((tt : Int) - (fr : Int))) = ((s1 + (tt - fr) : Nat) : Int) := by omega
  have ez2 : IntKind.u64.wrap ((s1 + (tt - fr) : Nat) : Int) = ((s1 + (tt - fr) : Nat) : Int) := wrap_u64 (by omega) (by omega)
  have S1' := Lib.hid S1
  have F1 := Lib.hid hf1
  have O1 := Lib.hid ho1
  clear hq hr hf1 hb1 ho1 q1 q2 S1 HC
  go_upto_region 3 with fail
  clear ez ez2 e1 f1
  rw [show ((s1 : Int) + ((tt - fr : Nat) : Int)) = ((s1 + (tt - fr) : Nat) : Int) from by omega]
  obtain ⟨s2, hs2'⟩ : ∃ s2, s2 = s1 + (tt - fr) := ⟨_, rfl⟩
  rw [← hs2']
  obtain ⟨w2, hw2⟩ : ∃ w2, w2 = w1.setCell ⟨b, o + 1, none⟩ (.int .u64 ((s2 : Nat) : Int)) := ⟨_, rfl⟩
  rw [← hw2]
  have F2 : Fr (fun x => x = b) w1 w2 := by rw [hw2]; exact (Fr.refl _ w1).setCell _ _ (.inl rfl)
  have S2 : SetIn w2 b o (c1.setIfInBounds (o + 1) (.int .u64 (s2 : Int))) t v1 s2 l1 := S1'.out.set F2 (by rw [hw2]; exact heap_setCell_at S1'.out.blk)
  obtain ⟨c2, hc2⟩ : ∃ c2, c2 = c1.setIfInBounds (o + 1) (.int .u64 (s2 : Int)) := ⟨_, rfl⟩
  rw [← hc2] at S2
  have C2 := Lib.hid (And.intro hc1 (And.intro hc2 hs2'))
  have F2 := Lib.hid F2
  have S2 := Lib.hid S2
  have O2 := Lib.hid (show ∀ a, (∃ k, v1 = .slice (some a) l1.length k) → w.heap.size ≤ a.block from fun a ⟨k, hk⟩ => (own_ge O1.out (g := a.block) (by rw [hk]; rfl)).1)
  have hat := Lib.hid (at_any w2 S2.out.at fr)
  have hn2 := O1.out
  clear hw2 hc1 hc2 hs2' S1' O1 hn2
  go_upto_region 6 with (go_at_call 206; refine hat.out.mono ?_; rintro e w3 ⟨r1, rfl, hr1, hf3⟩)
  have hrl := hr1.out.1
  have S3 := Lib.hid (S2.out.quiet hf3.out)
  clear hat
  have G0 : Fr (fun _ => False) w3 (w3.alloc (.cells #[.int .u64 (fr : Int), .int .u64 (tt : Int)] 290)) := (Fr.refl _ w3).alloc _
  have hx0 : (w3.alloc (.cells #[.int .u64 (fr : Int), .int .u64 (tt : Int)] 290)).heap[w3.heap.size]? = some (.cells #[.int .u64 (fr : Int), .int .u64 (tt : Int)] 290 (0, 0)) := by rw [heap_alloc, if_pos rfl]
  have X0 : Hid (Fr (fun _ => False) w3 (w3.alloc (.cells #[.int .u64 (fr : Int), .int .u64 (tt : Int)] 290)) ∧ (w3.alloc (.cells #[.int .u64 (fr : Int), .int .u64 (tt : Int)] 290)).heap[w3.heap.size]? = some (.cells #[.int .u64 (fr : Int), .int .u64 (tt : Int)] 290 (0, 0))) := Lib.hid ⟨G0, hx0⟩
  clear G0 hx0
  go_cut [51] (fun z wx => ∃ bb : Bool, z = .bool bb ∧ Hid ((bb = true → ∃ eb, l1[r1]? = some (tt, eb)) ∧ (bb = false → jr l1 r1 tt = (r1, tt)) ∧ Fr (fun _ => False) w3 wx ∧ wx.heap[w3.heap.size]? = some (.cells #[.int .u64 (fr : Int), .int .u64 (tt : Int)] 290 (0, 0))))
  case first =>
    have S4 := S3.out.quiet X0.out.1
    obtain ⟨al, cl, hv, hle, hpc⟩ := S4.at.piece
    have hcell := S4.at.cell
    rw [hv] at hcell
    clear S4
    by_cases hlt : r1 < l1.length
    · obtain ⟨e, hei⟩ : ∃ e, l1[r1]? = some e := ⟨_, List.getElem?_eq_getElem hlt⟩
      obtain ⟨pb, po, rfl, x0, x1⟩ := hpc _ _ hei
      have HE := Lib.hid hei
      obtain ⟨ea, eb⟩ := e
      simp only at x0 x1
      have HV := Lib.hid (And.intro hv hle)
      clear hpc hv hei hle
      by_cases hin : ea = tt
      · have hd : ((ea : Int) == (tt : Int)) = true := by simp [hin]
        have hd2 : (ea : Int) = (tt : Int) := by omega
        have K : Hid (∃ eb, l1[r1]? = some (tt, eb)) := Lib.hid ⟨eb, by rw [HE.out, hin]⟩
        go_wp2
        go_meet
        exact ⟨true, by first | rfl | simp [hin], Lib.hid ⟨fun _ => K.out, fun h => (by cases h), X0.out⟩⟩
      · have K := Lib.hid (show jr l1 r1 tt = (r1, tt) by unfold jr; rw [HE.out]; exact (if_neg hin))
        have hd2 : ¬ (ea : Int) = (tt : Int) := by omega
        have hd : ((ea : Int) == (tt : Int)) = false := by simp [hd2]
        go_wp2
        go_meet
        exact ⟨false, by first | rfl | simp [hin], Lib.hid ⟨fun h => (by cases h), fun _ => K.out, X0.out⟩⟩
    · have K := Lib.hid (show jr l1 r1 tt = (r1, tt) by unfold jr; rw [List.getElem?_eq_none (by omega)])
      clear hpc hv hle
      go_wp2
      go_meet
      exact ⟨false, rfl, Lib.hid ⟨fun h => (by cases h), fun _ => K.out, X0.out⟩⟩
  case rest =>
    obtain ⟨bb, rfl, R1⟩ := hcut
    clear X0
    go_upto_if 51 with fail
    go_cut [8] (fun k wx => ∃ q x2 : Nat, k = .int .i64 q ∧ Hid ((q, x2) = jr l1 r1 tt ∧ Fr (fun _ => False) w3 wx ∧ wx.heap[w3.heap.size]? = some (.cells #[.int .u64 (fr : Int), .int .u64 (x2 : Int)] 290 (0, 0))))
    case first =>
      cases bb with
      | true =>
        obtain ⟨eb, hei⟩ := R1.out.1 rfl
        have S4 := S3.out.quiet R1.out.2.2.1
        obtain ⟨al, cl, hv, hle, hpc⟩ := S4.at.piece
        have hcell := S4.at.cell
        rw [hv] at hcell
        have hlt := (List.getElem?_eq_some_iff.1 hei).1
        obtain ⟨pb, po, rfl, x0, x1⟩ := hpc _ _ hei
        simp only at x0 x1
        have xc := (blk2 R1.out.2.2.2).2
        have xf := free_blk R1.out.2.2.2 1
        have K := Lib.hid (show (r1 + 1, eb) = jr l1 r1 tt by unfold jr; rw [hei]; exact (if_pos rfl).symm)
        clear hpc hv hei hle S4
        go_wp2
        go_meet
        refine ⟨r1 + 1, eb, by go_num, Lib.hid ⟨K.out, R1.out.2.2.1.trans ((Fr.refl (fun x => x = w3.heap.size) _).setCell ⟨w3.heap.size, 1, none⟩ _ (.inl rfl)) ?_, ?_⟩⟩
        · intro z hz e; subst e; exact absurd hz (Nat.lt_irrefl _)
        · exact heap_setCell_at R1.out.2.2.2
      | false =>
        have K := Lib.hid (And.intro (R1.out.2.1 rfl).symm R1.out.2.2)
        go_wp2
        go_meet
        exact ⟨r1, tt, rfl, K⟩
    case rest =>
      obtain ⟨q, x2, rfl, R2⟩ := hcut
      clear R1
      go_upto_region 9 with fail
      go_cut [77] (fun z wx => ∃ bb : Bool, z = .bool bb ∧ Hid ((bb = true → ∃ k ea, r1 = k + 1 ∧ l1[k]? = some (ea, fr)) ∧ (bb = false → jl l1 r1 fr = (r1, fr)) ∧ Fr (fun _ => False) w3 wx ∧ wx.heap[w3.heap.size]? = some (.cells #[.int .u64 (fr : Int), .int .u64 (x2 : Int)] 290 (0, 0))))
      case first =>
        have S4 := S3.out.quiet R2.out.2.1
        obtain ⟨al, cl, hv, hle, hpc⟩ := S4.at.piece
        have hcell := S4.at.cell
        rw [hv] at hcell
        clear S4
        by_cases hlt : 0 < r1
        · obtain ⟨k, rfl⟩ : ∃ k, r1 = k + 1 := ⟨r1 - 1, by omega⟩
          obtain ⟨e, hei⟩ : ∃ e, l1[k]? = some e := ⟨_, List.getElem?_eq_getElem (by omega)⟩
          obtain ⟨pb, po, rfl, x0, x1⟩ := hpc _ _ hei
          have HE := Lib.hid hei
          obtain ⟨ea, eb⟩ := e
          simp only at x0 x1
          have HV := Lib.hid (And.intro hv hle)
          have hk1 : ((k + 1 : Nat) : Int) - 1 = (k : Int) := by omega
          have hk2 : (((k + 1 : Nat) : Int) - 1).toNat = k := by omega
          have hgt : decide (((k + 1 : Nat) : Int) > 0) = true := by simp
          clear hpc hv hei hle
          by_cases hin : eb = fr
          · have hd : ((eb : Int) == (fr : Int)) = true := by simp [hin]
            have hd2 : (eb : Int) = (fr : Int) := by omega
            have K : Hid (∃ k' ea, k + 1 = k' + 1 ∧ l1[k']? = some (ea, fr)) := Lib.hid ⟨k, ea, rfl, by rw [HE.out, hin]⟩
            go_wp2
            go_meet
            exact ⟨true, by first | rfl | simp [hin], Lib.hid ⟨fun _ => K.out, fun h => (by cases h), R2.out.2⟩⟩
          · have K := Lib.hid (show jl l1 (k + 1) fr = (k + 1, fr) by unfold jl; simp only; rw [HE.out]; exact (if_neg hin))
            have hd2 : ¬ (eb : Int) = (fr : Int) := by omega
            have hd : ((eb : Int) == (fr : Int)) = false := by simp [hd2]
            go_wp2
            go_meet
            exact ⟨false, by first | rfl | simp [hin], Lib.hid ⟨fun h => (by cases h), fun _ => K.out, R2.out.2⟩⟩
        · obtain rfl : r1 = 0 := by omega
          have K := Lib.hid (show jl l1 0 fr = (0, fr) from rfl)
          clear hpc hv hle
          go_wp2
          go_meet
          exact ⟨false, rfl, Lib.hid ⟨fun h => (by cases h), fun _ => K.out, R2.out.2⟩⟩
      case rest =>
        obtain ⟨bb, rfl, R3⟩ := hcut
        go_upto_if 77 with fail
        go_cut [6] (fun z wx => ∃ p x1 : Nat, z = .int .i64 p ∧ Hid ((p, x1) = jl l1 r1 fr ∧ Fr (fun _ => False) w3 wx ∧ wx.heap[w3.heap.size]? = some (.cells #[.int .u64 (x1 : Int), .int .u64 (x2 : Int)] 290 (0, 0))))
        case first =>
          cases bb with
          | true =>
            obtain ⟨k, ea, rfl, hei⟩ := R3.out.1 rfl
            have S4 := S3.out.quiet R3.out.2.2.1
            obtain ⟨al, cl, hv, hle, hpc⟩ := S4.at.piece
            have hcell := S4.at.cell
            rw [hv] at hcell
            have hlt := (List.getElem?_eq_some_iff.1 hei).1
            obtain ⟨pb, po, rfl, x0, x1⟩ := hpc _ _ hei
            simp only at x0 x1
            have xc := (blk2 R3.out.2.2.2).1
            have xf := free_blk R3.out.2.2.2 0
            have K := Lib.hid (show (k, ea) = jl l1 (k + 1) fr by unfold jl; simp only; rw [hei]; exact (if_pos rfl).symm)
            have hk1 : ((k + 1 : Nat) : Int) - 1 = (k : Int) := by omega
            have hk2 : (((k + 1 : Nat) : Int) - 1).toNat = k := by omega
            clear hpc hv hei hle S4
            go_wp2
            go_meet
            refine ⟨k, ea, by go_num, Lib.hid ⟨K.out, R3.out.2.2.1.trans ((Fr.refl (fun x => x = w3.heap.size) _).setCell ⟨w3.heap.size, 0, none⟩ _ (.inl rfl)) ?_, ?_⟩⟩
            · intro z hz e; subst e; exact absurd hz (Nat.lt_irrefl _)
            · exact heap_setCell_at R3.out.2.2.2
          | false =>
            have K := Lib.hid (And.intro (R3.out.2.1 rfl).symm R3.out.2.2)
            go_wp2
            go_meet
            exact ⟨r1, fr, rfl, K⟩
        case rest =>
          obtain ⟨p, x1, rfl, R4⟩ := hcut
          clear R3
          have S4 := S3.out.quiet R4.out.2.1
          obtain ⟨al, cl, hv, hle, hpc⟩ := S4.at.piece
          have hcell := S4.at.cell
          rw [hv] at hcell
          have hq : q ≤ l1.length := by have := jr_le l1 r1 tt hrl; rw [← R2.out.1] at this; exact this
          have hp : p ≤ l1.length := by have := jl_le l1 r1 fr; rw [← R4.out.1] at this; exact Nat.le_trans this hrl
          have t1 := run_to (P := Tryz.prog) 177 290 i0 Tryz.underlying177 hi al l1.length cl .i64 p (by omega)
          have t2 := run_from (P := Tryz.prog) 177 290 i0 Tryz.underlying177 hi 2 hz1 al l1.length cl .i64 q (by omega) hle
          have RO : Hid (∀ W, Fr (fun _ => False) wc W → W.cell? ⟨b, o, none⟩ = some (.slice al l1.length cl) ∧ W.frozen? ⟨b, o, none⟩ = false) := Lib.hid fun W hW => ⟨cell_through hW hcell (fun x => x), free_blk (hW.at S4.blk (fun x => x)) o⟩
          have XO : Hid (∀ W, Fr (fun _ => False) wc W → W.cell? ⟨w3.heap.size, 0, none⟩ = some (.int .u64 (x1 : Int)) ∧ W.cell? ⟨w3.heap.size, 1, none⟩ = some (.int .u64 (x2 : Int))) := Lib.hid fun W hW => blk2 (hW.at R4.out.2.2 (fun x => x))
          have RD : Hid ((∀ W, Fr (fun _ => False) wc W → Rd W 2 (.slice al p cl) p (enc (l1.take p))) ∧ (∀ W, Fr (fun _ => False) wc W → Rd W 2 (sliced al q l1.length cl 2) (l1.length - q) (enc (l1.drop q)))) := Lib.hid (by
            have hrd := S4.rd
            rw [hv] at hrd
            refine ⟨fun W hW => ?_, fun W hW => ?_⟩
            · rw [← enc_take]; exact (hrd.fr hW (fun _ _ x => x)).to (by omega)
            · rw [← enc_drop]; exact (hrd.fr hW (fun _ _ x => x)).from (by omega))
          have FIN : Hid (∀ (a6 : Option Addr) (cc6 : Nat) (w6 : World), w6.ownsRow wc.heap.size 290 2 (.slice a6 (p + 1 + (l1.length - q)) cc6) (p + 1 + (l1.length - q)) (enc (l1.take p) ++ [.int .u64 (x1 : Int), .int .u64 (x2 : Int)] ++ enc (l1.drop q)) → Fr (fun _ => False) wc w6 →
              Fr (fun x => x = b) w (w6.setCell ⟨b, o, none⟩ (.slice a6 (p + 1 + (l1.length - q)) cc6)) ∧ (w6.setCell ⟨b, o, none⟩ (.slice a6 (p + 1 + (l1.length - q)) cc6)).heap[b]? = some (.cells ((c.setIfInBounds (o + 1) (.int .u64 ((s1 + (tt - fr) : Nat) : Int))).setIfInBounds o (.slice a6 (p + 1 + (l1.length - q)) cc6)) t (0, 0)) ∧
                (w6.setCell ⟨b, o, none⟩ (.slice a6 (p + 1 + (l1.length - q)) cc6)).ownsRow w.heap.size 290 2 (.slice a6 (p + 1 + (l1.length - q)) cc6) (addJ l1 r1 fr tt).length (enc (addJ l1 r1 fr tt))) := Lib.hid (by
            intro a6 cc6 w6 ho hf
            have hJ : addJ l1 r1 fr tt = l1.take p ++ (x1, x2) :: l1.drop q := by unfold addJ; rw [← R2.out.1, ← R4.out.1]
            have hbk : w6.heap[b]? = some (.cells c2 t (0, 0)) := hf.at (R4.out.2.1.at (hf3.out.at S2.out.blk (fun x => x)) (fun x => x)) (fun x => x)
            have F6 : Fr (fun x => x = b) w w6 := ((F1.out.trans F2.out (fun _ _ h => h)).trans hf3.out (fun _ _ x => x.elim)).trans (R4.out.2.1.trans hf (fun _ _ x => x)) (fun _ _ x => x.elim)
            have hwc : w.heap.size ≤ wc.heap.size := Nat.le_trans (Nat.le_trans F1.out.size F2.out.size) (Nat.le_trans hf3.out.size R4.out.2.1.size)
            refine ⟨F6.setCell _ _ (.inl rfl), ?_, ?_⟩
            · rw [heap_setCell_at hbk]
              obtain ⟨k1, k2, k3⟩ := C2.out
              rw [k2, k1, k3, set4]
            · have e1 : (addJ l1 r1 fr tt).length = p + 1 + (l1.length - q) := by
                rw [hJ]
                simp only [List.length_append, List.length_take, List.length_cons, List.length_drop]; omega
              rw [e1, hJ, enc_one]
              exact ownsRow_mono (ownsRow_fr ho ((Fr.refl (fun x => x = b) w6).setCell ⟨b, o, none⟩ _ (.inl rfl)) (fun x hx => by subst hx; omega)) hwc)
          obtain ⟨d1, d2⟩ := RO.out wc (Fr.refl _ wc)
          obtain ⟨d3, d4⟩ := RO.out (wc.alloc (.cells #[] 290)) ((Fr.refl _ wc).alloc _)
          obtain ⟨d5, d6⟩ := RO.out (wc.alloc (.cells #[.int .u64 (x1 : Int), .int .u64 (x2 : Int)] 290)) ((Fr.refl _ wc).alloc _)
          obtain ⟨d7, d8⟩ := RO.out ((wc.alloc (.cells #[] 290)).alloc (.cells #[.int .u64 (x1 : Int), .int .u64 (x2 : Int)] 290)) (((Fr.refl _ wc).alloc _).alloc _)
          obtain ⟨d9, d10⟩ := RO.out ((wc.alloc (.cells #[.int .u64 (x1 : Int), .int .u64 (x2 : Int)] 290)).alloc (.cells #[] 290)) (((Fr.refl _ wc).alloc _).alloc _)
          obtain ⟨x01, x02⟩ := XO.out wc (Fr.refl _ wc)
          obtain ⟨x03, x04⟩ := XO.out (wc.alloc (.cells #[] 290)) ((Fr.refl _ wc).alloc _)
          obtain ⟨x05, x06⟩ := XO.out (wc.alloc (.cells #[.int .u64 (x1 : Int), .int .u64 (x2 : Int)] 290)) ((Fr.refl _ wc).alloc _)
          obtain ⟨x07, x08⟩ := XO.out ((wc.alloc (.cells #[] 290)).alloc (.cells #[.int .u64 (x1 : Int), .int .u64 (x2 : Int)] 290)) (((Fr.refl _ wc).alloc _).alloc _)
          obtain ⟨x09, x10⟩ := XO.out ((wc.alloc (.cells #[.int .u64 (x1 : Int), .int .u64 (x2 : Int)] 290)).alloc (.cells #[] 290)) (((Fr.refl _ wc).alloc _).alloc _)
          clear hv hle hpc hcell S4
          have hbx : b ≠ w3.heap.size := by have := lt_blk S3.out.blk; omega
          go_wp2_with fail
          obtain ⟨S, hSd⟩ : ∃ S : World → Prop, S = fun w' => w'.cell? ⟨b, o, none⟩ = some (.slice al l1.length cl) ∧ w'.cell? ⟨w3.heap.size, 0, none⟩ = some (.int .u64 (x1 : Int)) ∧ w'.cell? ⟨w3.heap.size, 1, none⟩ = some (.int .u64 (x2 : Int)) := ⟨_, rfl⟩
          have SF : Hid (∀ W, Fr (fun _ => False) wc W → S W) := Lib.hid fun W hW => by rw [hSd]; exact ⟨(RO.out W hW).1, (XO.out W hW).1, (XO.out W hW).2⟩
          have hS0 : S wc.drew := SF.out _ (Fr.refl _ wc).drew
          refine wp_region_J (N := 22) (by kernel_rfl) ?_
          change wpAnyJ _ _ _ _ _ _ _ _ _ (World.drew _)
          refine wpAnyJ_take (i := 0) (C := S) (v := ?v0) rfl (by kernel_rfl) (by kernel_rfl) (by kernel_rfl) (by kernel_rfl) (fun _ _ _ h => h) (Or.inl ⟨by rfl, ?hy0⟩) hS0 ?rest0
          case hy0 =>
            intro W hW
            rw [hSd] at hW
            obtain ⟨hW1, hW2, hW3⟩ := hW
            go_simp
            try rfl
          simp only [Act.put, List.setIfInBounds_toArray, List.set_cons_zero, List.set_cons_succ, List.getElem_toArray, List.getElem_cons_zero]
          refine wpAnyJ_take (i := 2) (C := S) (v := ?v2) rfl (by kernel_rfl) (by kernel_rfl) (by kernel_rfl) (by kernel_rfl) (fun _ _ _ h => h) (Or.inl ⟨by rfl, ?hy2⟩) hS0 ?rest2
          case hy2 =>
            intro W hW
            rw [hSd] at hW
            obtain ⟨hW1, hW2, hW3⟩ := hW
            go_simp
            try rfl
          simp only [Act.put, List.setIfInBounds_toArray, List.set_cons_zero, List.set_cons_succ, List.getElem_toArray, List.getElem_cons_zero, List.getElem_cons_succ]
          refine wpAnyJ_take (i := 3) (C := S) (v := ?v3) rfl (by kernel_rfl) (by kernel_rfl) (by kernel_rfl) (by kernel_rfl) (fun _ _ _ h => h) (Or.inl ⟨by rfl, ?hy3⟩) hS0 ?rest3
          case hy3 =>
            intro W hW
            rw [hSd] at hW
            obtain ⟨hW1, hW2, hW3⟩ := hW
            go_simp
            try rfl
          simp only [Act.put, List.setIfInBounds_toArray, List.set_cons_zero, List.set_cons_succ, List.getElem_toArray, List.getElem_cons_zero, List.getElem_cons_succ]
          refine wpAnyJ_take (i := 4) (C := S) (v := ?v4) rfl (by kernel_rfl) (by kernel_rfl) (by kernel_rfl) (by kernel_rfl) (fun _ _ _ h => h) (Or.inl ⟨by rfl, ?hy4⟩) hS0 ?rest4
          case hy4 =>
            intro W hW
            rw [hSd] at hW
            obtain ⟨hW1, hW2, hW3⟩ := hW
            go_simp
            try rfl
          simp only [Act.put, List.setIfInBounds_toArray, List.set_cons_zero, List.set_cons_succ, List.getElem_toArray, List.getElem_cons_zero, List.getElem_cons_succ]
          refine wpAnyJ_take (i := 5) (C := S) (v := ?v5) rfl (by kernel_rfl) (by kernel_rfl) (by kernel_rfl) (by kernel_rfl) (fun _ _ _ h => h) (Or.inl ⟨by rfl, ?hy5⟩) hS0 ?rest5
          case hy5 =>
            intro W hW
            rw [hSd] at hW
            obtain ⟨hW1, hW2, hW3⟩ := hW
            go_simp
            try rfl
          simp only [Act.put, List.setIfInBounds_toArray, List.set_cons_zero, List.set_cons_succ, List.getElem_toArray, List.getElem_cons_zero, List.getElem_cons_succ]
          refine wpAnyJ_take (i := 6) (C := S) (v := ?v6) rfl (by kernel_rfl) (by kernel_rfl) (by kernel_rfl) (by kernel_rfl) (fun _ _ _ h => h) (Or.inl ⟨by rfl, ?hy6⟩) hS0 ?rest6
          case hy6 =>
            intro W hW
            rw [hSd] at hW
            obtain ⟨hW1, hW2, hW3⟩ := hW
            go_simp
            try rfl
          simp only [Act.put, List.setIfInBounds_toArray, List.set_cons_zero, List.set_cons_succ, List.getElem_toArray, List.getElem_cons_zero, List.getElem_cons_succ]
          refine wpAnyJ_take (i := 7) (C := S) (v := ?v7) rfl (by kernel_rfl) (by kernel_rfl) (by kernel_rfl) (by kernel_rfl) (fun _ _ _ h => h) (Or.inl ⟨by rfl, ?hy7⟩) hS0 ?rest7
          case hy7 =>
            intro W hW
            rw [hSd] at hW
            obtain ⟨hW1, hW2, hW3⟩ := hW
            go_simp
            try rfl
          simp only [Act.put, List.setIfInBounds_toArray, List.set_cons_zero, List.set_cons_succ, List.getElem_toArray, List.getElem_cons_zero, List.getElem_cons_succ]
          refine wpAnyJ_take (i := 9) (C := S) (v := ?v9) rfl (by kernel_rfl) (by kernel_rfl) (by kernel_rfl) (by kernel_rfl) (fun _ _ _ h => h) (Or.inl ⟨by rfl, ?hy9⟩) hS0 ?rest9
          case hy9 =>
            intro W hW
            rw [hSd] at hW
            obtain ⟨hW1, hW2, hW3⟩ := hW
            go_simp
            try rfl
          simp only [Act.put, List.setIfInBounds_toArray, List.set_cons_zero, List.set_cons_succ, List.getElem_toArray, List.getElem_cons_zero, List.getElem_cons_succ]
          refine wpAnyJ_take (i := 12) (C := S) (v := ?v12) rfl (by kernel_rfl) (by kernel_rfl) (by kernel_rfl) (by kernel_rfl) (fun _ _ _ h => h) (Or.inl ⟨by rfl, ?hy12⟩) hS0 ?rest12
          case hy12 =>
            intro W hW
            rw [hSd] at hW
            obtain ⟨hW1, hW2, hW3⟩ := hW
            go_simp
            try rfl
          simp only [Act.put, List.setIfInBounds_toArray, List.set_cons_zero, List.set_cons_succ, List.getElem_toArray, List.getElem_cons_zero, List.getElem_cons_succ]
          refine wpAnyJ_take (i := 13) (C := S) (v := ?v13) rfl (by kernel_rfl) (by kernel_rfl) (by kernel_rfl) (by kernel_rfl) (fun _ _ _ h => h) (Or.inl ⟨by rfl, ?hy13⟩) hS0 ?rest13
          case hy13 =>
            intro W hW
            rw [hSd] at hW
            obtain ⟨hW1, hW2, hW3⟩ := hW
            go_simp
            try rfl
          simp only [Act.put, List.setIfInBounds_toArray, List.set_cons_zero, List.set_cons_succ, List.getElem_toArray, List.getElem_cons_zero, List.getElem_cons_succ]
          refine wpAnyJ_take (i := 14) (C := S) (v := ?v14) rfl (by kernel_rfl) (by kernel_rfl) (by kernel_rfl) (by kernel_rfl) (fun _ _ _ h => h) (Or.inl ⟨by rfl, ?hy14⟩) hS0 ?rest14
          case hy14 =>
            intro W hW
            rw [hSd] at hW
            obtain ⟨hW1, hW2, hW3⟩ := hW
            go_simp
            try rfl
          simp only [Act.put, List.setIfInBounds_toArray, List.set_cons_zero, List.set_cons_succ, List.getElem_toArray, List.getElem_cons_zero, List.getElem_cons_succ]
          refine wpAnyJ_take (i := 15) (C := S) (v := ?v15) rfl (by kernel_rfl) (by kernel_rfl) (by kernel_rfl) (by kernel_rfl) (fun _ _ _ h => h) (Or.inl ⟨by rfl, ?hy15⟩) hS0 ?rest15
          case hy15 =>
            intro W hW
            rw [hSd] at hW
            obtain ⟨hW1, hW2, hW3⟩ := hW
            go_simp
            try rfl
          simp only [Act.put, List.setIfInBounds_toArray, List.set_cons_zero, List.set_cons_succ, List.getElem_toArray, List.getElem_cons_zero, List.getElem_cons_succ]
          refine wpAnyJ_take (i := 16) (C := S) (v := ?v16) rfl (by kernel_rfl) (by kernel_rfl) (by kernel_rfl) (by kernel_rfl) (fun _ _ _ h => h) (Or.inl ⟨by rfl, ?hy16⟩) hS0 ?rest16
          case hy16 =>
            intro W hW
            rw [hSd] at hW
            obtain ⟨hW1, hW2, hW3⟩ := hW
            go_simp
            try rfl
          simp only [Act.put, List.setIfInBounds_toArray, List.set_cons_zero, List.set_cons_succ, List.getElem_toArray, List.getElem_cons_zero, List.getElem_cons_succ]
          refine wpAnyJ_take (i := 17) (C := S) (v := ?v17) rfl (by kernel_rfl) (by kernel_rfl) (by kernel_rfl) (by kernel_rfl) (fun _ _ _ h => h) (Or.inl ⟨by rfl, ?hy17⟩) hS0 ?rest17
          case hy17 =>
            intro W hW
            rw [hSd] at hW
            obtain ⟨hW1, hW2, hW3⟩ := hW
            go_simp
            try rfl
          simp only [Act.put, List.setIfInBounds_toArray, List.set_cons_zero, List.set_cons_succ, List.getElem_toArray, List.getElem_cons_zero, List.getElem_cons_succ]
          -- EFFECTS
          have hT : ∀ k ∈ ([(17, S), (16, S), (15, S), (14, S), (13, S), (12, S), (9, S), (7, S), (6, S), (5, S), (4, S), (3, S), (2, S), (0, S)] : Taken), k.2 = S := by intro k hk; simp only [List.mem_cons, List.not_mem_nil, or_false] at hk; rcases hk with rfl | rfl | rfl | rfl | rfl | rfl | rfl | rfl | rfl | rfl | rfl | rfl | rfl | rfl <;> rfl
          refine wpAnyJ_all (rs := [1, 10]) (by kernel_rfl) (by simp) ?_
          intro k hk
          simp only [List.mem_cons, List.not_mem_nil, or_false] at hk
          rcases hk with rfl | rfl
          · refine wpOp_gen rfl (by rfl) (fun K hK => ?_)
            go_simp
            refine hK _ _ ⟨lasts hT (SF.out _ (((Fr.refl (fun _ => False) wc).alloc _).drew)), ?_⟩
            clear hK K
            try simp only [Act.put, List.setIfInBounds_toArray, List.set_cons_zero, List.set_cons_succ, List.getElem_toArray, List.getElem_cons_zero, List.getElem_cons_succ]
            refine wpAnyJ_all (rs := [8, 10]) (by kernel_rfl) (by simp) ?_
            intro k hk
            simp only [List.mem_cons, List.not_mem_nil, or_false] at hk
            rcases hk with rfl | rfl
            · refine wpOp_gen rfl (by rfl) (fun K hK => ?_)
              refine wp_append_rd (w0 := wc) (S := fun _ => False) _ _ 177 (by rfl) 290 i0 _ 2 16 Tryz.underlying177 hi hz0 hz1 hz2 rfl (by decide) (.slice (some ⟨wc.heap.size, 0, none⟩) 0 0) 0 [] (by simp [go_sem]) (ownsRow_empty 2 (by show (wc.alloc _).heap[_]? = _; rw [heap_alloc]; exact if_pos rfl) (Nat.le_refl _)) (((Fr.refl (fun _ => False) wc).alloc _).drew) (.slice al p cl) p (enc (l1.take p)) (by simp [go_sem]) (RD.out.1 _ (((Fr.refl (fun _ => False) wc).alloc _).drew)) (one_enc _) (by simp [maxLen]; omega) (by omega) ?_
              intro v4 w4 ho4 hf4 hg4
              obtain ⟨a4, cc4, q4⟩ := ownsRow_form ho4
              subst q4
              refine hK _ _ ⟨lasts hT (SF.out _ hf4), ?_⟩
              clear hK K
              have O4 := Lib.hid (And.intro ho4 hf4)
              clear ho4 hf4 hg4
              try simp only [Act.put, List.setIfInBounds_toArray, List.set_cons_zero, List.set_cons_succ, List.getElem_toArray, List.getElem_cons_zero, List.getElem_cons_succ]
              refine wpAnyJ_all (rs := [10]) (by kernel_rfl) (by simp) ?_
              intro k hk
              simp only [List.mem_cons, List.not_mem_nil, or_false] at hk
              subst hk
              refine wpOp_gen rfl (by rfl) (fun K hK => ?_)
              go_simp
              refine hK _ _ ⟨lasts hT (SF.out _ (O4.out.2.alloc _)), ?_⟩
              clear hK K
              try simp only [Act.put, List.setIfInBounds_toArray, List.set_cons_zero, List.set_cons_succ, List.getElem_toArray, List.getElem_cons_zero, List.getElem_cons_succ]
              refine wpAnyJ_all (rs := [11]) (by kernel_rfl) (by simp) ?_
              intro k hk
              simp only [List.mem_cons, List.not_mem_nil, or_false] at hk
              subst hk
              refine wpOp_gen rfl (by rfl) (fun K hK => ?_)
              refine wp_append_rd (w0 := wc) (S := fun _ => False) _ _ 177 (by rfl) 290 i0 _ 2 16 Tryz.underlying177 hi hz0 hz1 hz2 rfl (by decide) (.slice a4 (0 + p) cc4) (0 + p) ([] ++ enc (l1.take p)) (by simp [go_sem]) (ownsRow_keep O4.out.1 ((Fr.refl (fun _ => False) w4).alloc _) (fun _ _ x => x)) (O4.out.2.alloc _) (.slice (some ⟨w4.heap.size, 0, none⟩) 1 1) 1 [.int .u64 (x1 : Int), .int .u64 (x2 : Int)] (by simp [go_sem]) (Rd.new (t := 290) (by rw [heap_alloc, if_pos rfl]) 2 1 (by simp)) (by simp [Value.oneCell']) (by simp [maxLen]; omega) (by omega) ?_
              intro v5 w5 ho5 hf5 hg5
              obtain ⟨a5, cc5, q5⟩ := ownsRow_form ho5
              subst q5
              refine hK _ _ ⟨lasts hT (SF.out _ hf5), ?_⟩
              clear hK K
              have O5 := Lib.hid (And.intro ho5 hf5)
              clear ho5 hf5 hg5
              try simp only [Act.put, List.setIfInBounds_toArray, List.set_cons_zero, List.set_cons_succ, List.getElem_toArray, List.getElem_cons_zero, List.getElem_cons_succ]
              refine wpAnyJ_all (rs := [18]) (by kernel_rfl) (by simp) ?_
              intro k hk
              simp only [List.mem_cons, List.not_mem_nil, or_false] at hk
              subst hk
              refine wpOp_gen rfl (by rfl) (fun K hK => ?_)
              refine wp_append_rd (w0 := wc) (S := fun _ => False) _ _ 177 (by rfl) 290 i0 _ 2 16 Tryz.underlying177 hi hz0 hz1 hz2 rfl (by decide) (.slice a5 (0 + p + 1) cc5) (0 + p + 1) ([] ++ enc (l1.take p) ++ [.int .u64 (x1 : Int), .int .u64 (x2 : Int)]) (by simp [go_sem]) O5.out.1 O5.out.2 (sliced al q l1.length cl 2) (l1.length - q) (enc (l1.drop q)) (by simp [go_sem]) (RD.out.2 _ O5.out.2) (one_enc _) (by simp [maxLen]; omega) (by omega) ?_
              intro v6 w6 ho6 hf6 hg6
              obtain ⟨a6, cc6, q6⟩ := ownsRow_form ho6
              subst q6
              refine hK _ _ ⟨lasts hT (SF.out _ hf6), ?_⟩
              clear hK K
              have hS6 := SF.out _ hf6
              obtain ⟨j1, j2⟩ := RO.out _ hf6
              have O6 := Lib.hid (And.intro ho6 hf6)
              clear ho6 hf6 hg6
              try simp only [Act.put, List.setIfInBounds_toArray, List.set_cons_zero, List.set_cons_succ, List.getElem_toArray, List.getElem_cons_zero, List.getElem_cons_succ]
              refine wpAnyJ_all (rs := [19]) (by kernel_rfl) (by simp) ?_
              intro k hk
              simp only [List.mem_cons, List.not_mem_nil, or_false] at hk
              subst hk
              refine wpOp_gen rfl (by rfl) (fun K hK => ?_)
              go_simp
              refine hK _ _ ⟨lasts hT hS6, ?_⟩
              clear hK K
              try simp only [Act.put, List.setIfInBounds_toArray, List.set_cons_zero, List.set_cons_succ, List.getElem_toArray, List.getElem_cons_zero, List.getElem_cons_succ]
              refine wpAnyJ_all (rs := [20]) (by kernel_rfl) (by simp) ?_
              intro k hk
              simp only [List.mem_cons, List.not_mem_nil, or_false] at hk
              subst hk
              refine wpOp_gen rfl (by rfl) (fun K hK => ?_)
              go_simp
              refine hK _ _ ⟨lasts hT hS6, ?_⟩
              clear hK K
              try simp only [Act.put, List.setIfInBounds_toArray, List.set_cons_zero, List.set_cons_succ, List.getElem_toArray, List.getElem_cons_zero, List.getElem_cons_succ]
              refine wpAnyJ_all (rs := [21]) (by kernel_rfl) (by simp) ?_
              intro k hk
              simp only [List.mem_cons, List.not_mem_nil, or_false] at hk
              subst hk
              refine wpOp_gen rfl (by rfl) (fun K hK => ?_)
              go_simp
              refine hK _ _ ⟨lasts_no (by kernel_rfl), ?_⟩
              clear hK K
              refine wpAnyJ_done (by kernel_rfl) ?_
              clear hT
              go_end0
              have O7 := O6.out
              simp only [Nat.zero_add, List.nil_append] at O7
              exact ⟨r1, .slice a6 (p + 1 + (l1.length - q)) cc6, rfl, Lib.hid ⟨hr1.out, FIN.out a6 cc6 w6 O7.1 O7.2⟩⟩
            · refine wpOp_gen rfl (by rfl) (fun K hK => ?_)
              go_simp
              refine hK _ _ ⟨lasts hT (SF.out _ ((((Fr.refl (fun _ => False) wc).alloc _).alloc _).drew)), ?_⟩
              clear hK K
              try simp only [Act.put, List.setIfInBounds_toArray, List.set_cons_zero, List.set_cons_succ, List.getElem_toArray, List.getElem_cons_zero, List.getElem_cons_succ]
              refine wpAnyJ_all (rs := [8]) (by kernel_rfl) (by simp) ?_
              intro k hk
              simp only [List.mem_cons, List.not_mem_nil, or_false] at hk
              subst hk
              refine wpOp_gen rfl (by rfl) (fun K hK => ?_)
              refine wp_append_rd (w0 := wc) (S := fun _ => False) _ _ 177 (by rfl) 290 i0 _ 2 16 Tryz.underlying177 hi hz0 hz1 hz2 rfl (by decide) (.slice (some ⟨wc.heap.size, 0, none⟩) 0 0) 0 [] (by simp [go_sem]) (ownsRow_empty 2 (by show ((wc.alloc _).alloc _).heap[_]? = _; rw [heap_alloc_ne (by rw [size_alloc]; exact Nat.lt_succ_self _), heap_alloc]; exact if_pos rfl) (Nat.le_refl _)) ((((Fr.refl (fun _ => False) wc).alloc _).alloc _).drew) (.slice al p cl) p (enc (l1.take p)) (by simp [go_sem]) (RD.out.1 _ ((((Fr.refl (fun _ => False) wc).alloc _).alloc _).drew)) (one_enc _) (by simp [maxLen]; omega) (by omega) ?_
              intro v4 w4 ho4 hf4 hg4
              have X4 := Lib.hid (hg4.at (b := wc.heap.size + 1) (o := .cells #[.int .u64 (x1 : Int), .int .u64 (x2 : Int)] 290 (0, 0)) (by show ((wc.alloc _).alloc _).heap[_]? = _; rw [heap_alloc]; exact if_pos (by rw [size_alloc])) (fun e => by simp [Value.ownBlock] at e))
              obtain ⟨a4, cc4, q4⟩ := ownsRow_form ho4
              subst q4
              refine hK _ _ ⟨lasts hT (SF.out _ hf4), ?_⟩
              clear hK K
              have O4 := Lib.hid (And.intro ho4 hf4)
              clear ho4 hf4 hg4
              try simp only [Act.put, List.setIfInBounds_toArray, List.set_cons_zero, List.set_cons_succ, List.getElem_toArray, List.getElem_cons_zero, List.getElem_cons_succ]
              refine wpAnyJ_all (rs := [11]) (by kernel_rfl) (by simp) ?_
              intro k hk
              simp only [List.mem_cons, List.not_mem_nil, or_false] at hk
              subst hk
              refine wpOp_gen rfl (by rfl) (fun K hK => ?_)
              refine wp_append_rd (w0 := wc) (S := fun _ => False) _ _ 177 (by rfl) 290 i0 _ 2 16 Tryz.underlying177 hi hz0 hz1 hz2 rfl (by decide) (.slice a4 (0 + p) cc4) (0 + p) ([] ++ enc (l1.take p)) (by simp [go_sem]) (O4.out.1) (O4.out.2) (.slice (some ⟨wc.heap.size + 1, 0, none⟩) 1 1) 1 [.int .u64 (x1 : Int), .int .u64 (x2 : Int)] (by simp [go_sem]) (Rd.new (t := 290) X4.out 2 1 (by simp)) (by simp [Value.oneCell']) (by simp [maxLen]; omega) (by omega) ?_
              intro v5 w5 ho5 hf5 hg5
              obtain ⟨a5, cc5, q5⟩ := ownsRow_form ho5
              subst q5
              refine hK _ _ ⟨lasts hT (SF.out _ hf5), ?_⟩
              clear hK K
              have O5 := Lib.hid (And.intro ho5 hf5)
              clear ho5 hf5 hg5
              try simp only [Act.put, List.setIfInBounds_toArray, List.set_cons_zero, List.set_cons_succ, List.getElem_toArray, List.getElem_cons_zero, List.getElem_cons_succ]
              refine wpAnyJ_all (rs := [18]) (by kernel_rfl) (by simp) ?_
              intro k hk
              simp only [List.mem_cons, List.not_mem_nil, or_false] at hk
              subst hk
              refine wpOp_gen rfl (by rfl) (fun K hK => ?_)
              refine wp_append_rd (w0 := wc) (S := fun _ => False) _ _ 177 (by rfl) 290 i0 _ 2 16 Tryz.underlying177 hi hz0 hz1 hz2 rfl (by decide) (.slice a5 (0 + p + 1) cc5) (0 + p + 1) ([] ++ enc (l1.take p) ++ [.int .u64 (x1 : Int), .int .u64 (x2 : Int)]) (by simp [go_sem]) O5.out.1 O5.out.2 (sliced al q l1.length cl 2) (l1.length - q) (enc (l1.drop q)) (by simp [go_sem]) (RD.out.2 _ O5.out.2) (one_enc _) (by simp [maxLen]; omega) (by omega) ?_
              intro v6 w6 ho6 hf6 hg6
              obtain ⟨a6, cc6, q6⟩ := ownsRow_form ho6
              subst q6
              refine hK _ _ ⟨lasts hT (SF.out _ hf6), ?_⟩
              clear hK K
              have hS6 := SF.out _ hf6
              obtain ⟨j1, j2⟩ := RO.out _ hf6
              have O6 := Lib.hid (And.intro ho6 hf6)
              clear ho6 hf6 hg6
              try simp only [Act.put, List.setIfInBounds_toArray, List.set_cons_zero, List.set_cons_succ, List.getElem_toArray, List.getElem_cons_zero, List.getElem_cons_succ]
              refine wpAnyJ_all (rs := [19]) (by kernel_rfl) (by simp) ?_
              intro k hk
              simp only [List.mem_cons, List.not_mem_nil, or_false] at hk
              subst hk
              refine wpOp_gen rfl (by rfl) (fun K hK => ?_)
              go_simp
              refine hK _ _ ⟨lasts hT hS6, ?_⟩
              clear hK K
              try simp only [Act.put, List.setIfInBounds_toArray, List.set_cons_zero, List.set_cons_succ, List.getElem_toArray, List.getElem_cons_zero, List.getElem_cons_succ]
              refine wpAnyJ_all (rs := [20]) (by kernel_rfl) (by simp) ?_
              intro k hk
              simp only [List.mem_cons, List.not_mem_nil, or_false] at hk
              subst hk
              refine wpOp_gen rfl (by rfl) (fun K hK => ?_)
              go_simp
              refine hK _ _ ⟨lasts hT hS6, ?_⟩
              clear hK K
              try simp only [Act.put, List.setIfInBounds_toArray, List.set_cons_zero, List.set_cons_succ, List.getElem_toArray, List.getElem_cons_zero, List.getElem_cons_succ]
              refine wpAnyJ_all (rs := [21]) (by kernel_rfl) (by simp) ?_
              intro k hk
              simp only [List.mem_cons, List.not_mem_nil, or_false] at hk
              subst hk
              refine wpOp_gen rfl (by rfl) (fun K hK => ?_)
              go_simp
              refine hK _ _ ⟨lasts_no (by kernel_rfl), ?_⟩
              clear hK K
              refine wpAnyJ_done (by kernel_rfl) ?_
              clear hT
              go_end0
              have O7 := O6.out
              simp only [Nat.zero_add, List.nil_append] at O7
              exact ⟨r1, .slice a6 (p + 1 + (l1.length - q)) cc6, rfl, Lib.hid ⟨hr1.out, FIN.out a6 cc6 w6 O7.1 O7.2⟩⟩
          · refine wpOp_gen rfl (by rfl) (fun K hK => ?_)
            go_simp
            refine hK _ _ ⟨lasts hT (SF.out _ (((Fr.refl (fun _ => False) wc).alloc _).drew)), ?_⟩
            clear hK K
            try simp only [Act.put, List.setIfInBounds_toArray, List.set_cons_zero, List.set_cons_succ, List.getElem_toArray, List.getElem_cons_zero, List.getElem_cons_succ]
            refine wpAnyJ_all (rs := [1]) (by kernel_rfl) (by simp) ?_
            intro k hk
            simp only [List.mem_cons, List.not_mem_nil, or_false] at hk
            subst hk
            refine wpOp_gen rfl (by rfl) (fun K hK => ?_)
            go_simp
            refine hK _ _ ⟨lasts hT (SF.out _ ((((Fr.refl (fun _ => False) wc).alloc _).alloc _).drew)), ?_⟩
            clear hK K
            try simp only [Act.put, List.setIfInBounds_toArray, List.set_cons_zero, List.set_cons_succ, List.getElem_toArray, List.getElem_cons_zero, List.getElem_cons_succ]
            refine wpAnyJ_all (rs := [8]) (by kernel_rfl) (by simp) ?_
            intro k hk
            simp only [List.mem_cons, List.not_mem_nil, or_false] at hk
            subst hk
            refine wpOp_gen rfl (by rfl) (fun K hK => ?_)
            refine wp_append_rd (w0 := wc) (S := fun _ => False) _ _ 177 (by rfl) 290 i0 _ 2 16 Tryz.underlying177 hi hz0 hz1 hz2 rfl (by decide) (.slice (some ⟨wc.heap.size + 1, 0, none⟩) 0 0) 0 [] (by simp [go_sem]) (ownsRow_empty 2 (by show ((wc.alloc _).alloc _).heap[_]? = _; rw [heap_alloc]; exact if_pos (by rw [size_alloc])) (Nat.le_succ _)) ((((Fr.refl (fun _ => False) wc).alloc _).alloc _).drew) (.slice al p cl) p (enc (l1.take p)) (by simp [go_sem]) (RD.out.1 _ ((((Fr.refl (fun _ => False) wc).alloc _).alloc _).drew)) (one_enc _) (by simp [maxLen]; omega) (by omega) ?_
            intro v4 w4 ho4 hf4 hg4
            have X4 := Lib.hid (hg4.at (b := wc.heap.size) (o := .cells #[.int .u64 (x1 : Int), .int .u64 (x2 : Int)] 290 (0, 0)) (by show ((wc.alloc _).alloc _).heap[_]? = _; rw [heap_alloc_ne (by rw [size_alloc]; exact Nat.lt_succ_self _), heap_alloc]; exact if_pos rfl) (fun e => by simp [Value.ownBlock] at e))
            obtain ⟨a4, cc4, q4⟩ := ownsRow_form ho4
            subst q4
            refine hK _ _ ⟨lasts hT (SF.out _ hf4), ?_⟩
            clear hK K
            have O4 := Lib.hid (And.intro ho4 hf4)
            clear ho4 hf4 hg4
            try simp only [Act.put, List.setIfInBounds_toArray, List.set_cons_zero, List.set_cons_succ, List.getElem_toArray, List.getElem_cons_zero, List.getElem_cons_succ]
            refine wpAnyJ_all (rs := [11]) (by kernel_rfl) (by simp) ?_
            intro k hk
            simp only [List.mem_cons, List.not_mem_nil, or_false] at hk
            subst hk
            refine wpOp_gen rfl (by rfl) (fun K hK => ?_)
            refine wp_append_rd (w0 := wc) (S := fun _ => False) _ _ 177 (by rfl) 290 i0 _ 2 16 Tryz.underlying177 hi hz0 hz1 hz2 rfl (by decide) (.slice a4 (0 + p) cc4) (0 + p) ([] ++ enc (l1.take p)) (by simp [go_sem]) (O4.out.1) (O4.out.2) (.slice (some ⟨wc.heap.size, 0, none⟩) 1 1) 1 [.int .u64 (x1 : Int), .int .u64 (x2 : Int)] (by simp [go_sem]) (Rd.new (t := 290) X4.out 2 1 (by simp)) (by simp [Value.oneCell']) (by simp [maxLen]; omega) (by omega) ?_
            intro v5 w5 ho5 hf5 hg5
            obtain ⟨a5, cc5, q5⟩ := ownsRow_form ho5
            subst q5
            refine hK _ _ ⟨lasts hT (SF.out _ hf5), ?_⟩
            clear hK K
            have O5 := Lib.hid (And.intro ho5 hf5)
            clear ho5 hf5 hg5
            try simp only [Act.put, List.setIfInBounds_toArray, List.set_cons_zero, List.set_cons_succ, List.getElem_toArray, List.getElem_cons_zero, List.getElem_cons_succ]
            refine wpAnyJ_all (rs := [18]) (by kernel_rfl) (by simp) ?_
            intro k hk
            simp only [List.mem_cons, List.not_mem_nil, or_false] at hk
            subst hk
            refine wpOp_gen rfl (by rfl) (fun K hK => ?_)
            refine wp_append_rd (w0 := wc) (S := fun _ => False) _ _ 177 (by rfl) 290 i0 _ 2 16 Tryz.underlying177 hi hz0 hz1 hz2 rfl (by decide) (.slice a5 (0 + p + 1) cc5) (0 + p + 1) ([] ++ enc (l1.take p) ++ [.int .u64 (x1 : Int), .int .u64 (x2 : Int)]) (by simp [go_sem]) O5.out.1 O5.out.2 (sliced al q l1.length cl 2) (l1.length - q) (enc (l1.drop q)) (by simp [go_sem]) (RD.out.2 _ O5.out.2) (one_enc _) (by simp [maxLen]; omega) (by omega) ?_
            intro v6 w6 ho6 hf6 hg6
            obtain ⟨a6, cc6, q6⟩ := ownsRow_form ho6
            subst q6
            refine hK _ _ ⟨lasts hT (SF.out _ hf6), ?_⟩
            clear hK K
            have hS6 := SF.out _ hf6
            obtain ⟨j1, j2⟩ := RO.out _ hf6
            have O6 := Lib.hid (And.intro ho6 hf6)
            clear ho6 hf6 hg6
            try simp only [Act.put, List.setIfInBounds_toArray, List.set_cons_zero, List.set_cons_succ, List.getElem_toArray, List.getElem_cons_zero, List.getElem_cons_succ]
            refine wpAnyJ_all (rs := [19]) (by kernel_rfl) (by simp) ?_
            intro k hk
            simp only [List.mem_cons, List.not_mem_nil, or_false] at hk
            subst hk
            refine wpOp_gen rfl (by rfl) (fun K hK => ?_)
            go_simp
            refine hK _ _ ⟨lasts hT hS6, ?_⟩
            clear hK K
            try simp only [Act.put, List.setIfInBounds_toArray, List.set_cons_zero, List.set_cons_succ, List.getElem_toArray, List.getElem_cons_zero, List.getElem_cons_succ]
            refine wpAnyJ_all (rs := [20]) (by kernel_rfl) (by simp) ?_
            intro k hk
            simp only [List.mem_cons, List.not_mem_nil, or_false] at hk
            subst hk
            refine wpOp_gen rfl (by rfl) (fun K hK => ?_)
            go_simp
            refine hK _ _ ⟨lasts hT hS6, ?_⟩
            clear hK K
            try simp only [Act.put, List.setIfInBounds_toArray, List.set_cons_zero, List.set_cons_succ, List.getElem_toArray, List.getElem_cons_zero, List.getElem_cons_succ]
            refine wpAnyJ_all (rs := [21]) (by kernel_rfl) (by simp) ?_
            intro k hk
            simp only [List.mem_cons, List.not_mem_nil, or_false] at hk
            subst hk
            refine wpOp_gen rfl (by rfl) (fun K hK => ?_)
            go_simp
            refine hK _ _ ⟨lasts_no (by kernel_rfl), ?_⟩
            clear hK K
            refine wpAnyJ_done (by kernel_rfl) ?_
            clear hT
            go_end0
            have O7 := O6.out
            simp only [Nat.zero_add, List.nil_append] at O7
            exact ⟨r1, .slice a6 (p + 1 + (l1.length - q)) cc6, rfl, Lib.hid ⟨hr1.out, FIN.out a6 cc6 w6 O7.1 O7.2⟩⟩
end One
end Go.Proofs.YtnjaaagiindclaaGreatDoor
