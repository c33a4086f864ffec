/-
  Part 11 of what the statement leans on: St, Ln, WTab, SxT, Ct, Fu, Li, Sp, WT2, WCm, St2, Spn, Run, Rm1, WL1.
-/
import Derived.Test.YteicdpgmclbgjaaGreatDoorPk1
import Derived.Test.YteicdpgmclbgjaaGreatDoorPk6
import Derived.Test.YteicdpgmclbgjaaGreatDoorPk9
import Derived.Test.YteicdpgmclbgjaaGreatDoorPk10
import Derived.Lib.IndexLaws
import Derived.RangeFuncNested
import Derived.Shelf.Abstract
import Derived.Shelf.RegionOpen
import Derived.WalkKit
import Derived.OwnWalkIn
import Derived.TacticsInMore
import Derived.LoopNIn
import Derived.LoopIn
import Derived.RegionIn
import Derived.Lib.Walk
import Derived.Lib.ItoaMem
import Derived.Lib.AppendIntMem
import Derived.BigCall
import Derived.BigGuard
import Derived.Maps.AppendAt
import Derived.Laws.EntriesVeiled
import Derived.Lib.SmallJoins
import Derived.Deep.LoopGhost
import Derived.Lib.ItoaLen
import Derived.Laws.RangeString
/-
  Texts; the tables that are read. No condition.
-/
namespace Go.Proofs.YteicdpgmclbgjaaGreatDoor
open Go.RowKit Go.Deep Go.Shelf

abbrev str (l : List UInt8) : Value := .string ⟨l.toArray⟩
def strE (l : List UInt8) : Value := .string (SX.bytesOf l)
theorem size_mk (l : List UInt8) : (⟨l.toArray⟩ : ByteArray).size = l.length := by simp [ByteArray.size]
theorem str_append (a b : List UInt8) : (⟨a.toArray⟩ : ByteArray) ++ ⟨b.toArray⟩ = ⟨(a ++ b).toArray⟩ := by
  apply ByteArray.ext
  simp [ByteArray.data_append]
theorem Fr.cell {w w' : World} (h : Fr (fun _ => False) w w') {p : Addr} {v : Value} (hc : w.cell? p = some v) : w'.cell? p = some v := by
  have hlt : p.block < w.heap.size := by
    rcases Nat.lt_or_ge p.block w.heap.size with h1 | h1
    · exact h1
    · unfold World.cell? at hc; rw [Array.getElem?_eq_none h1] at hc; cases hc
  unfold World.cell? at hc ⊢
  rw [h.same _ hlt (fun x => x)]
  exact hc
theorem SX.Fr.of_below {w w' : World} (h : Below w.heap.size w w') : Fr (fun _ => False) w w' := Go.Proofs.YteicdpgmclbgjaaGreatDoor.Below.fr h _

/-- the tables of the library that are read -/
structure Laid (w : World) : Prop where
  p10 : Lib.TabIs Tryz.prog w "internal/strconv.uint64pow10" .u64 Lib.pow10Tab
theorem Laid.at {W w : World} (h : Laid W) (hk : ∀ (i : Nat) (o : Obj), W.heap[i]? = some o → w.heap[i]? = some o) : Laid w := by
  have hv : ∀ n r, W.var? Tryz.prog n = some r → w.var? Tryz.prog n = some r := by
    intro n r hr
    unfold World.var? at hr ⊢
    obtain ⟨g, hg, hr⟩ := Option.bind_eq_some_iff.1 hr
    rw [hg]
    simp only [Option.bind_some]
    split at hr
    next cs a b e => rw [hk _ _ e]; exact hr
    · cases hr
  exact ⟨hv _ _ h.p10⟩
theorem Laid.fr {w w' : World} (h : Laid w) (hf : Fr (fun _ => False) w w') : Laid w' := h.at fun _ _ e => Fr.at hf e (fun x => x)
end Go.Proofs.YteicdpgmclbgjaaGreatDoor

/-
  strings.Lines: its lines, one by one. No condition.
-/
namespace Go.Proofs.YteicdpgmclbgjaaGreatDoor
open Go.RowKit Go.Deep Go.Shelf
attribute [local go_sem] Oper.semAt_some

/-- the lines of a text, each with its end -/
def linesOf : List UInt8 → List (List UInt8)
  | [] => []
  | b :: l => if b = 10 then [10] :: linesOf l else match linesOf l with
    | [] => [[b]]
    | q :: qs => (b :: q) :: qs
theorem linesOf_ix : ∀ {l : List UInt8} {i : Nat}, Lib.indexByte l 10 = (i : Int) → linesOf l = l.take (i + 1) :: linesOf (l.drop (i + 1))
  | [], i, h => by simp [Lib.indexByte] at h
  | b :: l, i, h => by
    unfold Lib.indexByte at h
    by_cases hb : b = 10
    · subst hb
      simp at h
      have : i = 0 := by omega
      subst this
      simp [linesOf]
    · rw [if_neg (by simpa using hb)] at h
      split at h
      · omega
      next hne =>
        have hne : Lib.indexByte l 10 ≠ -1 := by simpa using hne
        have h1 := Lib.indexByte_ge l 10
        cases i with
        | zero => omega
        | succ i =>
          have h2 : Lib.indexByte l 10 = (i : Int) := by omega
          have := linesOf_ix h2
          rw [linesOf, if_neg hb, this]
          rfl
theorem linesOf_no : ∀ {l : List UInt8}, Lib.indexByte l 10 = -1 → l ≠ [] → linesOf l = [l]
  | [], _, h => absurd rfl h
  | b :: l, h, _ => by
    unfold Lib.indexByte at h
    by_cases hb : b = 10
    · subst hb; simp at h
    · rw [if_neg (by simpa using hb)] at h
      split at h
      next e =>
        have e : Lib.indexByte l 10 = -1 := by simpa using e
        unfold linesOf
        rw [if_neg hb]
        cases l with
        | nil => rfl
        | cons c l => rw [linesOf_no e (by simp)]
      next e =>
        have := Lib.indexByte_ge l 10
        omega
theorem ix_lt {l : List UInt8} {i : Nat} (h : Lib.indexByte l 10 = (i : Int)) : i < l.length := by
  have := (Lib.indexByte_some h).1
  exact (List.getElem?_eq_some_iff.1 this).1
/-- a line of a text that is not too long -/
abbrev Ln := {l : List UInt8 // l.length ≤ 1000000000}
def lnEnc (x : Ln) : Array Value := #[str x.1]
def leftIn (b : Nat) (W : World) : Nat := match W.cell? ⟨b, 0, none⟩ with
  | some (.string x) => x.size
  | _ => 0
/-- between two rounds -/
structure LnI (b : Nat) (s : List UInt8) (J : List Ln → World → Prop) (W : World) (pre : List Ln) (r : List UInt8) : Prop where
  box : W.heap[b]? = some (.cells #[str r] 9 (0, 0))
  cut : linesOf s = pre.map (·.1) ++ linesOf r
  len : r.length ≤ 1000000000
  j : J pre W
theorem LnI.left {b : Nat} {s r : List UInt8} {J : List Ln → World → Prop} {W : World} {pre : List Ln} (h : LnI b s J W pre r) : leftIn b W = r.length := by
  unfold leftIn
  rw [cell_blk h.box 0]
  simp [size_mk]

set_option maxRecDepth 100000 in
set_option maxHeartbeats 2000000 in
theorem lines1_h (n : Nat) (hn : 1 ≤ n) (b : Nat) (s : List UInt8) (hs : s.length ≤ 1000000000) :
    SeqNext Fence.wide n Tryz.prog 50 #[.pointer (some ⟨b, 0, none⟩)] lnEnc b (.cells #[str s] 9 (0, 0))
      (fun xs => xs.map (·.1) = linesOf s) (fun pre => pre.map (·.1) <+: linesOf s) (fun pre x => (linesOf s)[pre.length]? = some x.1) := by
  intro l J Jx W hset hdrew hY h0 hb
  have hL : LnI b s J W [] s := ⟨hb, rfl, hs, h0⟩
  refine callsIn_of_wp Tryz.func50 rfl trivial ?_ rfl
  simp only [List.append_toArray, List.cons_append, List.nil_append, Tryz.ntmps50, List.size_toArray, List.length_cons, List.length_nil, Nat.reduceAdd, Nat.reduceSub, Array.replicate_succ, Array.replicate_zero, List.push_toArray]
  gi_wp2
  gi_loopw [] (fun wr => ∃ pre r, LnI b s J wr pre r) (fun wr => leftIn b wr)
  case atStart => exact ⟨_, _, hL⟩
  case round =>
    obtain ⟨pre, r, hI⟩ := hrel
    have hc := cell_blk hI.box 0
    have hf := free_blk hI.box 0
    simp only [List.getElem?_toArray, List.getElem?_cons_zero] at hc
    by_cases hr : r = []
    · subst hr
      gi_wp2
      go_end0
      exact ⟨⟨_, rfl⟩, .inl ⟨pre, by have := hI.cut; rw [show linesOf [] = [] from rfl, List.append_nil] at this; exact this.symm, hI.j⟩⟩
    · have hlt : ((r.length : Int) > 0) := by have := List.length_pos_iff.2 hr; omega
      have hF28 : Fence.wide.fn 51 := trivial
      have hIx := Tryz.strings_IndexByte ⟨r.toArray⟩ 10 wr
      have hnx : ∀ (x : Ln) (q : List (List UInt8)), linesOf r = x.1 :: q → (linesOf s)[pre.length]? = some x.1 := by
        intro x q hq
        rw [hI.cut, hq, List.getElem?_append_right (by simp)]
        simp
      have hge := Lib.indexByte_ge r 10
      rcases (by omega : Lib.indexByte r 10 = -1 ∨ 0 ≤ Lib.indexByte r 10) with hix | hix
      · have hIx' : Calls Tryz.prog 51 #[str r, .int .u8 10] wr fun e w' => e = .returned (.int .i64 (-1)) ∧ wr = w' := hIx.mono (by
          rintro e w' ⟨rfl, rfl⟩
          refine ⟨?_, rfl⟩
          rw [← hix]; rfl)
        obtain ⟨fn, tmps, assign, body, hy, hR⟩ := hY pre ⟨r, hI.len⟩ (wr.setCell ⟨b, 0, none⟩ (.string ⟨#[]⟩)) (hset _ _ _ hI.j) (hnx _ [] (linesOf_no hix hr))
        simp only [lnEnc] at hy
        clear hIx
        gi_wp2_with (gi_at_call 51; refine (CallsIn.mono (callsIn_wide.2 hIx') ?_); rintro e w' ⟨rfl, rfl⟩)
        refine hR.mono ?_
        rintro e W3 (⟨rfl, hJ3, hk3⟩ | ⟨rfl, hJx3⟩)
        · gi_wp2
          go_roundw
          case rel =>
            refine ⟨pre ++ [⟨r, hI.len⟩], [], ⟨hk3.trans ?_, ?_, by simp, hJ3⟩⟩
            · rw [heap_setCell_at hI.box]; rfl
            · rw [hI.cut, linesOf_no hix hr]; simp [linesOf]
          case measure =>
            rw [hI.left]
            have : leftIn b W3 = 0 := by
              unfold leftIn
              have hb3 : W3.heap[b]? = some (.cells #[.string ⟨#[]⟩] 9 (0, 0)) := hk3.trans (by rw [heap_setCell_at hI.box]; rfl)
              rw [cell_blk hb3 0]
              rfl
            rw [this]
            exact List.length_pos_iff.2 hr
        · gi_wp2
          refine bodyPost_ret (results_none rfl _ _ _) rfl ?_
          refine ⟨⟨_, rfl⟩, .inr ⟨_, ?_, hJx3⟩⟩
          rw [hI.cut, linesOf_no hix hr]; simp
      · obtain ⟨i, hi⟩ : ∃ i : Nat, Lib.indexByte r 10 = i := ⟨_, (Int.toNat_of_nonneg hix).symm⟩
        have hil := ix_lt hi
        have hIx' : Calls Tryz.prog 51 #[str r, .int .u8 10] wr fun e w' => e = .returned (.int .i64 i) ∧ wr = w' := hIx.mono (by
          rintro e w' ⟨rfl, rfl⟩
          refine ⟨?_, rfl⟩
          rw [← hi]; rfl)
        clear hIx
        have e1 : (⟨r.toArray⟩ : ByteArray).extract 0 (i + 1) = ⟨(r.take (i + 1)).toArray⟩ := by
          apply ByteArray.ext; simp [ByteArray.data_extract]
        have e2 : (⟨r.toArray⟩ : ByteArray).extract (i + 1) r.length = ⟨(r.drop (i + 1)).toArray⟩ := by
          apply ByteArray.ext; simp [ByteArray.data_extract]; exact List.take_of_length_le (by rw [List.length_drop]; omega)
        have hll : (r.take (i + 1)).length ≤ 1000000000 := by have := hI.len; rw [List.length_take]; omega
        obtain ⟨fn, tmps, assign, body, hy, hR⟩ := hY pre ⟨r.take (i + 1), hll⟩ (wr.setCell ⟨b, 0, none⟩ (.string ⟨(r.drop (i + 1)).toArray⟩)).drew (hdrew _ _ (hset _ _ _ hI.j)) (hnx _ _ (linesOf_ix hi))
        simp only [lnEnc, str] at hy
        have hw1 : wrap64 ((i : Int) + 1) = (((i + 1 : Nat)) : Int) := by have := hI.len; unfold wrap64; omega
        have hw2 : i + 1 ≤ r.length := hil
        gi_wp2_with (gi_at_call 51; refine (CallsIn.mono (callsIn_wide.2 hIx') ?_); rintro e w' ⟨rfl, rfl⟩)
        gi_region
        gi_wp2
        refine hR.mono ?_
        rintro e W3 (⟨rfl, hJ3, hk3⟩ | ⟨rfl, hJx3⟩)
        · have hb3 : W3.heap[b]? = some (.cells #[str (r.drop (i + 1))] 9 (0, 0)) := hk3.trans (by
            show (World.setCell wr _ _).heap[b]? = _
            rw [heap_setCell_at hI.box]; rfl)
          have hI3 : LnI b s J W3 (pre ++ [⟨r.take (i + 1), hll⟩]) (r.drop (i + 1)) := ⟨hb3, by rw [hI.cut, linesOf_ix hi]; simp, by have := hI.len; rw [List.length_drop]; omega, hJ3⟩
          gi_wp2
          go_roundw
          case rel => exact ⟨_, _, hI3⟩
          case measure =>
            rw [hI.left, hI3.left, List.length_drop]
            omega
        · gi_wp2
          refine bodyPost_ret (results_none rfl _ _ _) rfl ?_
          refine ⟨⟨_, rfl⟩, .inr ⟨_, ?_, hJx3⟩⟩
          rw [hI.cut, linesOf_ix hi]; simp

/-- Lines itself: the text boxed, the closure -/
theorem lines_h (s : ByteArray) (w : World) :
    Calls Tryz.prog 10 #[.string s] w fun e w' => e = .returned (.func (.func 50) #[] #[.pointer (some ⟨w.heap.size, 0, none⟩)]) ∧ w' = w.alloc (.cells #[.string s] 9) := by
  go_enter Tryz.func10, Tryz.ntmps10
  go_wp2
  go_ret
  exact ⟨rfl, rfl⟩
end Go.Proofs.YteicdpgmclbgjaaGreatDoor

/-
  class.Table, once.
-/
namespace Go.Proofs.YteicdpgmclbgjaaGreatDoor
open Go.RowKit Go.Deep
namespace SX
/- TB r: 1 objects of 135 -/
def TBv : SV := (.sl true 200 4 0 68 (.o 201 0))
def TBn : Nat := 202
def TBh0 (h : Heap) : Heap :=
  (200, .vec 347 4 [(j 0), (j 0), (j 0), (.l .u32 0), (j 8), (j 1), (j 1024), (.l .u32 536870912), (j 16), (j 1), (j 512), (.l .u32 268435456), (j 24), (j 1), (j 341), (.l .u32 178956971), (j 32), (j 1), (j 256), (.l .u32 134217728), (j 48), (j 1), (j 170), (.l .u32 89478486), (j 64), (j 1), (j 128), (.l .u32 67108864), (j 80), (j 1), (j 102), (.l .u32 53687092), (j 96), (j 1), (j 85), (.l .u32 44739243), (j 112), (j 1), (j 73), (.l .u32 38347923), (j 128), (j 1), (j 64), (.l .u32 33554432), (j 144), (j 1), (j 56), (.l .u32 29826162), (j 160), (j 1), (j 51), (.l .u32 26843546), (j 176), (j 1), (j 46), (.l .u32 24403224), (j 192), (j 1), (j 42), (.l .u32 22369622), (j 208), (j 1), (j 39), (.l .u32 20648882), (j 224), (j 1), (j 36), (.l .u32 19173962), (j 240), (j 1), (j 34), (.l .u32 17895698), (j 256), (j 1), (j 32), (.l .u32 16777216), (j 288), (j 1), (j 28), (.l .u32 14913081), (j 320), (j 1), (j 25), (.l .u32 13421773), (j 352), (j 1), (j 23), (.l .u32 12201612), (j 384), (j 1), (j 21), (.l .u32 11184811), (j 416), (j 1), (j 19), (.l .u32 10324441), (j 448), (j 1), (j 18), (.l .u32 9586981), (j 480), (j 1), (j 17), (.l .u32 8947849), (j 512), (j 1), (j 16), (.l .u32 8388608), (j 576), (j 1), (j 14), (.l .u32 7456541), (j 640), (j 1), (j 12), (.l .u32 6710887), (j 704), (j 1), (j 11), (.l .u32 6100806), (j 768), (j 1), (j 10), (.l .u32 5592406), (j 896), (j 1), (j 9), (.l .u32 4793491), (j 1024), (j 1), (j 8), (.l .u32 4194304), (j 1152), (j 1), (j 7), (.l .u32 3728271), (j 1280), (j 1), (j 6), (.l .u32 3355444), (j 1408), (j 2), (j 11), (.l .u32 3050403), (j 1536), (j 1), (j 5), (.l .u32 2796203), (j 1792), (j 2), (j 9), (.l .u32 2396746), (j 2048), (j 1), (j 4), (.l .u32 2097152), (j 2304), (j 2), (j 7), (.l .u32 1864136), (j 2688), (j 1), (j 3), (.l .u32 1597831), (j 3072), (j 3), (j 8), (.l .u32 1398102), (j 3200), (j 2), (j 5), (.l .u32 1342178), (j 3456), (j 3), (j 7), (.l .u32 1242757), (j 4096), (j 1), (j 2), (.l .u32 1048576), (j 4864), (j 3), (j 5), (.l .u32 883012), (j 5376), (j 2), (j 3), (.l .u32 798916), (j 6144), (j 3), (j 4), (.l .u32 699051), (j 6528), (j 4), (j 5), (.l .u32 657931), (j 6784), (j 5), (j 6), (.l .u32 633103), (j 6912), (j 6), (j 7), (.l .u32 621379), (j 8192), (j 1), (j 1), (.l .u32 524288), (j 9472), (j 7), (j 6), (.l .u32 453439), (j 9728), (j 6), (j 5), (.l .u32 441506), (j 10240), (j 5), (j 4), (.l .u32 419431), (j 10880), (j 4), (j 3), (.l .u32 394759), (j 12288), (j 3), (j 2), (.l .u32 349526), (j 13568), (j 5), (j 3), (.l .u32 316552), (j 14336), (j 7), (j 4), (.l .u32 299594), (j 16384), (j 2), (j 1), (.l .u32 262144), (j 18432), (j 9), (j 4), (.l .u32 233017), (j 19072), (j 7), (j 3), (.l .u32 225198), (j 20480), (j 5), (j 2), (.l .u32 209716), (j 21760), (j 8), (j 3), (.l .u32 197380), (j 24576), (j 3), (j 1), (.l .u32 174763), (j 27264), (j 10), (j 3), (.l .u32 157533), (j 28672), (j 7), (j 2), (.l .u32 149797), (j 32768), (j 4), (j 1), (.l .u32 131072)] (.o 201 0)) :: h
def TBh : Heap := TBh0 []

theorem tb_sure : (runP Tryz.prog wt0 249 Tryz.f249 [] [] 0 tellK).sure (isRes TBv TBh TBn) = true := by kernel_rfl
noncomputable def wt1 : List (FuncId × Spec) := (249, onceSpec [] TBv TBh TBn) :: wt0
theorem wt1_ok (𝔅 : BigRep) : ∀ x ∈ wt1, SpecOk Tryz.prog 𝔅 x.1 x.2 := cons_ok (.inl (once_ok (runP_ok fit (wt0_ok 𝔅) Tryz.func249 (by kernel_rfl)) rfl tb_sure)) (wt0_ok 𝔅)
end SX
end Go.Proofs.YteicdpgmclbgjaaGreatDoor

/-
  SX: a call's tree with its end asked. No program in sight.
-/
namespace Go.Proofs.YteicdpgmclbgjaaGreatDoor
open Go.RowKit Go.Deep
namespace SX

/-- the end, asked -/
def askK (Q : Bool → SV → Heap → Nat → Prop) : Bool → SV → Heap → Nat → Tree := fun b v h n => .need (Q b v h n) .stop
theorem whole_ask {P : Program} {W : World} {f : FuncId} {sp : Spec} (hs : SpecEnters P (bigW W) f sp) {args : List SV} {vs : Array Value} (hv : RelL ren0 args vs.toList) (Q : Bool → SV → Heap → Nat → Prop)
    (hd : (sp args heap0 1 (askK Q)).den fun _ _ => False) :
    Calls P f vs W fun e w' => ∃ b x h' n' ρ' v, e = Ended b v ∧ SV.Rel ρ' x v ∧ Holds ⟨W, [], bigW W⟩ ρ' h' w' ∧ ρ'.bd n' ∧ Q b x h' n' := by
  refine (hs.calls ⟨W, [], bigW W⟩ _ args heap0 1 (askK Q) rfl hd ren0 W vs hv (whole_start W) (fun b hb => if_neg (by omega))).mono ?_
  rintro e w' ⟨b, v, x, h', n', ρ', rfl, hx, hH, _, hbd, hq, _⟩
  exact ⟨b, x, h', n', ρ', v, rfl, hx, hH, hbd, hq⟩
/-- one thing after another, all wanted -/
def needs : List Prop → Tree → Tree
  | [], k => k
  | p :: l, k => .need p (needs l k)
def allT : List Prop → Prop
  | [] => True
  | p :: l => p ∧ allT l
theorem needs_den {Q : Ex → St → Prop} : ∀ {l : List Prop} {k : Tree}, allT l → k.den Q → (needs l k).den Q
  | [], _, _, h => h
  | _ :: _, _, ⟨h1, h2⟩, h => ⟨h1, fun _ => needs_den h2 h⟩
end SX
end Go.Proofs.YteicdpgmclbgjaaGreatDoor

/-
  script: contracts of what it calls of the library. No condition.
-/
namespace Go.Proofs.YteicdpgmclbgjaaGreatDoor
open Go.RowKit Go.Deep Go.Shelf

/-- a space -/
def spc (x : Nat) : Bool := x == 32
set_option maxRecDepth 100000 in
theorem line1_pays (w : World) : PredAt Tryz.prog 53 #[] encR spc w := by
  intro W x _
  show Calls Tryz.prog 53 #[.int .i32 x] W _
  go_enter Tryz.func53, Tryz.ntmps53
  go_wp2
  go_ret
  refine ⟨?_, 0, rfl⟩
  have e : ((x : Int) == 32) = spc x := by
    unfold spc
    rw [Bool.eq_iff_iff]
    simp only [beq_iff_eq]
    omega
  rw [e]
  rfl
set_option maxRecDepth 100000 in
theorem fields_h (s : ByteArray) (hs : s.size ≤ 4294967296) (w : World) : Calls Tryz.prog 52 #[.string s, .func (.func 53) #[] #[]] w fun e w' => ∃ A, e = .returned (.slice (some ⟨A, 0, none⟩) (Lib.goFieldsP spc s).length (Lib.goFieldsP spc s).length) ∧ w.heap.size ≤ A ∧
    w'.ownsRow w.heap.size 9 1 (.slice (some ⟨A, 0, none⟩) (Lib.goFieldsP spc s).length (Lib.goFieldsP spc s).length) (Lib.goFieldsP spc s).length ((Lib.goFieldsP spc s).map Value.string) ∧ Below w.heap.size w w' :=
  Tryz.strings_FieldsFunc 53 #[] (enters_of Tryz.func53 (by kernel_rfl) rfl) spc s w hs (line1_pays w)
end Go.Proofs.YteicdpgmclbgjaaGreatDoor

/-
  strconv.FormatUint at base 10. Condition: the table of powers is laid.
-/
namespace Go.Proofs.YteicdpgmclbgjaaGreatDoor
open Go.RowKit Go.Deep Go.Shelf Go.Sort Go.Lib

theorem holds_zero0 (w : World) (T : TypeId) (nd : Nat) (hs : nd ≤ 24) : Go.Sort.Holds (fun (b : UInt8) => Value.int .u8 (b.toNat : Int)) (w.alloc (.cells zeros24 T)) w.heap.size 0 (Array.replicate nd (0 : UInt8)) := fun j hj => by
  have hj' : j < nd := by simpa using hj
  refine ⟨?_, World.frozen?_alloc_new _ _ _ _⟩
  rw [World.cell?_alloc_new, zeros24_at _ (by omega), getElem!_pos _ j hj]
  simp
theorem fin_pos0 (w : World) (o : Obj) (dk : Array UInt8) (k : Nat) : ∃ os, (putRow (fun (b : UInt8) => Value.int .u8 (b.toNat : Int)) (w.alloc o) w.heap.size 0 dk).drewN k = grow (w.drewN k) os := by
  rw [alloc_eq_grow]
  obtain ⟨os', _, e⟩ := putRow_grow_new (fun (b : UInt8) => Value.int .u8 (b.toNat : Int)) w #[o] w.heap.size 0 dk (Nat.le_refl _)
  exact ⟨os', by rw [e]; rfl⟩
set_option maxHeartbeats 6400000 in
set_option maxRecDepth 100000 in
theorem fmtU_in (u : Nat) (hu64 : u < 18446744073709551616) (w : World) (htab : Lib.TabIs Tryz.prog w "internal/strconv.uint64pow10" .u64 Lib.pow10Tab) :
    Calls Tryz.prog 166 #[.int .u64 u, .int .i64 10] w fun e w' => e = .returned (str (Lib.decDigits u)) ∧ ∃ k os, w' = grow (w.drewN k) os := by
  by_cases hs : u < 100
  · go_enter Tryz.func166, Tryz.ntmps166
    go_wp2_with (go_at_call 130; refine (Tryz.internal_strconv_small u hs _).mono ?_; rintro e w' ⟨rfl, rfl⟩)
    go_ret
    exact ⟨rfl, 0, #[], by simp [World.drewN_zero]⟩
  · have hu1 : 1 ≤ u := by omega
    have hnd20 : Lib.nDigits u ≤ 20 := by have := Lib.numDigits_eq u hu1 hu64; split at this <;> omega
    have hb3 : Lib.nDigits u ≤ 24 := by omega
    have hal : Tryz.prog.arrayLen 194 = 24 := by kernel_rfl
    have hsl1 : ∀ W, (Instr.sliceAt 194 (.pointer (some ⟨w.heap.size, 0, none⟩)) none (some (.int .i64 (Lib.nDigits u : Int))) none).run Tryz.prog W = .ok (.slice (some ⟨w.heap.size, 0, none⟩) (Lib.nDigits u) 24) W := fun W => by
      rw [run_sliceAt_array_h W 194 ⟨w.heap.size, 0, none⟩ (by kernel_rfl) .i64 (Lib.nDigits u : Int) (by omega) (by rw [hal]; omega)]
      go_simp
    have hH0 := holds_zero0 w 194 (Lib.nDigits u) (by omega)
    have hfmt := Tryz.internal_strconv_formatBase10 w.heap.size 0 24 u (Array.replicate (Lib.nDigits u) 0) (w.alloc (.cells Lib.zeros24 194)) hH0 (by rw [Array.size_replicate]; exact Lib.lt_pow_nDigits u) hu64 (by rw [Array.size_replicate]; omega)
    rw [Array.size_replicate] at hfmt
    have HH0 := Lib.hid hH0
    clear hH0 hal
    go_enter Tryz.func166, Tryz.ntmps166
    go_wp2_with (first
      | (go_at_call 131; refine (Tryz.internal_strconv_numDigits u hu1 hu64 _ (Lib.tabIs_alloc htab _)).mono ?_; rintro e w' ⟨rfl, rfl⟩))
    go_at_call 132
    refine hfmt.mono ?_
    rintro e w' ⟨rfl, k, v', dk, rfl, hF⟩
    have hcv : (convert 28 9 (.slice (some ⟨w.heap.size, 0, none⟩) (Lib.nDigits u) 24)).run Tryz.prog ((putRow (fun (b : UInt8) => Value.int .u8 (b.toNat : Int)) (w.alloc (.cells Lib.zeros24 194)) w.heap.size 0 dk).drewN k) = .ok (.string ⟨(Lib.decDigits u).toArray⟩) ((putRow (fun (b : UInt8) => Value.int .u8 (b.toNat : Int)) (w.alloc (.cells Lib.zeros24 194)) w.heap.size 0 dk).drewN k) := by
      have h := run_convert_bytes_back (P := Tryz.prog) ((putRow (fun (b : UInt8) => Value.int .u8 (b.toNat : Int)) (w.alloc (.cells Lib.zeros24 194)) w.heap.size 0 dk).drewN k) 28 9 5 ⟨w.heap.size, 0, none⟩ 24 (Lib.decDigits u) Tryz.underlying28 Tryz.underlying5 Tryz.underlying9 (fun j hj => by
        rw [Lib.row_is_numeral hF j hj, Lib.add_plain, World.cell?_drewN]
        exact cell?_putRow (fun (b : UInt8) => Value.int .u8 (b.toNat : Int)) _ w.heap.size 0 _ dk HH0.out (by rw [hF.size, Array.size_replicate]) j (by rw [hF.size]; rw [Lib.decDigits_length] at hj; exact hj))
      rw [Lib.decDigits_length] at h
      exact h
    go_wp2
    go_ret
    obtain ⟨os, eo⟩ := fin_pos0 w (.cells Lib.zeros24 194) dk k
    exact ⟨rfl, k, os, eo⟩
theorem fmtU_h (u : Nat) (hu64 : u < 18446744073709551616) (w : World) (hL : Laid w) :
    Calls Tryz.prog 101 #[.int .u64 u, .int .i64 10] w fun e w' => e = .returned (str (Lib.decDigits u)) ∧ Fr (fun _ => False) w w' := by
  go_enter Tryz.func101, Tryz.ntmps101
  go_wp2_with (go_at_call 166; refine (fmtU_in u hu64 _ hL.p10).mono ?_; rintro e w' ⟨rfl, k, os, rfl⟩)
  go_ret
  exact ⟨rfl, SX.Fr.of_below (Lib.below_grow _ _ (Nat.le_refl _) _ _)⟩
end Go.Proofs.YteicdpgmclbgjaaGreatDoor

/-
  script: a line that tells nothing, and one whose first word is no command. No condition.
-/
namespace Go.Proofs.YteicdpgmclbgjaaGreatDoor
open Go.RowKit Go.Deep Go.Shelf

/-- a line's words -/
def fieldsOf (s : List UInt8) : List (List UInt8) := (Lib.goFieldsP spc ⟨s.toArray⟩).map fun p => p.data.toList
theorem add0 (A k : Nat) : (⟨A, 0, none⟩ : Addr).add k = ⟨A, k, none⟩ := by
  unfold Addr.add
  split <;> simp_all
theorem row_cell {w : World} {B t A n m : Nat} {l : List Value} (h : w.ownsRow B t 1 (.slice (some ⟨A, 0, none⟩) n m) l.length l) {k : Nat} {u : Value} (hu : l[k]? = some u) : w.cell? ⟨A, k, none⟩ = some u := by
  obtain ⟨a', c', e1, _, _, _, h5⟩ := ownsRow_rd h
  obtain ⟨ad, e2, h6⟩ := h5 k u hu
  injection e1 with e1 _ _
  subst e1
  injection e2 with e2
  subst e2
  rw [add0] at h6
  exact h6
theorem fields_cells (s : List UInt8) : (Lib.goFieldsP spc ⟨s.toArray⟩).map Value.string = (fieldsOf s).map str := by
  unfold fieldsOf
  rw [List.map_map]
  refine List.map_congr_left fun p _ => ?_
  show Value.string p = .string ⟨p.data.toList.toArray⟩
  rw [Array.toArray_toList]
theorem fields_h' (s : List UInt8) (hs : s.length ≤ 4294967296) (w : World) : Calls Tryz.prog 52 #[str s, .func (.func 53) #[] #[]] w fun e w' => ∃ A, e = .returned (.slice (some ⟨A, 0, none⟩) (fieldsOf s).length (fieldsOf s).length) ∧
    (∀ k x, (fieldsOf s)[k]? = some x → w'.cell? ⟨A, k, none⟩ = some (str x)) ∧ Fr (fun _ => False) w w' := by
  refine (fields_h ⟨s.toArray⟩ (by rw [size_mk]; exact hs) w).mono ?_
  rintro e w' ⟨A, rfl, _, h2, h3⟩
  have hl : (Lib.goFieldsP spc ⟨s.toArray⟩).length = (fieldsOf s).length := by unfold fieldsOf; rw [List.length_map]
  rw [fields_cells, hl] at h2
  rw [hl]
  refine ⟨A, rfl, fun k x hk => ?_, SX.Fr.of_below h3⟩
  have h2' : w'.ownsRow w.heap.size 9 1 (.slice (some ⟨A, 0, none⟩) (fieldsOf s).length (fieldsOf s).length) ((fieldsOf s).map str).length ((fieldsOf s).map str) := by rw [List.length_map]; exact h2
  exact row_cell h2' (by rw [List.getElem?_map, hk]; rfl)
theorem fields_own (s : List UInt8) (hs : s.length ≤ 4294967296) (w : World) : Calls Tryz.prog 52 #[str s, .func (.func 53) #[] #[]] w fun e w' => ∃ A, e = .returned (.slice (some ⟨A, 0, none⟩) (fieldsOf s).length (fieldsOf s).length) ∧ w.heap.size ≤ A ∧
    w'.ownsRow w.heap.size 9 1 (.slice (some ⟨A, 0, none⟩) (fieldsOf s).length (fieldsOf s).length) (fieldsOf s).length ((fieldsOf s).map str) ∧ Fr (fun _ => False) w w' := by
  refine (fields_h ⟨s.toArray⟩ (by rw [size_mk]; exact hs) w).mono ?_
  rintro e w' ⟨A, rfl, h1, h2, h3⟩
  have hl : (Lib.goFieldsP spc ⟨s.toArray⟩).length = (fieldsOf s).length := by unfold fieldsOf; rw [List.length_map]
  rw [fields_cells, hl] at h2
  rw [hl]
  exact ⟨A, rfl, h1, h2, SX.Fr.of_below h3⟩
/-- says a line nothing? -/
def mute (s : List UInt8) : Prop := fieldsOf s = [] ∨ ∃ x r, fieldsOf s = (35 :: x) :: r
set_option maxHeartbeats 2000000 in
set_option maxRecDepth 100000 in
theorem line_mute (s : List UInt8) (hs : s.length ≤ 4294967296) (hm : mute s) (d all : Value) (w : World) :
    Calls Tryz.prog 11 #[d, all, str s] w fun e w' => e = .returned (.tuple #[str [], .int .i64 0]) ∧ Fr (fun _ => False) w w' := by
  have HF := Lib.hid (fun W => fields_h' s hs W)
  rcases hm with h0 | ⟨x, r, h0⟩
  · rw [h0] at HF
    go_enter Tryz.func11, Tryz.ntmps11
    go_wp2_with (go_at_call 52; refine (HF.out _).mono ?_; rintro e w1 ⟨A, rfl, _, hf⟩)
    refine bodyPost_ret (results_tmp2 rfl _ _ _) rfl ?_
    exact ⟨rfl, hf⟩
  · rw [h0, List.length_cons] at HF
    generalize hr : r.length = n at HF
    have hn0 : (((n : Int) + 1) == 0) = false := by simp only [beq_eq_false_iff_ne, ne_eq]; omega
    have hb : ∀ h, (⟨((35 : UInt8) :: x).toArray⟩ : ByteArray)[0]'h = 35 := fun _ => rfl
    have hb' : (((35 : UInt8).toNat : Int) == 35) = true := by decide
    go_enter Tryz.func11, Tryz.ntmps11
    go_wp2_with (go_at_call 52; refine (HF.out _).mono ?_; rintro e w1 ⟨A, rfl, hc, hf⟩; replace hc := hc 0 _ rfl)
    go_wp2
    refine bodyPost_ret (results_tmp2 rfl _ _ _) rfl ?_
    exact ⟨rfl, hf⟩
theorem look_none {w : World} {b : Nat} {m : List (List UInt8 × Value)} (hM : MapIs strE w b m) {x : List UInt8} (hx : mapGet m x = none) :
    (Instr.lookup 39 (.map (some b)) (str x) true).run Tryz.prog w = .ok (.tuple #[.agg #[.string ⟨#[]⟩, .nilFunc, .bool false], .bool false]) w := by
  have h := run_map_lookup (P := Tryz.prog) (SX.keyLaw_str Tryz.underlying9) Tryz.underlying39 hM x _ (Tryz.zeroValue62 w) true
  rw [hx] at h
  exact h
set_option maxHeartbeats 2000000 in
set_option maxRecDepth 100000 in
theorem line_bad (s : List UInt8) (hs : s.length ≤ 4294967296) {b : UInt8} {x : List UInt8} {r : List (List UInt8)} (h0 : fieldsOf s = (b :: x) :: r) (hb35 : b ≠ 35) (d : Value) {mb : Nat} {m : List (List UInt8 × Value)} (w : World) (hM : MapIs strE w mb m) (hx : mapGet m (b :: x) = none) :
    Calls Tryz.prog 11 #[d, .map (some mb), str s] w fun e w' => e = .returned (.tuple #[str [], .int .i64 60]) ∧ Fr (fun _ => False) w w' := by
  have HF := Lib.hid (fun W => fields_h' s hs W)
  rw [h0, List.length_cons] at HF
  generalize hr : r.length = n at HF
  have hn0 : (((n : Int) + 1) == 0) = false := by simp only [beq_eq_false_iff_ne, ne_eq]; omega
  have hb : ∀ h, (⟨(b :: x).toArray⟩ : ByteArray)[0]'h = b := fun _ => rfl
  have hb' : ((b.toNat : Int) == 35) = false := by
    simp only [beq_eq_false_iff_ne, ne_eq]
    intro e
    exact hb35 (UInt8.toNat_inj.1 (by show b.toNat = 35; omega))
  have HM := Lib.hid hM
  have hK := Lib.hid (fun W hf => look_none (hM.fr (w' := W) (S := fun _ => False) hf (fun x => x)) hx)
  clear hM
  go_enter Tryz.func11, Tryz.ntmps11
  go_wp2_with (go_at_call 52; refine (HF.out _).mono ?_; rintro e w1 ⟨A, rfl, hc, hf⟩; replace hc := hc 0 _ rfl; have hz := hK.out _ hf)
  go_wp2
  refine bodyPost_ret (results_tmp2 rfl _ _ _) rfl ?_
  exact ⟨rfl, hf.alloc _⟩
end Go.Proofs.YteicdpgmclbgjaaGreatDoor

/-
  script: contracts of what it calls of the library, for runs at which all is known. No condition.
-/
namespace Go.Proofs.YteicdpgmclbgjaaGreatDoor
open Go.RowKit Go.Deep Go.Shelf
namespace SX
/-- the lines by which a block is asked for, and their words -/
def ffTab : List (List UInt8 × List (List UInt8)) := [
  ([110, 101, 119, 32, 49, 32, 49, 48, 48], [[110, 101, 119], [49], [49, 48, 48]]),
  ([109, 97, 108, 108, 111, 99, 32, 48, 32, 52, 48], [[109, 97, 108, 108, 111, 99], [48], [52, 48]]),
  ([102, 105, 110, 105, 115, 104, 32, 57, 57], [[102, 105, 110, 105, 115, 104], [57, 57]]),
  ([114, 101, 112, 108, 121, 32, 48], [[114, 101, 112, 108, 121], [48]]),
  ([98, 108, 111, 99, 107, 115], [[98, 108, 111, 99, 107, 115]])]
theorem ffTab_ok : ffTab.all (fun p => fieldsOf p.1 == p.2) = true := by decide +kernel
noncomputable def ffLook (l : List UInt8) (t : List (List UInt8 × List (List UInt8))) : Option (List (List UInt8)) :=
  List.rec (motive := fun _ => Option (List (List UInt8))) none (fun p _ ih => if eqBy l p.1 then some p.2 else ih) t
theorem ffLook_ok {l : List UInt8} : ∀ {t : List (List UInt8 × List (List UInt8))} {q : List (List UInt8)}, t.all (fun p => fieldsOf p.1 == p.2) = true → ffLook l t = some q → fieldsOf l = q
  | [], q, _, h => by cases h
  | p :: t, q, ha, h => by
    simp only [List.all_cons, Bool.and_eq_true, beq_iff_eq] at ha
    have h' : (if eqBy l p.1 then some p.2 else ffLook l t) = some q := h
    split at h'
    next e =>
      injection h' with h'
      rw [eqBy_eq e, ha.1, h']
    · exact ffLook_ok ha.2 h'
noncomputable def spFF : Spec := fun args h n K => match args with
  | [x, f] => (match x with
    | .t l => (match f with
      | .fn g cap => (match cap with
        | [] => if Nat.beq g 53 then (match ffLook l ffTab with
          | some q => K true (.sl true n 1 0 q.length (.c q.length)) ((n, .vec 9 1 (q.map .t) (.c q.length)) :: h) (n + 1)
          | none => .fail 901) else .fail 902
        | _ => .fail 903)
      | _ => .fail 904)
    | _ => .fail 905)
  | _ => .fail 906
theorem ffLook_len {l : List UInt8} {q : List (List UInt8)} (h : ffLook l ffTab = some q) : l.length ≤ 11 ∧ 1 ≤ q.length ∧ q.length ≤ 3 := by
  have key : ∀ t : List (List UInt8 × List (List UInt8)), t.all (fun p => decide (p.1.length ≤ 11) && (decide (1 ≤ p.2.length) && decide (p.2.length ≤ 3))) = true → ffLook l t = some q → l.length ≤ 11 ∧ 1 ≤ q.length ∧ q.length ≤ 3 := by
    intro t
    induction t with
    | nil => intro _ h; cases h
    | cons p t ih =>
      intro ha h
      simp only [List.all_cons, Bool.and_eq_true, decide_eq_true_eq] at ha
      have h' : (if eqBy l p.1 then some p.2 else ffLook l t) = some q := h
      split at h'
      next e =>
        injection h' with h'
        rw [eqBy_eq e, ← h']
        exact ha.1
      · exact ih (by simpa using ha.2) h'
  exact key ffTab (by decide) h
theorem spFF_ok (𝔅 : BigRep) : SpecEnters Tryz.prog 𝔅 52 spFF where
  enter := enter_of Tryz.func52 (bodyOf_eq (by kernel_rfl)) (by kernel_rfl)
  calls := by
    intro C Q args h n K hB hk ρ w vs hv hH hbd
    unfold spFF at hk
    split at hk <;> try exact hk.elim
    split at hk <;> try exact hk.elim
    split at hk <;> try exact hk.elim
    split at hk <;> try exact hk.elim
    split at hk <;> try exact hk.elim
    split at hk <;> try exact hk.elim
    next l _ g _ hg _ q hq =>
    obtain ⟨v1, us, e1, hx, v2, us2, rfl, hf, rfl⟩ := hv
    simp only [SV.Rel] at hx hf
    subst hx
    obtain ⟨cs, rfl, hcs⟩ := hf
    have hcs' : cs = #[] := by
      have : cs.toList = [] := hcs
      rw [← Array.toList_inj, this]
    subst hcs'
    have hg' : g = 53 := Nat.eq_of_beq_eq_true hg
    subst hg'
    have e2 : vs = #[str l, .func (.func 53) #[] #[]] := by rw [← Array.toList_inj, e1]; rfl
    subst e2
    obtain ⟨hl1, hl2, hl3⟩ := ffLook_len hq
    refine (fields_own l (by omega) w).mono ?_
    rw [ffLook_ok ffTab_ok hq]
    rintro e w' ⟨A, rfl, hA, hown, hb⟩
    obtain ⟨_, ⟨_, e0⟩ | ⟨g2, cap, cur, e3, _, hcur, _, hmax, hsz, htk⟩⟩ := hown
    · omega
    · injection e3 with e3 _ e5
      injection e3 with e3
      injection e3 with e3
      subst e3 e5
      refine ⟨true, _, .sl true n 1 0 q.length (.c q.length), _, _, upd ρ n A, rfl, ?_, ?_, upd_le (hbd _ (Nat.le_refl _)), upd_bd hbd, hk⟩
      · simp only [SV.Rel]
        exact ⟨_, _, rfl, rfl, by omega, fun _ => ⟨_, upd_at _ _ _, fun _ => rfl⟩⟩
      · refine (hH.mono (upd_le (hbd _ (Nat.le_refl _)))).cons (o := .vec 9 1 (q.map fun s => .t s) (.c q.length)) (G := [(A, .cells cur 9 (0, 0))]) ?_ fun Gs hp => hp.add hb hcur hA
        refine ⟨q.length, rfl, by simp, hmax, .inr ⟨A, cur, upd_at _ _ _, rfl, hsz, ?_⟩⟩
        rw [List.length_map, show q.length = q.length * 1 from by omega, htk]
        exact RelL.map fun s _ => by show SV.Rel _ (.t s) _; simp only [SV.Rel]; rfl
/-- strconv.ParseUint, at the numerals that occur -/
def puTab : List (List UInt8 × Nat) := [([49], 1), ([49, 48, 48], 100), ([48], 0), ([52, 48], 40), ([57, 57], 99)]
def puOk (p : List UInt8 × Nat) : Bool := (match Lib.parseUintB 64 p.1 with | .ok u => u == p.2 | _ => false) && decide (p.1.length ≤ 3)
theorem puTab_ok : puTab.all puOk = true := by decide +kernel
noncomputable def puLook (l : List UInt8) (t : List (List UInt8 × Nat)) : Option Nat :=
  List.rec (motive := fun _ => Option Nat) none (fun p _ ih => if eqBy l p.1 then some p.2 else ih) t
theorem puLook_ok {l : List UInt8} : ∀ {t : List (List UInt8 × Nat)} {q : Nat}, t.all puOk = true → puLook l t = some q → Lib.parseUintB 64 l = .ok q ∧ l.length ≤ 3
  | [], q, _, h => by cases h
  | p :: t, q, ha, h => by
    simp only [List.all_cons, Bool.and_eq_true] at ha
    have h' : (if eqBy l p.1 then some p.2 else puLook l t) = some q := h
    split at h'
    next e =>
      injection h' with h'
      have h1 := ha.1
      unfold puOk at h1
      rw [Bool.and_eq_true] at h1
      rw [eqBy_eq e, ← h']
      refine ⟨?_, of_decide_eq_true h1.2⟩
      have h2 := h1.1
      split at h2
      next u hu => rw [hu, eq_of_beq h2]
      · cases h2
    · exact puLook_ok ha.2 h'
noncomputable def spPU : Spec := fun args h n K => match args with
  | [x, y, z] => (match x with
    | .t l => (match y with
      | .l k1 a => (match z with
        | .l k2 b => (match puLook l puTab with
          | some u => if decide (k1 = .i64) && (decide (k2 = .i64) && (decide (a = 10) && decide (b = 64))) then K true (.tup [.l .u64 (u : Int), .ni]) h n else .fail 916
          | none => .fail 911)
        | _ => .fail 912)
      | _ => .fail 913)
    | _ => .fail 914)
  | _ => .fail 915
theorem spPU_ok (𝔅 : BigRep) : SpecEnters Tryz.prog 𝔅 189 spPU where
  enter := enter_of Tryz.func189 (bodyOf_eq (by kernel_rfl)) (by kernel_rfl)
  calls := by
    intro C Q args h n K hB hk ρ w vs hv hH hbd
    unfold spPU at hk
    split at hk <;> try exact hk.elim
    split at hk <;> try exact hk.elim
    split at hk <;> try exact hk.elim
    split at hk <;> try exact hk.elim
    split at hk <;> try exact hk.elim
    split at hk <;> try exact hk.elim
    next l _ k1 a _ k2 b _ u hu hc =>
    simp only [Bool.and_eq_true, decide_eq_true_eq] at hc
    obtain ⟨rfl, rfl, rfl, rfl⟩ := hc
    obtain ⟨v1, us, e1, hx, v2, us2, rfl, hy, v3, us3, rfl, hz, rfl⟩ := hv
    simp only [SV.Rel] at hx hy hz
    subst hx hy hz
    have e2 : vs = #[.string (bytesOf l), .int .i64 10, .int .i64 64] := by rw [← Array.toList_inj, e1]
    subst e2
    obtain ⟨h1, h2⟩ := puLook_ok puTab_ok hu
    have hd : (bytesOf l).data.toList = l := by simp [bytesOf]
    refine (Tryz.strconv_ParseUint_10_at64_ok (bytesOf l) (by rw [show (bytesOf l).size = l.length from size_mk l]; omega) u (by rw [hd]; exact h1) w).mono ?_
    rintro e w' ⟨rfl, hw⟩
    have hf : Fr (fun _ => False) w w' := by
      rcases hw with rfl | rfl
      · exact Fr.refl _ _
      · exact Fr.of_below (Joins.below_bytesWorld _ _ _ _ (Nat.le_refl _))
    exact ⟨true, _, .tup [.l .u64 (u : Int), .ni], h, n, ρ, rfl, by simp only [SV.Rel]; exact ⟨_, rfl, .cons (by simp only [SV.Rel]) (.cons (by simp only [SV.Rel]) .nil)⟩, hH.quiet hf, .refl _, hbd, hk⟩
/-- strconv.Itoa of a small number -/
noncomputable def spIt : Spec := fun args h n K => match args with
  | [x] => (match x with
    | .l k z => (match z with
      | .ofNat u => if decide (k = .i64) && Nat.blt u 100 then K true (.t (Lib.decDigits u)) h n else .fail 921
      | _ => .fail 922)
    | _ => .fail 923)
  | _ => .fail 924
theorem spIt_ok (𝔅 : BigRep) : SpecEnters Tryz.prog 𝔅 13 spIt where
  enter := enter_of Tryz.func13 (bodyOf_eq (by kernel_rfl)) (by kernel_rfl)
  calls := by
    intro C Q args h n K hB hk ρ w vs hv hH hbd
    unfold spIt at hk
    split at hk <;> try exact hk.elim
    split at hk <;> try exact hk.elim
    split at hk <;> try exact hk.elim
    split at hk <;> try exact hk.elim
    next k _ u hc =>
    simp only [Bool.and_eq_true, decide_eq_true_eq] at hc
    obtain ⟨rfl, hu⟩ := hc
    obtain ⟨v1, us, e1, hx, rfl⟩ := hv
    simp only [SV.Rel] at hx
    subst hx
    have e2 : vs = #[.int .i64 (u : Int)] := by rw [← Array.toList_inj, e1]; rfl
    subst e2
    have hu' : u < 100 := by
      have := hu
      simp [Nat.blt] at this
      omega
    refine (Tryz.strconv_Itoa_small u hu' w).mono ?_
    rintro e w' ⟨rfl, rfl⟩
    exact ⟨true, _, .t (Lib.decDigits u), h, n, ρ, rfl, by simp only [SV.Rel]; rfl, hH, .refl _, hbd, hk⟩
/-- strconv.FormatUint at base 10 -/
noncomputable def spFU : Spec := fun args h n K => match args with
  | [x, y] => (match x with
    | .l k z => (match z with
      | .ofNat u => (match y with
        | .l k2 b => if big0 h && (decide (k = .u64) && (Nat.blt u 18446744073709551616 && (decide (k2 = .i64) && decide (b = 10)))) then K true (.t (Lib.decDigits u)) h n else .fail 931
        | _ => .fail 932)
      | _ => .fail 933)
    | _ => .fail 934)
  | _ => .fail 935
theorem spFU_ok {W : World} (hL : Laid W) : SpecEnters Tryz.prog (bigW W) 101 spFU where
  enter := enter_of Tryz.func101 (bodyOf_eq (by kernel_rfl)) (by kernel_rfl)
  calls := by
    intro C Q args h n K hB hk ρ w vs hv hH hbd
    unfold spFU at hk
    split at hk <;> try exact hk.elim
    split at hk <;> try exact hk.elim
    split at hk <;> try exact hk.elim
    split at hk <;> try exact hk.elim
    split at hk <;> try exact hk.elim
    next k _ u _ k2 b hc =>
    simp only [Bool.and_eq_true, decide_eq_true_eq] at hc
    obtain ⟨hb, rfl, hu, rfl, rfl⟩ := hc
    have hu : u < 18446744073709551616 := by
      simp [Nat.blt] at hu
      omega
    obtain ⟨v1, us, e1, hx, v2, us2, rfl, hy, rfl⟩ := hv
    simp only [SV.Rel] at hx hy
    subst hx hy
    have e2 : vs = #[.int .u64 (u : Int), .int .i64 10] := by rw [← Array.toList_inj, e1]; rfl
    subst e2
    have hw : Laid w := hL.at fun i o hi => hH.still hB hb hi
    refine (fmtU_h u hu w hw).mono ?_
    rintro e w' ⟨rfl, hf⟩
    exact ⟨true, _, .t (Lib.decDigits u), h, n, ρ, rfl, by simp only [SV.Rel]; rfl, hH.quiet hf, .refl _, hbd, hk⟩
/-- strings.CutPrefix, where there is none -/
noncomputable def spCP : Spec := fun args h n K => match args with
  | [x, y] => (match x with
    | .t l => (match y with
      | .t p => if Lib.hasPrefix l p then .fail 941 else K true (.tup [.t l, .ff]) h n
      | _ => .fail 942)
    | _ => .fail 943)
  | _ => .fail 944
theorem spCP_ok (𝔅 : BigRep) : SpecEnters Tryz.prog 𝔅 190 spCP where
  enter := enter_of Tryz.func190 (bodyOf_eq (by kernel_rfl)) (by kernel_rfl)
  calls := by
    intro C Q args h n K hB hk ρ w vs hv hH hbd
    unfold spCP at hk
    split at hk <;> try exact hk.elim
    split at hk <;> try exact hk.elim
    split at hk <;> try exact hk.elim
    split at hk <;> try exact hk.elim
    next l _ p hp =>
    obtain ⟨v1, us, e1, hx, v2, us2, rfl, hy, rfl⟩ := hv
    simp only [SV.Rel] at hx hy
    subst hx hy
    have e2 : vs = #[.string (bytesOf l), .string (bytesOf p)] := by rw [← Array.toList_inj, e1]
    subst e2
    have hd : ∀ l, (bytesOf l).data.toList = l := fun l => by simp [bytesOf]
    refine (Tryz.strings_CutPrefix (bytesOf l) (bytesOf p) w).mono ?_
    rw [hd, hd]
    have hpf : Lib.hasPrefix l p = false := by simpa using hp
    unfold Lib.trimPrefix
    rw [hpf]
    rintro e w' ⟨rfl, rfl⟩
    exact ⟨true, _, .tup [.t l, .ff], h, n, ρ, rfl, by simp only [SV.Rel]; exact ⟨_, rfl, .cons (by simp only [SV.Rel]; rfl) (.cons (by simp only [SV.Rel]) .nil)⟩, hH, .refl _, hbd, hk⟩
end SX
end Go.Proofs.YteicdpgmclbgjaaGreatDoor

/-
  The contracts of closed runs.
-/
namespace Go.Proofs.YteicdpgmclbgjaaGreatDoor
open Go.RowKit Go.Deep
namespace SX

noncomputable def wt2 : List (FuncId × Spec) := (52, spFF) :: (189, spPU) :: (13, spIt) :: (101, spFU) :: (190, spCP) :: wt1
theorem wt2_ok {W : World} (hL : Laid W) : ∀ x ∈ wt2, SpecOk Tryz.prog (bigW W) x.1 x.2 :=
  cons_ok (.inl (spFF_ok _)) (cons_ok (.inl (spPU_ok _)) (cons_ok (.inl (spIt_ok _)) (cons_ok (.inl (spFU_ok hL)) (cons_ok (.inl (spCP_ok _)) (wt1_ok _)))))
end SX
end Go.Proofs.YteicdpgmclbgjaaGreatDoor

/-
  The commands.
-/
namespace Go.Proofs.YteicdpgmclbgjaaGreatDoor
open Go.RowKit Go.Deep
namespace SX
/- CM r: 13 objects of 13 -/
def CMv : SV := (.m 1)
def CMn : Nat := 13
def CMh0 (h : Heap) : Heap :=
  (12, .cells 71 [(.fn 34 [])]) ::
  (11, .cells 71 [(.fn 33 [])]) ::
  (10, .cells 71 [(.fn 32 [])]) ::
  (9, .cells 71 [(.fn 31 [])]) ::
  (8, .cells 71 [(.fn 30 [])]) ::
  (7, .cells 71 [(.fn 30 [])]) ::
  (6, .cells 71 [(.fn 29 [])]) ::
  (5, .cells 71 [(.fn 28 [])]) ::
  (4, .cells 71 [(.fn 27 [])]) ::
  (3, .cells 71 [(.fn 26 [])]) ::
  (2, .cells 71 [(.fn 25 [])]) ::
  (1, mps [([112, 108, 97, 99, 101], (.agg [(.t [110]), (.fn 20 []), .tt])), ([114, 101, 102, 117, 115, 101], (.agg [(.t [116]), (.fn 21 []), .tt])), ([102, 105, 108, 108], (.agg [(.t [110]), (.fn 22 []), .tt])), ([110, 101, 119], (.agg [(.t [99, 99]), (.fn 23 []), .tt])), ([109, 97, 108, 108, 111, 99], (.agg [(.t [99, 110]), (.fn 60 [(q 2)]), .ff])), ([122, 97, 108, 108, 111, 99], (.agg [(.t [99, 110]), (.fn 60 [(q 3)]), .ff])), ([112, 97, 108, 108, 111, 99], (.agg [(.t [99, 110, 109]), (.fn 60 [(q 4)]), .ff])), ([115, 116, 97, 99, 107], (.agg [(.t [99, 110]), (.fn 60 [(q 5)]), .ff])), ([117, 110, 115, 116, 97, 99, 107], (.agg [(.t [99, 110]), (.fn 60 [(q 6)]), .ff])), ([115, 112, 101, 99, 105, 97, 108], (.agg [(.t [99, 110, 99, 110]), (.fn 60 [(q 7)]), .ff])), ([117, 110, 115, 112, 101, 99, 105, 97, 108], (.agg [(.t [99, 110, 99]), (.fn 60 [(q 8)]), .ff])), ([99, 121, 99, 108, 101], (.agg [(.t [99, 110, 42]), (.fn 60 [(q 9)]), .ff])), ([115, 119, 101, 101, 112], (.agg [(.t [99, 110]), (.fn 60 [(q 10)]), .ff])), ([115, 99, 97, 118, 101, 110, 103, 101], (.agg [(.t [99, 110]), (.fn 60 [(q 11)]), .ff])), ([102, 108, 117, 115, 104], (.agg [(.t [99]), (.fn 60 [(q 12)]), .ff])), ([98, 97, 99, 107, 103, 114, 111, 117, 110, 100], (.agg [(.t [116, 116]), (.fn 35 []), .ff])), ([103, 111], (.agg [(.t [99, 43]), (.fn 36 []), .ff])), ([102, 105, 110, 105, 115, 104], (.agg [(.t [117]), (.fn 37 []), .ff])), ([114, 101, 112, 108, 121], (.agg [(.t [99]), (.fn 38 []), .ff])), ([111, 114, 100, 101, 114], (.agg [(.t []), (.fn 39 []), .ff])), ([101, 110, 97, 98, 108, 101, 100], (.agg [(.t []), (.fn 40 []), .ff])), ([98, 108, 111, 99, 107, 115], (.agg [(.t []), (.fn 41 []), .ff])), ([108, 111, 97, 100], (.agg [(.t [110]), (.fn 42 []), .ff])), ([115, 116, 111, 114, 101], (.agg [(.t [110, 110]), (.fn 43 []), .ff])), ([111, 102], (.agg [(.t [110]), (.fn 44 []), .ff])), ([111, 119, 110, 101, 114], (.agg [(.t [110]), (.fn 45 []), .ff])), ([105, 110, 102, 111], (.agg [(.t [99]), (.fn 46 []), .ff])), ([101, 109, 105, 116, 116, 101, 100], (.agg [(.t []), (.fn 47 []), .ff])), ([115, 116, 97, 116, 115], (.agg [(.t []), (.fn 48 []), .ff])), ([115, 116, 97, 116, 101], (.agg [(.t []), (.fn 49 []), .ff]))]) ::
  (0, .big .z) :: h
def CMh : Heap := CMh0 []

set_option maxRecDepth 100000 in
theorem cm_sure : (runP Tryz.prog wt0 9 Tryz.f9 [] [(0, .big .z)] 1 tellK).sure (isRes CMv CMh CMn) = true := by kernel_rfl
noncomputable def D0h : Heap := (CMn, .cells 38 [.ns, .ns, .ns, .np]) :: CMh
noncomputable def D0n : Nat := CMn + 1
end SX
end Go.Proofs.YteicdpgmclbgjaaGreatDoor

/-
  SX: one closed call among others. No program in sight.
-/
namespace Go.Proofs.YteicdpgmclbgjaaGreatDoor
open Go.RowKit Go.Deep
namespace SX
/-- a call of which all is known, in a world of which some is -/
theorem sure_step {P : Program} {𝔅 : BigRep} {f : FuncId} {sp : Spec} (hs : SpecEnters P 𝔅 f sp) {a0 : List SV} {h0 : Heap} {n0 : Nat} {x : SV} {h1 : Heap} {n1 : Nat} (ht : (sp a0 h0 n0 tellK).sure (isRes x h1 n1) = true)
    {C : Ctx} (hB : C.B = 𝔅) {ρ : Ren} {w : World} {vs : Array Value} (hv : RelL ρ a0 vs.toList) (hH : Holds C ρ h0 w) (hbd : ρ.bd n0) :
    Calls P f vs w fun e w' => ∃ v ρ', e = .returned v ∧ SV.Rel ρ' x v ∧ Holds C ρ' h1 w' ∧ ρ.le ρ' ∧ ρ'.bd n1 := by
  refine (hs.calls C (fun e st => e = .r ∧ sget st.tm 0 = x ∧ subH st.hp h1 = true ∧ st.nx = n1) a0 h0 n0 tellK hB (Tree.sure_den (fun e st hok => ?_) ht) ρ w vs hv hH hbd).mono ?_
  · simp only [isRes, Bool.and_eq_true] at hok
    obtain ⟨⟨⟨h1, h2⟩, h3⟩, h4⟩ := hok
    refine ⟨?_, SV.beq_eq _ _ h2, h3, Nat.eq_of_beq_eq_true h4⟩
    cases e <;> first | rfl | cases h1
  · rintro e w' ⟨b, v, y, h', n', ρ', rfl, hy, hH', hle, hbd', he, hx, hsub, hn⟩
    have hb : b = true := by
      cases b with
      | true => rfl
      | false => cases he
    subst hb
    have hx' : y = x := hx
    subst hx'
    have hn' : n' = n1 := hn
    subst hn'
    exact ⟨v, ρ', rfl, hy, hH'.sub hsub, hle, hbd'⟩
/-- what a call has made is not told -/
noncomputable def below (n : Nat) (h : Heap) : Heap := List.rec (motive := fun _ => Heap) [] (fun x _ ih => if Nat.blt x.1 n then x :: ih else ih) h
theorem Reps.below {𝔅 : BigRep} {ρ : Ren} {n : Nat} : ∀ {h : Heap} {Gs : List Grp}, Reps 𝔅 ρ h Gs → ∃ Ks Ds, Reps 𝔅 ρ (SX.below n h) Ks ∧ Gs.Perm (Ks ++ Ds)
  | [], Gs, r => ⟨[], Gs, rfl, .refl _⟩
  | x :: h, Gs, ⟨G, r, e, h1, h2⟩ => by
    subst e
    obtain ⟨Ks, Ds, k1, k2⟩ := Reps.below (n := n) h2
    show ∃ Ks Ds, Reps 𝔅 ρ (if Nat.blt x.1 n then x :: SX.below n h else SX.below n h) Ks ∧ _
    split
    · exact ⟨G :: Ks, Ds, ⟨G, Ks, rfl, h1, k1⟩, by rw [List.cons_append]; exact k2.cons G⟩
    · exact ⟨Ks, G :: Ds, k1, (k2.cons G).trans List.perm_middle.symm⟩
theorem Holds.below {C : Ctx} {ρ : Ren} {h : Heap} {w : World} (n : Nat) (H : Holds C ρ h w) : Holds C ρ (SX.below n h) w := by
  obtain ⟨Gs, r, hp⟩ := H
  obtain ⟨Ks, Ds, k1, k2⟩ := Reps.below (n := n) r
  refine ⟨Ks, k1, ?_⟩
  have h2 : Hp C.I w (Ds ++ (Ks ++ C.R)) := hp.permG ((k2.append_right C.R).trans (by rw [← List.append_assoc]; exact (List.perm_append_comm).append_right C.R))
  clear hp k2
  induction Ds with
  | nil => exact h2
  | cons D Ds ih => exact ih (by rw [List.cons_append] at h2; exact h2.drop)
noncomputable def trim (sp : Spec) : Spec := fun args h n K => sp args h n fun b v h' n' => K b v (below n h') n'
theorem trim_ok {P : Program} {𝔅 : BigRep} {f : FuncId} {sp : Spec} (hs : SpecEnters P 𝔅 f sp) : SpecEnters P 𝔅 f (trim sp) where
  enter := hs.enter
  calls := by
    intro C Q args h n K hB hk ρ w vs hv hH hbd
    refine (hs.calls C Q args h n _ hB hk ρ w vs hv hH hbd).mono ?_
    rintro e w' ⟨b, v, x, h', n', ρ', he, hx, hH', hle, hbd', hk'⟩
    exact ⟨b, v, x, SX.below n h', n', ρ', he, hx, hH'.below n, hle, hbd', hk'⟩
end SX
end Go.Proofs.YteicdpgmclbgjaaGreatDoor

/-
  (*mheap.Heap).Spans where there is one span: its number. No condition.
-/
namespace Go.Proofs.YteicdpgmclbgjaaGreatDoor
open Go.RowKit Go.Deep

theorem SX.fr_all {w w' : World} {Gs : List Grp} (hp : Hp w w' Gs) (hm : SX.allG w ∈ Gs) : Fr (fun _ => False) w w' := by
  have key : ∀ {i : Nat} {o : Obj}, w.heap[i]? = some o → w'.heap[i]? = some o := fun {i o} hi => hp.has (i, o) (List.mem_flatten.2 ⟨_, hm, SX.allG_mem hi⟩)
  refine ⟨hp.io.1, hp.io.2.1, hp.io.2.2, ?_, fun b hb _ => ?_⟩
  · rcases Nat.lt_or_ge w'.heap.size w.heap.size with h1 | h1
    · have h2 : w.heap[w'.heap.size]? = some (w.heap[w'.heap.size]'h1) := Array.getElem?_eq_getElem _
      have h3 := key h2
      rw [Array.getElem?_eq_none (Nat.le_refl _)] at h3
      cases h3
    · exact h1
  · have h2 : w.heap[b]? = some (w.heap[b]'hb) := Array.getElem?_eq_getElem _
    rw [key h2, h2]
theorem SX.all_start (w : World) : Hp w w [SX.allG w] := by
  refine ⟨⟨rfl, rfl, rfl⟩, ?_, ?_⟩
  · simp only [List.append_nil, List.flatten_cons, List.flatten_nil, SX.allG_fst]
    exact List.nodup_range
  · intro x hx
    simp only [List.append_nil, List.flatten_cons, List.flatten_nil] at hx
    exact SX.allG_is hx
def intE (z : Int) : Value := .int .i64 z
namespace SX
set_option maxRecDepth 100000 in
theorem sort_sure : (runP Tryz.prog wt0 170 Tryz.f170 [.sl true 0 1 0 1 (.o 1 0), .fn 171 [.p 2 (.c 0)]] [(0, .vec 3 1 [.l .i64 1] (.o 1 0))] 3 tellK).sure
    (isRes (resV []) [(0, .vec 3 1 [.l .i64 1] (.o 1 0))] 3) = true := by kernel_rfl
/-- a row of one number, sorted -/
theorem sort_one {w0 w : World} {v : Value} {bx : Nat} (hw : Hp w0 w [allG w0]) (ho : w.ownsRow w0.heap.size 3 1 v 1 [.int .i64 1]) :
    Calls Tryz.prog 170 #[v, .func (.func 171) #[] #[.pointer (some ⟨bx, 0, none⟩)]] w fun e w' => e = .returned (.tuple #[]) ∧ Fr (fun _ => False) w0 w' ∧ w'.ownsRow w0.heap.size 3 1 v 1 [.int .i64 1] := by
  obtain ⟨_, ⟨_, e⟩ | ⟨g, cap, cur, rfl, hg, hh, h1, h2, h3, h4⟩⟩ := ho
  · omega
  have hH : Hp w0 w ([(g, .cells cur 3 (0, 0))] :: [allG w0]) := by
    refine ⟨hw.io, ?_, fun x hx => ?_⟩
    · have := hw.nd
      simp only [List.flatten_cons, List.flatten_nil, List.append_nil, List.map_cons, List.cons_append, List.nil_append, List.nodup_cons] at this ⊢
      refine ⟨fun hm => ?_, this⟩
      rw [allG_fst, List.mem_range] at hm
      omega
    · simp only [List.flatten_cons, List.mem_append, List.mem_singleton] at hx
      rcases hx with rfl | hx
      · exact hh
      · exact hw.has x (by simpa using hx)
  let ρ : Ren := fun b => if b = 0 then some g else if b = 1 then some cap else if b = 2 then some bx else none
  refine (sure_step (C := ⟨w0, [allG w0], fun _ _ _ => False⟩) (ρ := ρ) (runP_ok fit (wt0_ok _) Tryz.func170 (by kernel_rfl)) sort_sure rfl ?_ ?_ ?_).mono ?_
  · refine .cons ?_ (.cons ?_ .nil)
    · simp only [SV.Rel]
      exact ⟨_, cap, rfl, ⟨cap, rfl, rfl⟩, by omega, fun _ => ⟨g, rfl, fun _ => rfl⟩⟩
    · simp only [SV.Rel]
      exact ⟨_, rfl, .cons (by simp only [SV.Rel]; exact ⟨_, rfl, rfl⟩) .nil⟩
  · refine ⟨_, ⟨_, _, rfl, ⟨cap, ⟨cap, rfl, rfl⟩, by simpa using h1, h2, .inr ⟨g, cur, rfl, rfl, h3, ?_⟩⟩, rfl⟩, hH⟩
    simp only [List.length_singleton]
    simp only [Nat.mul_one] at h4
    rw [h4]
    exact .cons (by simp only [SV.Rel]) .nil
  · intro b hb
    show (if b = 0 then some g else if b = 1 then some cap else if b = 2 then some bx else none) = none
    rw [if_neg (by omega), if_neg (by omega), if_neg (by omega)]
  · rintro e w' ⟨x, ρ', rfl, hx, hH', hle, _⟩
    obtain ⟨Gs, ⟨G, r, rfl, hr, rfl⟩, hp⟩ := hH'
    obtain ⟨cap', ⟨y, hy, hcy⟩, k1, k2, ⟨k3, _⟩ | ⟨g', cur', k3, rfl, k4, k5⟩⟩ := hr
    · simp only [List.length_singleton] at k1; omega
    have e1 : some cap = some y := (hle 1 cap rfl).symm.trans hy
    have e2 : some g = some g' := (hle 0 g rfl).symm.trans k3
    injection e1 with e1
    injection e2 with e2
    subst e1 e2
    have hcy' : cap' = cap := hcy
    subst hcy'
    refine ⟨?_, fr_all hp (by simp), ⟨by simp, .inr ⟨g, cap', cur', rfl, hg, hp.has (g, _) (by simp), h1, h2, k4, ?_⟩⟩⟩
    · simp only [resV, SV.Rel] at hx
      obtain ⟨cs, rfl, hcs⟩ := hx
      have : cs = #[] := by
        have h0 : cs.toList = [] := hcs
        rw [← Array.toList_inj, h0]
      rw [this]
    · simp only [List.length_singleton] at k5
      obtain ⟨v1, us, e1, hv1, hus⟩ := k5
      have hus' : us = [] := hus
      subst hus'
      rw [Nat.mul_one, e1]
      simp only [SV.Rel] at hv1
      rw [hv1]
end SX
theorem int_info : (Tryz.prog.info? 3).map (fun i => (i.zero, i.size, i.bytes)) = some (some (.int .i64 0), 1, 8) := by kernel_rfl
def Held (p : Prop) : Prop := p
theorem hold {p : Prop} (h : Held p) : p := h
/-- where the walk over the one span stands -/
def SpI (w : World) (bm : Nat) (v : Value) (k : Nat) (n : Value) (wr : World) : Prop :=
  Fr (fun _ => False) w wr ∧ ((k = 1 ∧ n = .slice none 0 0 ∧ Iter intE wr (w.heap.size + 1) bm [(1, v)] []) ∨ (k = 0 ∧ wr.ownsRow w.heap.size 3 1 n 1 [.int .i64 1] ∧ Iter intE wr (w.heap.size + 1) bm [(1, v)] [1]))
set_option maxRecDepth 100000 in
set_option maxHeartbeats 4000000 in
theorem spans_one {bh bm : Nat} {v : Value} (w : World) (h4 : w.cell? ⟨bh, 4, none⟩ = some (.map (some bm))) (hm : MapIs intE w bm [(1, v)]) :
    Calls Tryz.prog 104 #[.pointer (some ⟨bh, 0, none⟩)] w fun e w' => ∃ x, e = .returned x ∧ Fr (fun _ => False) w w' ∧ w'.ownsRow w.heap.size 3 1 x 1 [.int .i64 1] := by
  obtain ⟨i0, hi, hz0, hz1, hz2⟩ := info_parts int_info
  have hbm : bm < w.heap.size := by obtain ⟨_, _, hb, _⟩ := hm; exact lt_blk hb
  have hm1 := Lib.hid (fun o => hm.fr ((Fr.refl (fun _ => False) w).alloc o) (fun x => x))
  have F0 := Lib.hid (Fr.refl (fun _ => False) w)
  have h4' : ∀ o, (w.alloc o).cell? ⟨bh, 4, none⟩ = some (.map (some bm)) := fun o => (World.cell?_of_block (heap_alloc_ne (World.block_lt_of_cell? _ _ h4))).trans h4
  clear hm h4
  go_enter Tryz.func104, Tryz.ntmps104
  go_wp2_with (refine wpList_iter_new (by rfl) Tryz.underlying221 _ (by rfl) (hm1.out _) (by rfl) ?_; intro oo hit; go_simp)
  go_loopg [3] 1 (fun k n wr => Hid (SpI w bm v k n wr))
  case atStart =>
    exact Lib.hid ⟨((Fr.refl _ w).alloc _).alloc _, .inl ⟨rfl, rfl, by simpa only [size_alloc] using hit⟩⟩
  case round =>
    have hH := hrel.out
    have HF := Lib.hid hH.1
    have hne : w.heap.size + 1 ≠ bm := by omega
    rcases hH.2 with ⟨rfl, rfl, hI⟩ | ⟨rfl, ho, hI⟩
    · rcases run_iter_next (P := Tryz.prog) hI hne 0 with ⟨hall, hr⟩ | ⟨⟨pk, pv⟩, hp, hpd, wn, hr, hk1, hk2, hk3⟩
      · exact absurd (hall _ (List.mem_singleton.2 rfl)) (by simp)
      · have e := List.mem_singleton.1 hp
        injection e with e1 e2
        subst e1 e2
        have HI := Lib.hid hk1
        have HN := Lib.hid hk2
        clear hp hpd hk1 hk2 hI hH hrel hit
        simp only [intE] at hr hk3
        go_wp2_with (first | (refine wpList_next_run (by rfl) _ (by rfl) (by rfl) hr ?_; clear hr) | (refine wpList_entry (by rfl) _ (by rfl) (by rfl) hk3 ?_; clear hk3) | (at_builtin; refine hold ?_))
        unfold Held
        have hfn : Fr (fun _ => False) w wn := HF.out.trans HN.out (fun b hb e => by omega)
        refine wpList_append_rd (w0 := w) (S := fun _ => False) rfl _ _ 84 rfl 3 i0 _ 1 8 Tryz.underlying84 hi hz0 hz1 hz2 rfl (by decide) _ 0 [] rfl ⟨by simp, .inl ⟨rfl, rfl⟩⟩ (hfn.alloc _) _ 1 [.int .i64 1] rfl
          (Rd.new (t := 3) (by rw [heap_alloc, if_pos rfl]) 1 1 (by simp)) (by simp [Value.oneCell']) (by simp [maxLen]) (by omega) ?_
        intro v' w5 hown hf5 hg5
        have hg6 : Fr (fun b => some b = (Value.slice none 0 0).ownBlock) _ w5 := hg5
        have hit5 : Iter intE w5 (w.heap.size + 1) bm [(1, pv)] [1] := ((HI.out.fr ((Fr.refl (fun _ => False) wn).alloc _) (fun x => x) (fun x => x)).fr hg6 (fun e => by cases e) (fun e => by cases e))
        replace hown := Lib.hid hown
        replace hit5 := Lib.hid hit5
        replace hf5 := Lib.hid hf5
        clear hg5 hg6 hfn HF HI HN
        go_wp2
        go_roundg 0
        case measure => omega
        case rel => exact Lib.hid ⟨hf5.out, .inr ⟨rfl, by simpa using hown.out, hit5.out⟩⟩
    · rcases run_iter_next (P := Tryz.prog) hI hne 0 with ⟨hall, hr⟩ | ⟨⟨pk, pv⟩, hp, hpd, wn, hr, hk1, hk2, hk3⟩
      · have HO := Lib.hid ho
        clear hall hI hH hrel hit ho
        go_wp2_with (first | (refine wpList_next_run (by rfl) _ (by rfl) (by rfl) hr ?_; clear hr) | (go_at_call 170; refine hold ?_))
        unfold Held
        refine (SX.sort_one ((SX.all_start w).quiet HF.out) HO.out).mono ?_
        rintro e w5 ⟨rfl, hf5, ho5⟩
        replace hf5 := Lib.hid hf5
        replace ho5 := Lib.hid ho5
        clear HO HF
        go_wp2
        go_ret
        exact ⟨_, rfl, hf5.out, ho5.out⟩
      · have e := List.mem_singleton.1 hp
        injection e with e1 e2
        subst e1
        exact absurd (List.mem_singleton.2 rfl) hpd
namespace SX
def isOne (z : Int) : Bool := @decide (z = 1) (Int.decEq z 1)
/-- a map of one entry, whose key is 1 -/
def oneKey : (k : KK) → List (k.T × SV) → Bool
  | .int k, es => (match es with
    | [e] => decide (k = .i64) && isOne e.1
    | _ => false)
  | .str, _ => false
  | .non, _ => false
def oneMap : SObj → Bool
  | .mp k es => oneKey k es
  | _ => false
theorem oneMap_is {o : SObj} (h : oneMap o = true) : ∃ x : SV, o = .mp (.int .i64) [((1 : Int), x)] := by
  cases o with
  | mp k es =>
    have h' : oneKey k es = true := h
    cases k with
    | int k =>
      match es, h' with
      | [e], h' =>
        have h2 : (decide (k = .i64) && isOne e.1) = true := h'
        rw [Bool.and_eq_true] at h2
        have h3 := of_decide_eq_true h2.1
        subst h3
        obtain ⟨a, x⟩ := e
        have h4 : isOne a = true := h2.2
        have key : ∀ z : Int, isOne z = true → ((.mp (.int .i64) [(z, x)] : SObj)) = .mp (.int .i64) [((1 : Int), x)] := fun z hz => by
          have h5 : z = 1 := @of_decide_eq_true _ (Int.decEq z 1) hz
          rw [h5]
        exact ⟨x, key a h4⟩
    | str => cases h'
    | non => cases h'
  | _ => cases h
def cellsAt (t : TypeId) : SObj → Option (List SV)
  | .cells u cs => if Nat.beq t u then some cs else none
  | _ => none
theorem cellsAt_is {t : TypeId} {o : SObj} {cs : List SV} (h : cellsAt t o = some cs) : o = .cells t cs := by
  cases o with
  | cells u c =>
    have h' : (if Nat.beq t u then some c else none) = some cs := h
    split at h'
    next e =>
      have := Nat.eq_of_beq_eq_true e
      subst this
      injection h' with h'
      rw [h']
    · cases h'
  | _ => cases h
/-- Spans, where there is one -/
noncomputable def spSpans : Spec := fun args h n K => match args with
  | [x] => (match x with
    | .p a f => (match f with
      | .c z => if Nat.beq z 0 then (match h.get a with
        | some o => (match cellsAt 225 o with
          | some cs => if Nat.blt 4 cs.length then (match lget cs 4 with
            | .m b => (match h.get b with
              | some u => if oneMap u then K true (.sl true n 1 0 1 (.o (n + 1) 0)) ((n, .vec 3 1 [.l .i64 1] (.o (n + 1) 0)) :: h) (n + 2) else .fail 931
              | none => .fail 932)
            | _ => .fail 933) else .fail 934
          | none => .fail 935)
        | none => .fail 936) else .fail 937
      | _ => .fail 938)
    | _ => .fail 939)
  | _ => .fail 940
theorem spSpans_ok (𝔅 : BigRep) : SpecEnters Tryz.prog 𝔅 104 spSpans where
  enter := enter_of Tryz.func104 (bodyOf_eq (by kernel_rfl)) (by kernel_rfl)
  calls := by
    intro C Q args h n K hB hk ρ w vs hv hH hbd
    unfold spSpans at hk
    split at hk <;> try exact hk.elim
    split at hk <;> try exact hk.elim
    split at hk <;> try exact hk.elim
    split at hk <;> try exact hk.elim
    split at hk <;> try exact hk.elim
    split at hk <;> try exact hk.elim
    split at hk <;> try exact hk.elim
    split at hk <;> try exact hk.elim
    split at hk <;> try exact hk.elim
    split at hk <;> try exact hk.elim
    rename_i x0 a f0 z hz oo o ho oc cs hcs hlen x4 b hb ou u hu hone
    obtain ⟨x, rfl⟩ := oneMap_is hone
    have ho' := cellsAt_is hcs
    subst ho'
    have hz' := Nat.eq_of_beq_eq_true hz
    subst hz'
    obtain ⟨v1, us, e1, hx, rfl⟩ := hv
    simp only [SV.Rel] at hx
    obtain ⟨g, hg, rfl⟩ := hx
    have e2 : vs = #[.pointer (some ⟨g, 0, none⟩)] := by rw [← Array.toList_inj, e1]; rfl
    subst e2
    obtain ⟨G, R', ⟨g', c, hg', rfl, hc⟩, hp, _⟩ := hH.focus ho
    have eg := hg.symm.trans hg'
    injection eg with eg
    subst eg
    have hlen' : 4 < cs.length := by simpa [Nat.blt_eq] using hlen
    obtain ⟨v4, hv4, hr4⟩ := hc.get? hlen'
    rw [hb] at hr4
    simp only [SV.Rel] at hr4
    obtain ⟨bm, hbm, rfl⟩ := hr4
    obtain ⟨G2, R2, ⟨g2, m2, hg2, hm2, hG2⟩, hp2, _⟩ := hH.focus hu
    have eg := hbm.symm.trans hg2
    injection eg with eg
    subst eg
    obtain ⟨y, q, rfl, hy, hq⟩ := hm2
    have hq' : q = [] := hq
    subst hq'
    have hM : MapIs intE w bm [((1 : Int), y)] := hp2.map hG2
    refine (spans_one w (by rw [hp.cell 4, ← Array.getElem?_toList, hv4]) hM).mono ?_
    rintro e w' ⟨r, rfl, hf, hown⟩
    obtain ⟨_, ⟨_, e0⟩ | ⟨gr, cap, cur, rfl, hA, hcur, h1, hmax, hsz, htk⟩⟩ := hown
    · omega
    · have hle : ρ.le (upd (upd ρ n gr) (n + 1) cap) := fun i y e => upd_le (upd_bd hbd _ (Nat.le_refl _)) _ _ (upd_le (hbd _ (Nat.le_refl _)) _ _ e)
      have at0 : upd (upd ρ n gr) (n + 1) cap n = some gr := upd_le (upd_bd hbd _ (Nat.le_refl _)) _ _ (upd_at _ _ _)
      refine ⟨true, _, .sl true n 1 0 1 (.o (n + 1) 0), _, _, upd (upd ρ n gr) (n + 1) cap, rfl, ?_, ?_, hle, upd_bd (upd_bd hbd), hk⟩
      · simp only [SV.Rel]
        exact ⟨_, _, rfl, ⟨cap, upd_at _ _ _, rfl⟩, h1, fun _ => ⟨gr, at0, fun _ => rfl⟩⟩
      · refine (hH.mono hle).cons (o := .vec 3 1 [.l .i64 1] (.o (n + 1) 0)) (G := [(gr, .cells cur 3 (0, 0))]) ?_ fun Gs hp => hp.add hf hcur hA
        refine ⟨cap, ⟨cap, upd_at _ _ _, rfl⟩, by simpa using h1, hmax, .inr ⟨gr, cur, at0, rfl, hsz, ?_⟩⟩
        rw [show ([SV.l IntKind.i64 1] : List SV).length = 1 * 1 from rfl, htk]
        exact .cons (by simp only [SV.Rel]) .nil
end SX
end Go.Proofs.YteicdpgmclbgjaaGreatDoor

/-
  script.Run, over contracts of its lines. No condition but that the table of numerals lies.
-/
namespace Go.Proofs.YteicdpgmclbgjaaGreatDoor
open Go.RowKit Go.Deep Go.Shelf
attribute [local go_sem] Oper.semAt_some

/-- what one line adds -/
def told (n : Nat) (t : List UInt8) (e : Int) : List UInt8 :=
  if e = 0 then (if t = [] then [] else t ++ [10]) else [108, 105, 110, 101, 32] ++ Lib.itoa n ++ [58, 32, 101, 114, 114, 111, 114, 32] ++ Lib.itoa e ++ [10]
/-- what the first lines tell -/
def outOf (ans : Nat → List UInt8 × Int) (k : Nat) : List UInt8 := (List.range k).flatMap fun i => told (i + 1) (ans i).1 (ans i).2
theorem outOf_succ (ans : Nat → List UInt8 × Int) (k : Nat) : outOf ans (k + 1) = outOf ans k ++ told (k + 1) (ans k).1 (ans k).2 := by
  unfold outOf
  rw [List.range_succ, List.flatMap_append]
  simp
/-- what is known of the lines' answers -/
structure Tells (ans : Nat → List UInt8 × Int) (N : Nat) : Prop where
  len : ∀ k, k < N → (ans k).1.length ≤ 1000
  lo : ∀ k, k < N → 0 ≤ (ans k).2
  hi : ∀ k, k < N → (ans k).2 ≤ 1000
theorem told_len {ans : Nat → List UInt8 × Int} {N : Nat} (h : Tells ans N) (hN : N ≤ 2000000) (k : Nat) (hk : k < N) : (told (k + 1) (ans k).1 (ans k).2).length ≤ 2000 := by
  have h1 := h.len k hk
  have h2 := h.lo k hk
  have h3 := h.hi k hk
  have h4 := Lib.itoa_length_le ((k + 1 : Nat) : Int) (by omega) (by omega)
  have h5 := Lib.itoa_length_le (ans k).2 (by omega) (by omega)
  unfold told
  split
  · split
    · simp
    · simp only [List.length_append, List.length_singleton]; omega
  · simp only [List.length_append, List.length_cons, List.length_nil]
    omega
theorem outOf_len {ans : Nat → List UInt8 × Int} {N : Nat} (h : Tells ans N) (hN : N ≤ 2000000) : ∀ k, k ≤ N → (outOf ans k).length ≤ 2000 * k
  | 0, _ => by simp [outOf]
  | k + 1, hk => by
    have h1 := outOf_len h hN k (by omega)
    have h2 := told_len h hN k (by omega)
    rw [outOf_succ, List.length_append]
    omega
/-- the line without its end -/
def bare (l : List UInt8) : List UInt8 := Lib.trimSuffix l [10]
/-- contracts of the lines of a text, in a world w0 -/
structure Lines (s : List UInt8) (ans : Nat → List UInt8 × Int) (w0 : World) (D : Nat → Nat → Nat → List Grp → Prop) : Prop where
  at0 : ∀ ρ Gs bd mb, SX.Reps (SX.bigW w0) ρ SX.D0h Gs → ρ.bd SX.D0n → ρ SX.CMn = some bd → ρ 1 = some mb → D bd mb 0 Gs
  big : ∀ bd mb k Gs, D bd mb k Gs → SX.allG w0 ∈ Gs
  step : ∀ bd mb k l, (linesOf s)[k]? = some l → ∀ R Gs w, D bd mb k Gs → Hp w0 w (Gs ++ R) →
    Calls Tryz.prog 11 #[.pointer (some ⟨bd, 0, none⟩), .map (some mb), str (bare l)] w fun e w' => e = .returned (.tuple #[str (ans k).1, .int .i64 (ans k).2]) ∧ ∃ Gs', D bd mb (k + 1) Gs' ∧ Hp w0 w' (Gs' ++ R)
theorem Lines.fr {s : List UInt8} {ans : Nat → List UInt8 × Int} {w0 w : World} {D : Nat → Nat → Nat → List Grp → Prop} (h : Lines s ans w0 D) {bd mb k : Nat} {Gs R : List Grp} (hD : D bd mb k Gs) (hp : Hp w0 w (Gs ++ R)) : Fr (fun _ => False) w0 w := by
  have hm := h.big _ _ _ _ hD
  have key : ∀ {i : Nat} {o : Obj}, w0.heap[i]? = some o → w.heap[i]? = some o := fun {i o} hi =>
    hp.has (i, o) (List.mem_flatten.2 ⟨_, List.mem_append.2 (.inl hm), SX.allG_mem hi⟩)
  refine ⟨hp.io.1, hp.io.2.1, hp.io.2.2, ?_, fun b hb _ => ?_⟩
  · rcases Nat.lt_or_ge w.heap.size w0.heap.size with h1 | h1
    · have h2 : w0.heap[w.heap.size]? = some (w0.heap[w.heap.size]'h1) := Array.getElem?_eq_getElem _
      have h3 := key h2
      rw [Array.getElem?_eq_none (Nat.le_refl _)] at h3
      cases h3
    · exact h1
  · have h2 : w0.heap[b]? = some (w0.heap[b]'hb) := Array.getElem?_eq_getElem _
    rw [key h2, h2]

/-- the blocks of Run's own -/
def runG (bx dC aC nC : Nat) (v : Value) (bd mb : Nat) (n : Int) (A : Grp) (lp : List Grp) : List Grp :=
  [[(nC, .cells #[.int .i64 n] 3 (0, 0))], [(dC, .cells #[.pointer (some ⟨bd, 0, none⟩)] 31 (0, 0))], [(aC, .cells #[.map (some mb)] 39 (0, 0))],
   [(bx, .cells #[v] 9 (0, 0))], A] ++ lp
/-- between two lines -/
def RunI (w0 : World) (ans : Nat → List UInt8 × Int) (D : Nat → Nat → Nat → List Grp → Prop) (b0 bx dC aC nC bd mb E : Nat) (k : Nat) (W : World) : Prop :=
  ∃ Gs A v oD oL, D bd mb k Gs ∧ BldG w0.heap.size b0 (Lib.byteCells (outOf ans k)) A ∧ Hp w0 W (Gs ++ runG bx dC aC nC v bd mb k A [[(E, oD)], [(E + 1, oL)]])
section
variable {w0 W : World} {ans : Nat → List UInt8 × Int} {D : Nat → Nat → Nat → List Grp → Prop} {b0 bx dC aC nC bd mb E k : Nat}
theorem mem_at {Gs : List Grp} {x : Grp} {L : List Grp} (i : Nat) (h : L[i]? = some x) : (Gs ++ L)[Gs.length + i]? = some x := by
  rw [List.getElem?_append_right (by omega), Nat.add_sub_cancel_left]; exact h
theorem grp_swap {I w w' : World} {Gs L : List Grp} {x y : Grp} (i : Nat) (h : Hp I w (Gs ++ L)) (hi : L[i]? = some x) (hf : ∀ R, Hp I w (x :: R) → Hp I w' (y :: R)) : Hp I w' (Gs ++ L.set i y) := by
  have h1 := h.permG (List.Perm.trans (List.perm_append_comm) ((perm_erase hi).symm.append_right Gs))
  have hlt : i < L.length := (List.getElem?_eq_some_iff.1 hi).1
  have h2 := hf _ h1
  refine h2.permG ?_
  have h3 : (L.set i y)[i]? = some y := by rw [List.getElem?_set_self hlt]
  have h4 : (y :: (L.set i y).eraseIdx i).Perm (L.set i y) := perm_erase h3
  have h5 : (L.set i y).eraseIdx i = L.eraseIdx i := by
    rw [List.eraseIdx_set_eq]
  rw [h5] at h4
  exact (h4.append_right Gs).trans List.perm_append_comm
end
/-- new blocks beside old ones -/
theorem hp_more {I w W : World} {Gs : List Grp} (h : Hp I w Gs) (hf : Fr (fun _ => False) w W) : ∀ (L : Grp), (L.map Prod.fst).Nodup → (∀ x ∈ L, w.heap.size ≤ x.1 ∧ W.heap[x.1]? = some x.2) → Hp I W (Gs ++ L.map fun x => [x])
  | [], _, _ => by rw [List.map_nil, List.append_nil]; exact h.quiet hf
  | x :: L, nd, hx => by
    rw [List.map_cons, List.nodup_cons] at nd
    have ih := hp_more h hf L nd.2 fun y hy => hx y (List.mem_cons_of_mem _ hy)
    have h0 := hx x List.mem_cons_self
    have h1 : Hp I W ([x] :: (Gs ++ L.map fun x => [x])) := by
      refine ⟨ih.io, ?_, fun y hy => ?_⟩
      · rw [List.flatten_cons, List.map_append]
        show (x.1 :: ((Gs ++ L.map fun x => [x]).flatten.map Prod.fst)).Nodup
        rw [List.nodup_cons]
        refine ⟨fun hm => ?_, ih.nd⟩
        rw [List.flatten_append, List.map_append, List.mem_append] at hm
        rcases hm with hm | hm
        · obtain ⟨y, hy, e⟩ := List.mem_map.1 hm
          have := h.lt hy
          omega
        · refine nd.1 ?_
          have e : (L.map fun x => [x]).flatten = L := by
            clear hx nd ih h0 hm
            induction L with
            | nil => rfl
            | cons y L ih => simp [ih]
          rw [e] at hm
          exact hm
      · rw [List.flatten_cons, List.mem_append, List.mem_singleton] at hy
        rcases hy with rfl | hy
        · exact h0.2
        · exact ih.has y hy
    exact h1.permG (List.perm_middle (l₁ := Gs)).symm
set_option maxRecDepth 100000 in
/-- commands, and the desk -/
theorem cmd_h {w0 W : World} (hf : Fr (fun _ => False) w0 W) {dC : Nat} {oc : Obj} (hd : W.heap[w0.heap.size]? = some (.cells #[.slice none 0 0, .slice none 0 0, .slice none 0 0, .pointer none] 38 (0, 0))) (hc : W.heap[dC]? = some oc) (hlt : w0.heap.size < dC) :
    Calls Tryz.prog 9 #[] W fun e w' => ∃ mb ρ Gs, e = .returned (.map (some mb)) ∧ SX.Reps (SX.bigW w0) ρ SX.D0h Gs ∧ ρ.bd SX.D0n ∧ ρ SX.CMn = some w0.heap.size ∧ ρ 1 = some mb ∧ Hp w0 w' (Gs ++ [[(dC, oc)]]) := by
  have h0 := hp_more (SX.all_start w0) hf [(w0.heap.size, .cells #[.slice none 0 0, .slice none 0 0, .slice none 0 0, .pointer none] 38 (0, 0)), (dC, oc)] (by simp; omega) (by
    intro x hx
    simp only [List.mem_cons, List.not_mem_nil, or_false] at hx
    rcases hx with rfl | rfl
    · exact ⟨Nat.le_refl _, hd⟩
    · exact ⟨by omega, hc⟩)
  refine (SX.sure_step (C := ⟨w0, [[(w0.heap.size, .cells #[.slice none 0 0, .slice none 0 0, .slice none 0 0, .pointer none] 38 (0, 0))], [(dC, oc)]], SX.bigW w0⟩) (ρ := SX.ren0)
    (SX.runP_ok SX.fit (SX.wt0_ok _) Tryz.func9 (by kernel_rfl)) SX.cm_sure rfl (vs := #[]) .nil ⟨_, ⟨_, _, rfl, ⟨0, rfl, rfl⟩, rfl⟩, h0⟩ (fun b hb => if_neg (by omega))).mono ?_
  rintro e w' ⟨x, ρ, rfl, hx, ⟨Gs, hr, hp⟩, _, hbd⟩
  have hx' : ∃ g, ρ 1 = some g ∧ x = .map (some g) := by simpa only [SX.CMv, SX.SV.Rel] using hx
  obtain ⟨mb, hmb, rfl⟩ := hx'
  have hle : ρ.le (SX.upd ρ SX.CMn w0.heap.size) := SX.upd_le (hbd _ (Nat.le_refl _))
  refine ⟨mb, SX.upd ρ SX.CMn w0.heap.size, [(w0.heap.size, .cells #[.slice none 0 0, .slice none 0 0, .slice none 0 0, .pointer none] 38 (0, 0))] :: Gs, rfl, ⟨_, _, rfl, ⟨_, _, SX.upd_at _ _ _, rfl, ?_⟩, hr.mono hle⟩, SX.upd_bd hbd, SX.upd_at _ _ _, hle _ _ hmb, hp.permG ?_⟩
  · exact .cons (by simp only [SX.SV.Rel]) (.cons (by simp only [SX.SV.Rel]) (.cons (by simp only [SX.SV.Rel]) (.cons (by simp only [SX.SV.Rel]) .nil)))
  · rw [List.cons_append]
    exact List.perm_middle (l₁ := Gs)
theorem fr_put' (w : World) (b : Nat) (o : Obj) : Fr (fun x => x = b) w (w.putObj b o) :=
  ⟨rfl, rfl, rfl, by simp [World.putObj], fun k _ hk => World.putObj_heap_other hk⟩
/-- Run's own blocks as they are made -/
theorem run_start {w0 w1 W : World} {ans : Nat → List UInt8 × Int} {D : Nat → Nat → Nat → List Grp → Prop} {bd mb : Nat} {Gs : List Grp} {v : Value} {oD oL : Obj} (hD : D bd mb 0 Gs) (hp : Hp w0 w1 (Gs ++ [[(w0.heap.size + 1, .cells #[.pointer (some ⟨bd, 0, none⟩)] 31 (0, 0))]]))
    (hf : Fr (fun _ => False) w1 W) (h0 : w0.heap.size ≤ w1.heap.size) (ha : W.heap[w1.heap.size]? = some (.cells #[.map (some mb)] 39 (0, 0))) (hb : W.heap[w1.heap.size + 1]? = some (.cells #[.pointer none, .slice none 0 0] 43 (0, 0)))
    (hn : W.heap[w1.heap.size + 1 + 1]? = some (.cells #[.int .i64 0] 3 (0, 0))) (hx : W.heap[w1.heap.size + 1 + 1 + 1]? = some (.cells #[v] 9 (0, 0))) (hE : W.heap[w1.heap.size + 4]? = some oD) (hE1 : W.heap[w1.heap.size + 5]? = some oL) :
    RunI w0 ans D (w1.heap.size + 1) (w1.heap.size + 1 + 1 + 1) (w0.heap.size + 1) w1.heap.size (w1.heap.size + 1 + 1) bd mb (w1.heap.size + 4) 0 W := by
  have h := hp_more hp hf [(w1.heap.size + 1 + 1, .cells #[.int .i64 0] 3 (0, 0)), (w1.heap.size, .cells #[.map (some mb)] 39 (0, 0)), (w1.heap.size + 1 + 1 + 1, .cells #[v] 9 (0, 0)),
    (w1.heap.size + 1, .cells #[.pointer none, .slice none 0 0] 43 (0, 0)), (w1.heap.size + 4, oD), (w1.heap.size + 5, oL)] (by simp; omega) (by
      intro x hx0
      simp only [List.mem_cons, List.not_mem_nil, or_false] at hx0
      rcases hx0 with rfl | rfl | rfl | rfl | rfl | rfl
      · exact ⟨by show _ ≤ w1.heap.size + 1 + 1; omega, hn⟩
      · exact ⟨Nat.le_refl _, ha⟩
      · exact ⟨by show _ ≤ w1.heap.size + 1 + 1 + 1; omega, hx⟩
      · exact ⟨by show _ ≤ w1.heap.size + 1; omega, hb⟩
      · exact ⟨by show _ ≤ w1.heap.size + 4; omega, hE⟩
      · exact ⟨by show _ ≤ w1.heap.size + 5; omega, hE1⟩)
  refine ⟨Gs, _, v, oD, oL, hD, BldG.new (by omega), h.permG ?_⟩
  rw [List.append_assoc]
  refine List.Perm.append_left _ ?_
  simp only [List.map_cons, List.map_nil, List.cons_append, List.nil_append, runG]
  exact List.Perm.swap _ _ _
section
variable {w0 W W' : World} {ans : Nat → List UInt8 × Int} {D : Nat → Nat → Nat → List Grp → Prop} {b0 bx dC aC nC bd mb E k : Nat}
/-- an own block turns -/
theorem RunI.turn {Gs : List Grp} {L : List Grp} {b : Nat} {o o' : Obj} (i : Nat) (h : Hp w0 W (Gs ++ L)) (hi : L[i]? = some [(b, o)]) (hf : Fr (fun x => x = b) W W') (hb : W'.heap[b]? = some o') : Hp w0 W' (Gs ++ L.set i [(b, o')]) :=
  grp_swap i h hi fun _ hp => hp.put hf hb
theorem RunI.at {Gs : List Grp} {L : List Grp} {b : Nat} {o : Obj} (i : Nat) (h : Hp w0 W (Gs ++ L)) (hi : L[i]? = some [(b, o)]) : W.heap[b]? = some o :=
  h.has (b, o) (List.mem_flatten.2 ⟨_, List.mem_append.2 (.inr (List.mem_of_getElem? hi)), List.mem_singleton.2 rfl⟩)
theorem run_abide : Abide2 bx E (fun (pre : List Ln) W => RunI w0 ans D b0 bx dC aC nC bd mb E pre.length W) where
  put := by
    rintro s W l o o' ⟨Gs, A, v, oD, oL, h1, h2, h3⟩ hl ho hc
    rcases hl with rfl | rfl
    · have hlt : l < W.heap.size := lt_blk ho
      exact ⟨Gs, A, v, o', oL, h1, h2, RunI.turn (L := runG bx dC aC nC v bd mb s.length A [[(l, oD)], [(l + 1, oL)]]) 5 h3 rfl (fr_put' W l o') (World.putObj_heap_same hlt)⟩
    · have hlt : E + 1 < W.heap.size := lt_blk ho
      exact ⟨Gs, A, v, oD, o', h1, h2, RunI.turn (L := runG bx dC aC nC v bd mb s.length A [[(E, oD)], [(E + 1, oL)]]) 6 h3 rfl (fr_put' W (E + 1) o') (World.putObj_heap_same hlt)⟩
  set := by
    rintro s W u ⟨Gs, A, v, oD, oL, h1, h2, h3⟩
    have hb := RunI.at (L := runG bx dC aC nC v bd mb s.length A [[(E, oD)], [(E + 1, oL)]]) 3 h3 rfl
    exact ⟨Gs, A, u, oD, oL, h1, h2, RunI.turn (L := runG bx dC aC nC v bd mb s.length A [[(E, oD)], [(E + 1, oL)]]) 3 h3 rfl ((Fr.refl _ W).setCell _ _ (.inl rfl)) (heap_setCell_at hb)⟩
  drew := by
    rintro s W ⟨Gs, A, v, oD, oL, h1, h2, h3⟩
    exact ⟨Gs, A, v, oD, oL, h1, h2, h3.drew⟩
end
theorem grp_out {I w : World} {Gs L : List Grp} {x : Grp} (i : Nat) (h : Hp I w (Gs ++ L)) (hi : L[i]? = some x) : Hp I w (x :: (L.eraseIdx i ++ Gs)) :=
  h.permG (List.Perm.trans (List.perm_append_comm) ((perm_erase hi).symm.append_right Gs))
theorem grp_in {I w : World} {Gs L : List Grp} {x y : Grp} (i : Nat) (hi : L[i]? = some x) (h : Hp I w (y :: (L.eraseIdx i ++ Gs))) : Hp I w (Gs ++ L.set i y) := by
  have hlt : i < L.length := (List.getElem?_eq_some_iff.1 hi).1
  have h4 : (y :: (L.set i y).eraseIdx i).Perm (L.set i y) := perm_erase (by rw [List.getElem?_set_self hlt])
  rw [List.eraseIdx_set_eq] at h4
  exact h.permG ((h4.append_right Gs).trans List.perm_append_comm)
/-- the text is written -/
theorem run_put {w0 W : World} {Gs lp : List Grp} {bx dC aC nC bd mb b0 B : Nat} {v : Value} {n : Int} {A : Grp} {l : List UInt8} (hA : BldG B b0 (Lib.byteCells l) A) (hp : Hp w0 W (Gs ++ runG bx dC aC nC v bd mb n A lp)) (t : List UInt8) (hlen : l.length + t.length ≤ 140737488355328) :
    Calls Tryz.prog 14 #[.pointer (some ⟨b0, 0, none⟩), str t] W fun e w' => e = .returned (.tuple #[.int .i64 t.length, .nilIface]) ∧ ∃ A', BldG B b0 (Lib.byteCells (l ++ t)) A' ∧ Hp w0 w' (Gs ++ runG bx dC aC nC v bd mb n A' lp) := by
  refine (bld_put hA (grp_out (L := runG bx dC aC nC v bd mb n A lp) 4 hp rfl) ⟨t.toArray⟩ (by rw [Lib.byteCells_length, size_mk]; exact hlen)).mono ?_
  rintro e w' ⟨rfl, A', hA', hp'⟩
  refine ⟨by rw [size_mk], A', ?_, grp_in (L := runG bx dC aC nC v bd mb n A lp) (x := A) 4 rfl hp'⟩
  rw [show Lib.byteCells (l ++ t) = Lib.byteCells l ++ Lib.strCells ⟨t.toArray⟩ from by simp [Lib.byteCells, Lib.strCells]]
  exact hA'
/-- a numeral -/
theorem itoa_h {w : World} (hL : Laid w) (z : Int) (h0 : 0 ≤ z) (h1 : z ≤ 2000000) : Calls Tryz.prog 13 #[.int .i64 z] w fun e w' => e = .returned (str (Lib.itoa z)) ∧ Fr (fun _ => False) w w' := by
  refine (Tryz.strconv_Itoa z (by omega) (by omega) w hL.p10).mono ?_
  rintro e w' ⟨rfl, k, os, rfl⟩
  exact ⟨rfl, SX.Fr.of_below (Lib.below_grow _ _ (Nat.le_refl _) _ _)⟩
theorem run_next {w0 W W' : World} {ans : Nat → List UInt8 × Int} {D : Nat → Nat → Nat → List Grp → Prop} {b0 bx dC aC nC bd mb E k : Nat} {Gs Gs' : List Grp} {v : Value} {A A' : Grp} {oD oL : Obj}
    (hp : Hp w0 W (Gs ++ runG bx dC aC nC v bd mb k A [[(E, oD)], [(E + 1, oL)]])) (hp' : Hp w0 W' (Gs' ++ runG bx dC aC nC v bd mb ((k : Int) + 1) A' [[(E, oD)], [(E + 1, oL)]]))
    (hD : D bd mb (k + 1) Gs') (hA : BldG w0.heap.size b0 (Lib.byteCells (outOf ans (k + 1))) A') : KeepsLoop E W W' ∧ KeepC bx W W' ∧ RunI w0 ans D b0 bx dC aC nC bd mb E (k + 1) W' := by
  have a1 := RunI.at (L := runG _ _ _ _ _ _ _ _ _ _) 3 hp rfl
  have a2 := RunI.at (L := runG _ _ _ _ _ _ _ _ _ _) 5 hp rfl
  have a3 := RunI.at (L := runG _ _ _ _ _ _ _ _ _ _) 6 hp rfl
  have b1 := RunI.at (L := runG _ _ _ _ _ _ _ _ _ _) 3 hp' rfl
  have b2 := RunI.at (L := runG _ _ _ _ _ _ _ _ _ _) 5 hp' rfl
  have b3 := RunI.at (L := runG _ _ _ _ _ _ _ _ _ _) 6 hp' rfl
  refine ⟨⟨b2.trans a2.symm, b3.trans a3.symm⟩, b1.trans a1.symm, Gs', A', v, oD, oL, hD, hA, ?_⟩
  rw [show ((k + 1 : Nat) : Int) = (k : Int) + 1 from rfl]
  exact hp'
theorem strne {t : List UInt8} (h : t ≠ []) : ¬ (⟨t.toArray⟩ : ByteArray) = ⟨#[]⟩ := fun e => h (by injection e with e; simpa using e)
end Go.Proofs.YteicdpgmclbgjaaGreatDoor

/-
  ScriptRemarks: its text, line by line; what it tells. No program in sight.
-/
namespace Go.Proofs.YteicdpgmclbgjaaGreatDoor
open Go.RowKit Go.Deep Go.Shelf

/-- graphic -/
def gr (b : UInt8) : Bool := decide (32 < b.toNat) && decide (b.toNat < 127)
/-- a remark, or an empty line -/
def remark (i : Nat) : List UInt8 := if i % 3 = 0 then [] else if i % 3 = 1 then [32, 32, 32] else [32, 32, 35, 32, 97, 32, 114, 101, 109, 97, 114, 107, 58, 32, 102, 114, 111, 98]
/-- a word that is no command -/
def wordOf (s : List UInt8) : List UInt8 := [122, 122] ++ s.filter gr
def lineOf (l : List UInt8) : List UInt8 := l ++ [10]
def rowsOf (n : Nat) (ws : List (List UInt8)) : List (List UInt8) := (List.range n).map remark ++ ws.map wordOf
def textOf (n : Nat) (ws : List (List UInt8)) : List UInt8 := (rowsOf n ws).flatMap lineOf
def wantOf (n : Nat) (ws : List (List UInt8)) : List UInt8 := (List.range ws.length).flatMap fun i => [108, 105, 110, 101, 32] ++ Lib.decDigits (n + i + 1) ++ [58, 32, 101, 114, 114, 111, 114, 32, 54, 48, 10]
def remAns (n : Nat) : Nat → List UInt8 × Int := fun k => if k < n then ([], 0) else ([], 60)

theorem linesOf_line : ∀ {a : List UInt8} (r : List UInt8), (10 : UInt8) ∉ a → linesOf (a ++ [10] ++ r) = (a ++ [10]) :: linesOf r
  | [], r, _ => by simp [linesOf]
  | b :: a, r, h => by
    have h1 : ¬ b = 10 := fun e => h (by rw [e]; exact List.mem_cons_self)
    have ih := linesOf_line (a := a) r (fun h2 => h (List.mem_cons_of_mem _ h2))
    rw [List.cons_append, List.cons_append, linesOf, if_neg h1, ih]
theorem linesOf_rows : ∀ {L : List (List UInt8)}, (∀ l ∈ L, (10 : UInt8) ∉ l) → linesOf (L.flatMap lineOf) = L.map lineOf
  | [], _ => rfl
  | l :: L, h => by
    rw [List.flatMap_cons, List.map_cons, lineOf, linesOf_line _ (h l List.mem_cons_self), linesOf_rows fun x hx => h x (List.mem_cons_of_mem _ hx)]
theorem remark_no (i : Nat) : (10 : UInt8) ∉ remark i := by
  unfold remark
  split
  · decide
  · split <;> decide
theorem word_gr {s : List UInt8} {b : UInt8} (h : b ∈ wordOf s) : gr b = true := by
  unfold wordOf at h
  rw [List.mem_append] at h
  rcases h with h | h
  · simp only [List.mem_cons, List.not_mem_nil, or_false, or_self] at h
    rw [h]; decide
  · exact (List.mem_filter.1 h).2
theorem word_no (s : List UInt8) : (10 : UInt8) ∉ wordOf s := fun h => by have := word_gr h; revert this; decide
theorem rows_no {n : Nat} {ws : List (List UInt8)} : ∀ l ∈ rowsOf n ws, (10 : UInt8) ∉ l := by
  intro l h
  unfold rowsOf at h
  rw [List.mem_append] at h
  rcases h with h | h
  · obtain ⟨i, _, rfl⟩ := List.mem_map.1 h; exact remark_no i
  · obtain ⟨s, _, rfl⟩ := List.mem_map.1 h; exact word_no s
theorem text_lines (n : Nat) (ws : List (List UInt8)) : linesOf (textOf n ws) = (rowsOf n ws).map lineOf := linesOf_rows rows_no
theorem rows_len (n : Nat) (ws : List (List UInt8)) : (rowsOf n ws).length = n + ws.length := by unfold rowsOf; simp
theorem bare_line (l : List UInt8) : bare (lineOf l) = l := by
  unfold bare lineOf Lib.trimSuffix
  rw [if_pos (by unfold Lib.hasSuffix; rw [List.isSuffixOf_iff_suffix]; exact List.suffix_append _ _)]
  simp
/-- one word without spaces -/
theorem spans_word {p : Nat → Bool} {s : ByteArray} (hp : ∀ i (h : i < s.size), (s[i]'h).toNat < 128 ∧ p (s[i]'h).toNat = false) : ∀ (f pos a : Nat), s.size ≤ pos + f → Lib.spansFromP p s f pos (some a) [] = ([], some a)
  | 0, pos, a, _ => rfl
  | f + 1, pos, a, h => by
    rw [Lib.spansFromP]
    split
    next hlt =>
      obtain ⟨h1, h2⟩ := hp pos hlt
      rw [decode_ascii s pos hlt h1]
      simp only [h2, Bool.false_eq_true, if_false]
      exact spans_word hp f _ a (by omega)
    · rfl
theorem fields_word {l : List UInt8} (h0 : l ≠ []) (hl : ∀ b ∈ l, gr b = true) : fieldsOf l = [l] := by
  have hsz : (⟨l.toArray⟩ : ByteArray).size = l.length := size_mk l
  have hpos : 0 < l.length := List.length_pos_iff.2 h0
  have hp : ∀ i (h : i < (⟨l.toArray⟩ : ByteArray).size), ((⟨l.toArray⟩ : ByteArray)[i]'h).toNat < 128 ∧ spc ((⟨l.toArray⟩ : ByteArray)[i]'h).toNat = false := by
    intro i h
    have hm : (⟨l.toArray⟩ : ByteArray)[i]'h ∈ l := by
      have e : (⟨l.toArray⟩ : ByteArray)[i]'h = l[i]'(by rw [← hsz]; exact h) := rfl
      rw [e]
      exact List.getElem_mem _
    have := hl _ hm
    unfold gr at this
    simp only [Bool.and_eq_true, decide_eq_true_eq] at this
    refine ⟨by omega, ?_⟩
    unfold spc
    rw [beq_eq_false_iff_ne]
    omega
  have key : Lib.spansFromP spc ⟨l.toArray⟩ (⟨l.toArray⟩ : ByteArray).size 0 none [] = ([], some 0) := by
    obtain ⟨f, hf⟩ : ∃ f, (⟨l.toArray⟩ : ByteArray).size = f + 1 := ⟨l.length - 1, by omega⟩
    rw [hf, Lib.spansFromP, if_pos (by omega)]
    obtain ⟨h1, h2⟩ := hp 0 (by omega)
    rw [decode_ascii _ 0 (by omega) h1]
    simp only [h2, Bool.false_eq_true, if_false]
    exact spans_word hp f _ 0 (by omega)
  unfold fieldsOf Lib.goFieldsP Lib.spansOfP
  rw [key]
  unfold Lib.closeSpans
  simp only [List.nil_append, List.map_cons, List.map_nil]
  rw [hsz]
  have e : ((⟨l.toArray⟩ : ByteArray).extract 0 l.length).data.toList = l := by
    rw [ByteArray.data_extract]
    simp
  rw [e]
theorem remark_mute (i : Nat) : mute (remark i) := by
  have h1 : fieldsOf [] = [] := by decide +kernel
  have h2 : fieldsOf [32, 32, 32] = [] := by decide +kernel
  have h3 : fieldsOf [32, 32, 35, 32, 97, 32, 114, 101, 109, 97, 114, 107, 58, 32, 102, 114, 111, 98] = [[35], [97], [114, 101, 109, 97, 114, 107, 58], [102, 114, 111, 98]] := by decide +kernel
  unfold remark
  split
  · exact .inl h1
  · split
    · exact .inl h2
    · exact .inr ⟨[], _, h3⟩
theorem word_fields (s : List UInt8) : fieldsOf (wordOf s) = [122 :: 122 :: s.filter gr] := fields_word (by simp [wordOf]) fun _ h => word_gr h
theorem rem_tells (n N : Nat) : Tells (remAns n) N := by
  refine ⟨?_, ?_, ?_⟩ <;> · intro k _; unfold remAns; split <;> simp
theorem itoa_nat (n : Nat) : Lib.itoa (n : Int) = Lib.decDigits n := by
  unfold Lib.itoa
  rw [if_neg (by omega)]
  simp
theorem rem_out (n : Nat) (ws : List (List UInt8)) : outOf (remAns n) (n + ws.length) = wantOf n ws := by
  have h60 : Lib.itoa 60 = [54, 48] := by decide +kernel
  have h1 : ∀ k, k ≤ n → outOf (remAns n) k = [] := by
    intro k
    induction k with
    | zero => intro _; rfl
    | succ k ih =>
      intro hk
      rw [outOf_succ, ih (by omega)]
      unfold remAns
      rw [if_pos (by omega)]
      rfl
  have h2 : ∀ m, outOf (remAns n) (n + m) = (List.range m).flatMap fun i => [108, 105, 110, 101, 32] ++ Lib.decDigits (n + i + 1) ++ [58, 32, 101, 114, 114, 111, 114, 32, 54, 48, 10] := by
    intro m
    induction m with
    | zero => exact h1 n (Nat.le_refl _)
    | succ m ih =>
      rw [show n + (m + 1) = n + m + 1 from rfl, outOf_succ, ih, List.range_succ, List.flatMap_append]
      congr 1
      unfold remAns
      rw [if_neg (by omega)]
      unfold told
      rw [if_neg (by decide), h60, itoa_nat]
      simp
  exact h2 _
theorem text_len (n : Nat) (ws : List (List UInt8)) (hn : n ≤ 200) (hw : ws.length ≤ 20) (hl : ∀ s ∈ ws, s.length ≤ 20) : (textOf n ws).length ≤ 10000 := by
  have key : ∀ L : List (List UInt8), (∀ l ∈ L, l.length ≤ 30) → (L.flatMap lineOf).length ≤ 31 * L.length := by
    intro L
    induction L with
    | nil => intro _; simp
    | cons l L ih =>
      intro h
      have h1 := ih fun x hx => h x (List.mem_cons_of_mem _ hx)
      have h2 := h l List.mem_cons_self
      rw [List.flatMap_cons, List.length_append, List.length_cons]
      unfold lineOf at h1 ⊢
      rw [List.length_append, List.length_singleton]
      omega
  have h := key (rowsOf n ws) (by
    intro l h
    unfold rowsOf at h
    rw [List.mem_append] at h
    rcases h with h | h
    · obtain ⟨i, _, rfl⟩ := List.mem_map.1 h
      unfold remark
      split
      · simp
      · split <;> simp
    · obtain ⟨s, hs, rfl⟩ := List.mem_map.1 h
      have h1 := hl s hs
      have h2 : (s.filter gr).length ≤ s.length := List.length_filter_le _ _
      unfold wordOf
      rw [List.length_append]
      simp only [List.length_cons, List.length_nil]
      omega)
  rw [rows_len] at h
  unfold textOf
  omega
theorem count_rows : ∀ {L : List (List UInt8)}, (∀ l ∈ L, (10 : UInt8) ∉ l) → (L.flatMap lineOf).count 10 = L.length
  | [], _ => rfl
  | l :: L, h => by
    rw [List.flatMap_cons, List.count_append, count_rows fun x hx => h x (List.mem_cons_of_mem _ hx), lineOf, List.count_append, List.count_eq_zero.2 (h l List.mem_cons_self), List.length_cons]
    simp
    omega
end Go.Proofs.YteicdpgmclbgjaaGreatDoor

/-
  Line 1.
-/
namespace Go.Proofs.YteicdpgmclbgjaaGreatDoor
open Go.RowKit Go.Deep
namespace SX
/- L1 r: 144 objects of 144 -/
def L1v : SV := (.tup [(.t [111, 107]), (j 0)])
def L1n : Nat := 154
def L1h0 (h : Heap) : Heap :=
  (152, .vec 150 1 [(q 142), (q 146), (q 150)] (.o 153 0)) ::
  (151, .vec 150 1 [(q 150)] (.c 1)) ::
  (150, .cells 154 ((j 2) :: (rp_ 4 (j 0) [.ff, .ff, (u 0), (u 0)]))) ::
  (148, .gone) ::
  (147, .vec 150 1 [(q 146)] (.c 1)) ::
  (146, .cells 154 ((j 1) :: (rp_ 4 (j 0) [.ff, .ff, (u 0), (u 0)]))) ::
  (144, .gone) ::
  (143, .vec 150 1 [(q 142)] (.c 1)) ::
  (142, .cells 154 (rp_ 5 (j 0) [.ff, .ff, (u 0), (u 0)])) ::
  (141, .cells 104 [(q 125), (q 138), (.sl true 152 1 0 3 (.o 153 0)), (.sl true 139 1 0 1 (.c 1)), .ns, .ns, (.l .i64 (-1)), (.l .i64 (-1)), .ff, .ff, (.m 140)]) ::
  (140, mpi .i64 [(1, (.fn 144 [])), (2, (.fn 145 [])), (3, (.fn 146 [])), (4, (.fn 147 [])), (5, (.fn 148 [])), (6, (.fn 149 [])), (7, (.fn 150 [])), (8, (.fn 151 [])), (9, (.fn 152 [])), (10, (.fn 153 [])), (11, (.fn 154 [])), (12, (.fn 155 [])), (13, (.fn 156 [])), (14, (.fn 157 [])), (15, (.fn 158 [])), (16, (.fn 159 []))]) ::
  (139, .vec 84 1 [.ns] (.c 1)) ::
  (138, .cells 212 [(q 52), (u 4607632778762754458)]) ::
  (136, .vec 179 1 [(q 134)] (.o 137 0)) ::
  (135, .vec 179 1 [(q 134)] (.c 1)) ::
  (134, .cells 251 ((q 133) :: (rp_ 137 (j 0) [(u 0), (j 0)]))) ::
  (133, .cells 299 [(q 126)]) ::
  (132, mpi .i64 []) ::
  (131, mpi .i64 []) ::
  (130, mpi .i64 []) ::
  (129, mpi .i64 []) ::
  (128, .cells 271 ((q 52) :: (rp_ 256 .ns [(.m 129), (.m 130), (.m 131), (.m 132), (.m 127)]))) ::
  (127, mpi .u64 []) ::
  (126, .cells 265 ((q 52) :: (q 121) :: (q 122) :: .ns :: (rp_ 4 (u 0) []))) ::
  (125, .cells 148 [(q 52), (q 121), (q 122), (q 126), (.sl true 136 1 0 1 (.o 137 0)), (q 128), (.m 123), (q 124), (j 100), .ff, (u 0), (u 0)]) ::
  (124, .cells 297 [.ns]) ::
  (123, mpi .i64 []) ::
  (122, .cells 294 [.np, (j 0)]) ::
  (121, .cells 258 [(.m 118), (.m 119), (.m 120)]) ::
  (120, .mp .non []) ::
  (119, mpi .u64 []) ::
  (118, mpi .i64 []) ::
  (117, .cells 331 [(u 0), (u 0), (u 0)]) ::
  (116, .cells 331 [(u 0), (u 0), (u 0)]) ::
  (115, .cells 331 [(u 0), (u 0), (u 0)]) ::
  (114, .cells 331 [(u 0), (u 0), (u 0)]) ::
  (113, .cells 331 [(u 0), (u 0), (u 0)]) ::
  (112, .cells 331 [(u 0), (u 0), (u 0)]) ::
  (111, .cells 331 [(u 0), (u 0), (u 0)]) ::
  (110, .cells 331 [(u 0), (u 0), (u 0)]) :: h
def L1h1 (h : Heap) : Heap :=
  (109, .cells 331 [(u 0), (u 0), (u 0)]) ::
  (108, .cells 331 [(u 0), (u 0), (u 0)]) ::
  (107, .cells 331 [(u 0), (u 0), (u 0)]) ::
  (106, .cells 331 [(u 0), (u 0), (u 0)]) ::
  (105, .cells 331 [(u 0), (u 0), (u 0)]) ::
  (104, .cells 331 [(u 0), (u 0), (u 0)]) ::
  (103, .cells 331 [(u 0), (u 0), (u 0)]) ::
  (102, .cells 331 [(u 0), (u 0), (u 0)]) ::
  (101, .cells 331 [(u 0), (u 0), (u 0)]) ::
  (100, .cells 331 [(u 0), (u 0), (u 0)]) ::
  (99, .cells 331 [(u 0), (u 0), (u 0)]) ::
  (98, .cells 331 [(u 0), (u 0), (u 0)]) ::
  (97, .cells 331 [(u 0), (u 0), (u 0)]) ::
  (96, .cells 331 [(u 0), (u 0), (u 0)]) ::
  (95, .cells 331 [(u 0), (u 0), (u 0)]) ::
  (94, .cells 331 [(u 0), (u 0), (u 0)]) ::
  (93, .cells 331 [(u 0), (u 0), (u 0)]) ::
  (92, .cells 331 [(u 0), (u 0), (u 0)]) ::
  (91, .cells 331 [(u 0), (u 0), (u 0)]) ::
  (90, .cells 331 [(u 0), (u 0), (u 0)]) ::
  (89, .cells 331 [(u 0), (u 0), (u 0)]) ::
  (88, .cells 331 [(u 0), (u 0), (u 0)]) ::
  (87, .cells 331 [(u 0), (u 0), (u 0)]) ::
  (86, .cells 331 [(u 0), (u 0), (u 0)]) ::
  (85, .cells 331 [(u 0), (u 0), (u 0)]) ::
  (84, .cells 331 [(u 0), (u 0), (u 0)]) ::
  (83, .cells 331 [(u 0), (u 0), (u 0)]) ::
  (82, .cells 331 [(u 0), (u 0), (u 0)]) ::
  (81, .cells 331 [(u 0), (u 0), (u 0)]) ::
  (80, .cells 331 [(u 0), (u 0), (u 0)]) ::
  (79, .cells 331 [(u 0), (u 0), (u 0)]) ::
  (78, .cells 331 [(u 0), (u 0), (u 0)]) ::
  (77, .cells 331 [(u 0), (u 0), (u 0)]) ::
  (76, .cells 331 [(u 0), (u 0), (u 0)]) ::
  (75, .cells 331 [(u 0), (u 0), (u 0)]) ::
  (74, .cells 331 [(u 0), (u 0), (u 0)]) ::
  (73, .cells 331 [(u 0), (u 0), (u 0)]) ::
  (72, .cells 331 [(u 0), (u 0), (u 0)]) ::
  (71, .cells 331 [(u 0), (u 0), (u 0)]) ::
  (70, .cells 331 [(u 0), (u 0), (u 0)]) :: h
def L1h2 (h : Heap) : Heap :=
  (69, .cells 331 [(u 0), (u 0), (u 0)]) ::
  (68, .cells 331 [(u 0), (u 0), (u 0)]) ::
  (67, .cells 331 [(u 0), (u 0), (u 0)]) ::
  (66, .cells 331 [(u 0), (u 0), (u 0)]) ::
  (65, .cells 331 [(u 0), (u 0), (u 0)]) ::
  (64, .cells 331 [(u 0), (u 0), (u 0)]) ::
  (63, .cells 331 [(u 0), (u 0), (u 0)]) ::
  (62, .cells 331 [(u 0), (u 0), (u 0)]) ::
  (61, .cells 331 [(u 0), (u 0), (u 0)]) ::
  (60, .cells 331 [(u 0), (u 0), (u 0)]) ::
  (59, .cells 331 [(u 0), (u 0), (u 0)]) ::
  (58, .cells 331 [(u 0), (u 0), (u 0)]) ::
  (57, .cells 331 [(u 0), (u 0), (u 0)]) ::
  (56, .cells 331 [(u 0), (u 0), (u 0)]) ::
  (55, .cells 331 [(u 0), (u 0), (u 0)]) ::
  (54, .cells 331 [(u 0), (u 0), (u 0)]) ::
  (53, .cells 345 [(j 1), .ns, .np, (j 0)]) ::
  (52, .cells 225 [(q 31), (q 32), (q 50), (q 53), (.m 51), (q 54), (q 55), (q 56), (q 57), (q 58), (q 59), (q 60), (q 61), (q 62), (q 63), (q 64), (q 65), (q 66), (q 67), (q 68), (q 69), (q 70), (q 71), (q 72), (q 73), (q 74), (q 75), (q 76), (q 77), (q 78), (q 79), (q 80), (q 81), (q 82), (q 83), (q 84), (q 85), (q 86), (q 87), (q 88), (q 89), (q 90), (q 91), (q 92), (q 93), (q 94), (q 95), (q 96), (q 97), (q 98), (q 99), (q 100), (q 101), (q 102), (q 103), (q 104), (q 105), (q 106), (q 107), (q 108), (q 109), (q 110), (q 111), (q 112), (q 113), (q 114), (q 115), (q 116), (q 117), (u 0), (u 0)]) ::
  (51, mpi .i64 []) ::
  (50, .cells 329 [.ns, (u 0), .ns, (.m 49)]) ::
  (49, mpi .u64 []) ::
  (47, .vec 392 1 [(.m 33), (.m 37), (.m 41), (.m 45)] (.o 48 0)) ::
  (46, .vec 392 1 [(.m 45)] (.c 1)) ::
  (45, mpi .u64 []) ::
  (43, .gone) ::
  (42, .vec 392 1 [(.m 41)] (.c 1)) ::
  (41, mpi .u64 []) ::
  (39, .gone) ::
  (38, .vec 392 1 [(.m 37)] (.c 1)) ::
  (37, mpi .u64 []) ::
  (35, .gone) ::
  (34, .vec 392 1 [(.m 33)] (.c 1)) ::
  (33, mpi .u64 []) ::
  (32, .cells 335 [.ns, (u 0), .ns, (u 0), .ns, (u 0), .ns, (u 0), (.sl true 47 1 0 4 (.o 48 0))]) ::
  (31, .cells 244 (rp_ 4 .ns [(u 0), .ns, (u 0), .ns, (u 0), (.m 29), (.m 30)])) ::
  (30, mpi .u64 []) ::
  (29, mpi .u64 []) ::
  (28, .cells 35 [.ns, .ns, .ns]) ::
  (27, .cells 35 [.ns, .ns, .ns]) ::
  (26, .cells 35 [.ns, .ns, .ns]) :: h
def L1h3 (h : Heap) : Heap :=
  (24, .vec 70 3 [(.t [49]), (u 0), (j 1), (.t [49, 48, 48]), (u 0), (j 100)] (.o 25 0)) ::
  (23, .vec 70 3 [(.t [49, 48, 48]), (u 0), (j 100)] (.c 1)) ::
  (22, .cells 70 [(.t [49, 48, 48]), (u 0), (j 100)]) ::
  (21, .cells 70 [(.t [49, 48, 48]), (u 0), (j 100)]) ::
  (19, .gone) ::
  (18, .vec 70 3 [(.t [49]), (u 0), (j 1)] (.c 1)) ::
  (17, .cells 70 [(.t [49]), (u 0), (j 1)]) ::
  (16, .cells 70 [(.t [49]), (u 0), (j 1)]) ::
  (15, .cells 62 [(.t [99, 99]), (.fn 23 []), .tt]) ::
  (14, .vec 9 1 [(.t [110, 101, 119]), (.t [49]), (.t [49, 48, 48])] (.c 3)) ::
  (13, .cells 38 [.ns, .ns, .ns, (q 141)]) ::
  (12, .cells 71 [(.fn 34 [])]) ::
  (11, .cells 71 [(.fn 33 [])]) ::
  (10, .cells 71 [(.fn 32 [])]) ::
  (9, .cells 71 [(.fn 31 [])]) ::
  (8, .cells 71 [(.fn 30 [])]) ::
  (7, .cells 71 [(.fn 30 [])]) ::
  (6, .cells 71 [(.fn 29 [])]) ::
  (5, .cells 71 [(.fn 28 [])]) ::
  (4, .cells 71 [(.fn 27 [])]) ::
  (3, .cells 71 [(.fn 26 [])]) ::
  (2, .cells 71 [(.fn 25 [])]) ::
  (1, mps [([112, 108, 97, 99, 101], (.agg [(.t [110]), (.fn 20 []), .tt])), ([114, 101, 102, 117, 115, 101], (.agg [(.t [116]), (.fn 21 []), .tt])), ([102, 105, 108, 108], (.agg [(.t [110]), (.fn 22 []), .tt])), ([110, 101, 119], (.agg [(.t [99, 99]), (.fn 23 []), .tt])), ([109, 97, 108, 108, 111, 99], (.agg [(.t [99, 110]), (.fn 60 [(q 2)]), .ff])), ([122, 97, 108, 108, 111, 99], (.agg [(.t [99, 110]), (.fn 60 [(q 3)]), .ff])), ([112, 97, 108, 108, 111, 99], (.agg [(.t [99, 110, 109]), (.fn 60 [(q 4)]), .ff])), ([115, 116, 97, 99, 107], (.agg [(.t [99, 110]), (.fn 60 [(q 5)]), .ff])), ([117, 110, 115, 116, 97, 99, 107], (.agg [(.t [99, 110]), (.fn 60 [(q 6)]), .ff])), ([115, 112, 101, 99, 105, 97, 108], (.agg [(.t [99, 110, 99, 110]), (.fn 60 [(q 7)]), .ff])), ([117, 110, 115, 112, 101, 99, 105, 97, 108], (.agg [(.t [99, 110, 99]), (.fn 60 [(q 8)]), .ff])), ([99, 121, 99, 108, 101], (.agg [(.t [99, 110, 42]), (.fn 60 [(q 9)]), .ff])), ([115, 119, 101, 101, 112], (.agg [(.t [99, 110]), (.fn 60 [(q 10)]), .ff])), ([115, 99, 97, 118, 101, 110, 103, 101], (.agg [(.t [99, 110]), (.fn 60 [(q 11)]), .ff])), ([102, 108, 117, 115, 104], (.agg [(.t [99]), (.fn 60 [(q 12)]), .ff])), ([98, 97, 99, 107, 103, 114, 111, 117, 110, 100], (.agg [(.t [116, 116]), (.fn 35 []), .ff])), ([103, 111], (.agg [(.t [99, 43]), (.fn 36 []), .ff])), ([102, 105, 110, 105, 115, 104], (.agg [(.t [117]), (.fn 37 []), .ff])), ([114, 101, 112, 108, 121], (.agg [(.t [99]), (.fn 38 []), .ff])), ([111, 114, 100, 101, 114], (.agg [(.t []), (.fn 39 []), .ff])), ([101, 110, 97, 98, 108, 101, 100], (.agg [(.t []), (.fn 40 []), .ff])), ([98, 108, 111, 99, 107, 115], (.agg [(.t []), (.fn 41 []), .ff])), ([108, 111, 97, 100], (.agg [(.t [110]), (.fn 42 []), .ff])), ([115, 116, 111, 114, 101], (.agg [(.t [110, 110]), (.fn 43 []), .ff])), ([111, 102], (.agg [(.t [110]), (.fn 44 []), .ff])), ([111, 119, 110, 101, 114], (.agg [(.t [110]), (.fn 45 []), .ff])), ([105, 110, 102, 111], (.agg [(.t [99]), (.fn 46 []), .ff])), ([101, 109, 105, 116, 116, 101, 100], (.agg [(.t []), (.fn 47 []), .ff])), ([115, 116, 97, 116, 115], (.agg [(.t []), (.fn 48 []), .ff])), ([115, 116, 97, 116, 101], (.agg [(.t []), (.fn 49 []), .ff]))]) ::
  (0, .big .z) :: h
def L1h : Heap := L1h0 (L1h1 (L1h2 (L1h3 [])))

set_option maxRecDepth 100000 in
theorem line1_sure : (runP Tryz.prog wt2 11 Tryz.f11 [q CMn, .m 1, .t [110, 101, 119, 32, 49, 32, 49, 48, 48]] D0h D0n tellK).sure (isRes L1v L1h L1n) = true := by kernel_rfl
end SX
end Go.Proofs.YteicdpgmclbgjaaGreatDoor
