/-
  Part 15 of what the statement leans on: Lw46, Op46.
-/
import Derived.Test.YteicdpgmclbgjaaGreatDoorPk14
import Derived.Test.YteicdpgmclbgjaaGreatDoorRows
import Derived.ProofKit
import Derived.OpenShut
import Derived.ShutString
import Derived.ChangeOld
import Derived.Deep.Slices
import Derived.Deep.Fields
import Derived.LaidMore
import Derived.Lay
import Derived.SevenTiedAt
import Derived.Stop.Joined
import Derived.Lib.LaidTab
import Derived.Stop.LaidErr
import Derived.HandedShaped
/-
  ScriptRemarks, walked. No condition but that the table of numerals lies.
-/
namespace Go.Proofs.YteicdpgmclbgjaaGreatDoor
open Go.RowKit Go.Deep Go.Shelf

def remText (k : Nat) : List UInt8 := (List.range k).flatMap fun i => lineOf (remark i)
theorem remText_succ (k : Nat) : remText (k + 1) = remText k ++ lineOf (remark k) := by
  unfold remText
  rw [List.range_succ, List.flatMap_append]
  simp
theorem remText_len : ∀ k, (remText k).length ≤ 20 * k
  | 0 => by simp [remText]
  | k + 1 => by
    have h := remText_len k
    have h2 : (lineOf (remark k)).length ≤ 20 := by unfold lineOf remark; split <;> (try split) <;> simp
    rw [remText_succ, List.length_append]
    omega
theorem digits_len (u : Nat) (h : u < 1000000) : (Lib.decDigits u).length ≤ 21 := by
  have h4 := Lib.itoa_length_le (u : Int) (by omega) (by omega)
  rw [itoa_nat] at h4
  exact h4
theorem want_len (n : Nat) (ws : List (List UInt8)) (hn : n ≤ 1000) (hw : ws.length ≤ 1000) : (wantOf n ws).length ≤ 40 * ws.length := by
  have key : ∀ m, m ≤ 1000 → ((List.range m).flatMap fun i => [108, 105, 110, 101, 32] ++ Lib.decDigits (n + i + 1) ++ [58, 32, 101, 114, 114, 111, 114, 32, 54, 48, 10]).length ≤ 40 * m := by
    intro m
    induction m with
    | zero => intro _; simp
    | succ m ih =>
      intro hm
      have h1 := ih (by omega)
      have h2 := digits_len (n + m + 1) (by omega)
      rw [List.range_succ, List.flatMap_append, List.length_append]
      simp only [List.flatMap_cons, List.flatMap_nil, List.append_nil, List.length_append, List.length_cons, List.length_nil]
      omega
  exact key _ hw
theorem text_take {n x : Nat} {ws : List (List UInt8)} {s : List UInt8} (hs : ws[x]? = some s) : textOf n (ws.take (x + 1)) = textOf n (ws.take x) ++ (wordOf s ++ [10]) := by
  unfold textOf rowsOf
  rw [List.take_add_one, hs]
  simp [lineOf]
theorem want_take {n x : Nat} {ws : List (List UInt8)} {s : List UInt8} (hs : ws[x]? = some s) : wantOf n (ws.take (x + 1)) = wantOf n (ws.take x) ++ ([108, 105, 110, 101, 32] ++ Lib.decDigits (n + x + 1) ++ [58, 32, 101, 114, 114, 111, 114, 32, 54, 48, 10]) := by
  have hlt : x < ws.length := (List.getElem?_eq_some_iff.1 hs).1
  unfold wantOf
  rw [List.length_take, List.length_take, Nat.min_eq_left (by omega), Nat.min_eq_left (by omega), List.range_succ, List.flatMap_append]
  simp
theorem byte_at {s : List UInt8} {y : Nat} {b : UInt8} (hs : s[y]? = some b) : ∀ h, (⟨s.toArray⟩ : ByteArray)[y]'h = b := fun h => by
  obtain ⟨h1, h2⟩ := List.getElem?_eq_some_iff.1 hs
  exact h2
theorem byte_cut {s : List UInt8} {y : Nat} {b : UInt8} (hs : s[y]? = some b) : (⟨s.toArray⟩ : ByteArray).extract y (y + 1) = ⟨#[b]⟩ := by
  obtain ⟨h1, h2⟩ := List.getElem?_eq_some_iff.1 hs
  apply ByteArray.ext
  rw [ByteArray.data_extract]
  apply Array.toList_inj.1
  simp only [Array.toList_extract, List.extract_eq_take_drop, Nat.add_sub_cancel_left]
  rw [List.drop_eq_getElem_cons h1, h2]
  rfl
/-- the words, as they lie -/
def WordsAt (w : World) (a : Option Addr) (ws : List (List UInt8)) : Prop := ∀ (j : Nat) (s : List UInt8), ws[j]? = some s → ∃ ad, a = some ad ∧ w.cell? (ad.add j) = some (str s)
theorem WordsAt.fr {w w' : World} {a : Option Addr} {ws : List (List UInt8)} (h : WordsAt w a ws) (hf : Fr (fun _ => False) w w') : WordsAt w' a ws := fun j s hj => by
  obtain ⟨ad, e, hc⟩ := h j s hj
  exact ⟨ad, e, hf.cell hc⟩

set_option maxRecDepth 100000 in
set_option maxHeartbeats 4000000 in
theorem law_h (n : Int) (a : Option Addr) (ws : List (List UInt8)) (c : Nat) (_ : ws.length ≤ c) (w : World) (hL : Laid w) (hW : WordsAt w a ws) (hz : ws.length ≤ 9223372036854775807) (hzs : ∀ s ∈ ws, s.length ≤ 9223372036854775807) :
    Calls Tryz.prog 3 #[.int .i64 n, .slice a ws.length c] w fun e w' => e = .returned (.bool true) ∧ Fr (fun _ => False) w w' := by
  by_cases hn0 : n < 0
  · have hn0' : decide (n < 0) = true := by simpa using hn0
    go_enter Tryz.func3, Tryz.ntmps3
    go_wp2
    go_ret
    exact ⟨rfl, Fr.refl _ _⟩
  by_cases hn1 : n > 200
  · have hn0' : decide (n < 0) = false := by simpa using hn0
    have hn1' : decide (200 < n) = true := by simpa using hn1
    go_enter Tryz.func3, Tryz.ntmps3
    go_wp2
    go_ret
    exact ⟨rfl, Fr.refl _ _⟩
  have hn0' : decide (n < 0) = false := by simpa using hn0
  have hn1' : decide (200 < n) = false := by simpa using hn1
  by_cases hl : ((ws.length : Int) > 20)
  · have hl' : decide (20 < (ws.length : Int)) = true := by simpa using hl
    go_enter Tryz.func3, Tryz.ntmps3
    go_wp2
    go_ret
    exact ⟨rfl, Fr.refl _ _⟩
  have hl' : decide (20 < (ws.length : Int)) = false := by simpa using hl
  obtain ⟨m, rfl⟩ : ∃ m : Nat, n = m := ⟨n.toNat, by omega⟩
  have hm : m ≤ 200 := by omega
  have hlw : ws.length ≤ 20 := by omega
  have F0 := Lib.hid (Fr.refl (fun _ => False) w)
  have HW := Lib.hid hW
  have HL := Lib.hid hL
  clear hW hL
  go_enter Tryz.func3, Tryz.ntmps3
  go_wp2
  go_loopg [5, 6] m (fun k t i wr => ∃ (j : Nat) (l : List UInt8), t = str l ∧ i = .int .i64 j ∧ Hid (k = m - j ∧ j ≤ m ∧ l = remText j ∧ Fr (fun _ => False) w wr))
  case atStart => exact ⟨0, [], rfl, rfl, Lib.hid ⟨rfl, Nat.zero_le _, rfl, Fr.refl _ _⟩⟩
  case round =>
    obtain ⟨j, l, rfl, rfl, hH⟩ := hrel
    have hjm := hH.out.2.1
    by_cases hj : ((j : Int) < m)
    · have hlen : l.length ≤ 4000 := by rw [hH.out.2.2.1]; have := remText_len j; omega
      have hr0 : j % 3 = 0 ∨ j % 3 = 1 ∨ j % 3 = 2 := by omega
      rcases hr0 with hr | hr | hr
      · have hb0 : ((j : Int) % 3 == 0) = true := by rw [beq_iff_eq]; omega
        have hre : remark j = [] := by unfold remark; rw [if_pos hr]
        go_wp2
        go_roundg (m - (j + 1))
        case measure => have := hH.out.1; omega
        case rel =>
          obtain ⟨h1, h2, h3, h4⟩ := hH.out
          refine ⟨j + 1, l ++ [10], congrArg Value.string (str_append l [10]), by go_num, Lib.hid ⟨rfl, by omega, ?_, h4⟩⟩
          rw [remText_succ, h3, hre]; rfl
      · have hb0 : ((j : Int) % 3 == 0) = false := by rw [beq_eq_false_iff_ne]; omega
        have hb1 : ((j : Int) % 3 == 1) = true := by rw [beq_iff_eq]; omega
        have hre : remark j = [32, 32, 32] := by unfold remark; rw [if_neg (by omega), if_pos hr]
        go_wp2
        go_roundg (m - (j + 1))
        case measure => have := hH.out.1; omega
        case rel =>
          obtain ⟨h1, h2, h3, h4⟩ := hH.out
          refine ⟨j + 1, l ++ [32, 32, 32, 10], congrArg Value.string (str_append l [32, 32, 32, 10]), by go_num, Lib.hid ⟨rfl, by omega, ?_, h4⟩⟩
          rw [remText_succ, h3, hre]; rfl
      · have hb0 : ((j : Int) % 3 == 0) = false := by rw [beq_eq_false_iff_ne]; omega
        have hb1 : ((j : Int) % 3 == 1) = false := by rw [beq_eq_false_iff_ne]; omega
        have hre : remark j = [32, 32, 35, 32, 97, 32, 114, 101, 109, 97, 114, 107, 58, 32, 102, 114, 111, 98] := by unfold remark; rw [if_neg (by omega), if_neg (by omega)]
        go_wp2
        go_roundg (m - (j + 1))
        case measure => have := hH.out.1; omega
        case rel =>
          obtain ⟨h1, h2, h3, h4⟩ := hH.out
          refine ⟨j + 1, l ++ [32, 32, 35, 32, 97, 32, 114, 101, 109, 97, 114, 107, 58, 32, 102, 114, 111, 98, 10], congrArg Value.string (str_append l [32, 32, 35, 32, 97, 32, 114, 101, 109, 97, 114, 107, 58, 32, 102, 114, 111, 98, 10]), by go_num, Lib.hid ⟨rfl, by omega, ?_, h4⟩⟩
          rw [remText_succ, h3, hre]; rfl
    · obtain ⟨h1, h2, h3, h4⟩ := hH.out
      have hjm : j = m := by omega
      subst hjm
      have hlt : l.length ≤ 4000 := by rw [h3]; have := remText_len j; omega
      have HLT := Lib.hid h3
      have HF := Lib.hid h4
      clear h1 h2 h3 h4 hH
      go_wp2
      go_loopg [5, 7, 8] ws.length (fun k t q i wr' => ∃ (x : Nat) (l1 l2 : List UInt8), t = str l1 ∧ q = str l2 ∧ i = .int .i64 x ∧ Hid (k = ws.length - x ∧ x ≤ ws.length ∧ l1 = textOf j (ws.take x) ∧ l2 = wantOf j (ws.take x) ∧ (∀ s ∈ ws.take x, s.length ≤ 20) ∧ Fr (fun _ => False) w wr'))
      case atStart =>
        refine ⟨0, l, [], rfl, rfl, rfl, Lib.hid ⟨rfl, Nat.zero_le _, ?_, rfl, by simp, HF.out⟩⟩
        rw [HLT.out, List.take_zero]
        unfold textOf rowsOf remText
        rw [List.map_nil, List.append_nil, List.flatMap_map]
      case round =>
        obtain ⟨x, l1, l2, rfl, rfl, rfl, hH⟩ := hrel
        have hxm := hH.out.2.1
        by_cases hx : ((x : Int) < ws.length)
        · obtain ⟨s, hs⟩ : ∃ s, ws[x]? = some s := ⟨ws[x]'(by omega), List.getElem?_eq_getElem (by omega)⟩
          obtain ⟨ad, rfl, hcell⟩ := (HW.out.fr hH.out.2.2.2.2.2) x s hs
          have hzl := hzs s (List.mem_of_getElem? hs)
          by_cases hsl : ((s.length : Int) > 20)
          · have HF6 := Lib.hid hH.out.2.2.2.2.2
            go_wp2
            go_ret
            exact ⟨rfl, HF6.out⟩
          · have hsl' : s.length ≤ 20 := by omega
            have hx1 : l1.length ≤ 10000 := by
              rw [hH.out.2.2.1]
              exact text_len _ _ (by omega) (by rw [List.length_take]; omega) hH.out.2.2.2.2.1
            have hx2 : l2.length ≤ 10000 := by
              rw [hH.out.2.2.2.1]
              have := want_len j (ws.take x) (by omega) (by rw [List.length_take]; omega)
              rw [List.length_take] at this
              omega
            have HH := Lib.hid hH.out
            clear hH
            go_wp2
            go_loopg [9, 10] s.length (fun k q i wr2 => ∃ (y : Nat) (l3 : List UInt8), q = str l3 ∧ i = .int .i64 y ∧ Hid (k = s.length - y ∧ y ≤ s.length ∧ l3 = [122, 122] ++ (s.take y).filter gr ∧ Fr (fun _ => False) w wr2))
            case atStart => exact ⟨0, [122, 122], rfl, rfl, Lib.hid ⟨rfl, Nat.zero_le _, rfl, HH.out.2.2.2.2.2⟩⟩
            case round =>
              obtain ⟨y, l3, rfl, rfl, hI⟩ := hrel
              obtain ⟨ad2, e2, hcell2⟩ := (HW.out.fr hI.out.2.2.2) x s hs
              injection e2 with e2
              subst e2
              have hym := hI.out.2.1
              have hl3 : l3.length ≤ 22 := by
                rw [hI.out.2.2.1, List.length_append]
                have h1 : ((s.take y).filter gr).length ≤ (s.take y).length := List.length_filter_le _ _
                rw [List.length_take] at h1
                simp only [List.length_cons, List.length_nil]
                omega
              by_cases hy : ((y : Int) < s.length)
              · obtain ⟨b, hb⟩ : ∃ b, s[y]? = some b := ⟨s[y]'(by omega), List.getElem?_eq_getElem (by omega)⟩
                have hbe := byte_at hb
                have hbc := byte_cut hb
                have hft : (s.take (y + 1)).filter gr = (s.take y).filter gr ++ (if gr b then [b] else []) := by
                  rw [List.take_add_one, hb, List.filter_append]
                  by_cases hg : gr b = true <;> simp [hg]
                have HI := Lib.hid hI.out
                have hbt : b.toNat < 256 := b.toNat_lt
                clear hI
                by_cases h1 : 32 < b.toNat
                · have g1 : decide ((32 : Int) < b.toNat) = true := by simp; omega
                  have g1' : (32 : Int) < b.toNat := by omega
                  by_cases h2 : b.toNat < 127
                  · have g2 : decide ((b.toNat : Int) < 127) = true := by simp; omega
                    have g2' : (b.toNat : Int) < 127 := by omega
                    have hg : gr b = true := by unfold gr; simp [h1, h2]
                    rw [hg, if_pos rfl] at hft
                    go_wp2
                    go_roundg (s.length - (y + 1))
                    case measure => have := HI.out.1; omega
                    case rel =>
                      obtain ⟨q1, q2, q3, q4⟩ := HI.out
                      refine ⟨y + 1, l3 ++ [b], ?_, by go_num, Lib.hid ⟨rfl, by omega, ?_, q4⟩⟩
                      · first | exact congrArg Value.string (str_append l3 [b])
                      · rw [hft, q3, List.append_assoc]
                  · have g2 : decide ((b.toNat : Int) < 127) = false := by simp; omega
                    have g2' : ¬ (b.toNat : Int) < 127 := by omega
                    have hg : gr b = false := by unfold gr; simp [h2]
                    rw [hg, if_neg (by decide), List.append_nil] at hft
                    go_wp2
                    go_roundg (s.length - (y + 1))
                    case measure => have := HI.out.1; omega
                    case rel =>
                      obtain ⟨q1, q2, q3, q4⟩ := HI.out
                      exact ⟨y + 1, l3, rfl, by go_num, Lib.hid ⟨rfl, by omega, by rw [hft, q3], q4⟩⟩
                · have g1 : decide ((32 : Int) < b.toNat) = false := by simp; omega
                  have g1' : ¬ (32 : Int) < b.toNat := by omega
                  have hg : gr b = false := by unfold gr; simp [h1]
                  rw [hg, if_neg (by decide), List.append_nil] at hft
                  go_wp2
                  go_roundg (s.length - (y + 1))
                  case measure => have := HI.out.1; omega
                  case rel =>
                    obtain ⟨q1, q2, q3, q4⟩ := HI.out
                    exact ⟨y + 1, l3, rfl, by go_num, Lib.hid ⟨rfl, by omega, by rw [hft, q3], q4⟩⟩
              · have hye : y = s.length := by omega
                subst hye
                obtain ⟨dg, hdg⟩ : ∃ dg, dg = Lib.decDigits (j + x + 1) := ⟨_, rfl⟩
                have hdl : dg.length ≤ 21 := by rw [hdg]; exact digits_len _ (by omega)
                have HDg : Hid (∀ U, Calls Tryz.prog 4 #[.int .u64 ((j : Int) + x + 1)] U fun e w' => e = .returned (str dg) ∧ Fr (fun _ => False) U w') := Lib.hid fun U => by
                  have h := digits_h (j + x + 1) (by omega) (by omega) U
                  rw [hdg]
                  exact h
                have HI := Lib.hid hI.out
                replace hdg := Lib.hid hdg
                clear hI
                go_wp2_with (go_at_call 4; refine (HDg.out _).mono ?_; rintro e w5 ⟨rfl, hf5⟩; replace hf5 := Lib.hid hf5)
                go_roundg (ws.length - (x + 1))
                case measure => have := HH.out.1; omega
                case rel =>
                  obtain ⟨q1, q2, q3, q4⟩ := HI.out
                  obtain ⟨r1, r2, r3, r4, r5, r6⟩ := HH.out
                  rw [List.take_length] at q3
                  refine ⟨x + 1, l1 ++ (l3 ++ [10]), l2 ++ ([108, 105, 110, 101, 32] ++ dg ++ [58, 32, 101, 114, 114, 111, 114, 32, 54, 48, 10]), ?_, ?_, by go_num, Lib.hid ⟨rfl, by omega, ?_, ?_, ?_, q4.trans hf5.out (fun _ _ x => x)⟩⟩
                  · exact congrArg Value.string (by rw [show (⟨#[10]⟩ : ByteArray) = ⟨[10].toArray⟩ from rfl, str_append, str_append])
                  · exact congrArg Value.string (by rw [show (⟨#[108, 105, 110, 101, 32]⟩ : ByteArray) = ⟨[108, 105, 110, 101, 32].toArray⟩ from rfl, show (⟨#[58, 32, 101, 114, 114, 111, 114, 32, 54, 48, 10]⟩ : ByteArray) = ⟨[58, 32, 101, 114, 114, 111, 114, 32, 54, 48, 10].toArray⟩ from rfl, str_append, str_append, str_append])
                  · rw [text_take hs, r3, q3]; rfl
                  · rw [want_take hs, r4, hdg.out]
                  · intro u hu
                    rw [List.take_add_one, hs, List.mem_append] at hu
                    rcases hu with hu | hu
                    · exact r5 u hu
                    · simp only [Option.toList_some, List.mem_singleton] at hu
                      rw [hu]; exact hsl'
        · have hxe : x = ws.length := by omega
          subst hxe
          obtain ⟨r1, r2, r3, r4, r5, r6⟩ := hH.out
          rw [List.take_length] at r3 r4 r5
          have hLr := HL.out.fr r6
          have HR : Hid (Calls Tryz.prog 5 #[str l1] _ fun e w' => e = .returned (str l2) ∧ Fr (fun _ => False) _ w') := Lib.hid (by
            rw [r3, r4]
            exact rem_run j ws (by omega) hlw r5 _ hLr)
          have HA : Hid (∀ U, Fr (fun _ => False) _ U → Calls Tryz.prog 6 #[] U fun e w' => e = .returned (.bool true) ∧ Fr (fun _ => False) U w') := Lib.hid fun U hU => awake_h U (hLr.fr hU)
          have HF6 := Lib.hid r6
          clear r1 r2 r3 r4 r5 r6 hH hLr
          go_wp2_with (first
            | (go_at_call 5; refine HR.out.mono ?_; rintro e w5 ⟨rfl, hf5⟩; replace hf5 := Lib.hid hf5)
            | (go_at_call 6; refine (HA.out _ hf5.out).mono ?_; rintro e w6 ⟨rfl, hf6⟩; replace hf6 := Lib.hid hf6))
          go_ret
          exact ⟨rfl, (HF6.out.trans hf5.out (fun _ _ x => x)).trans hf6.out (fun _ _ x => x)⟩
end Go.Proofs.YteicdpgmclbgjaaGreatDoor

/-
  Arguments that came in: a slice of strings; what the listed variables hold. No condition.
-/
namespace Go.Proofs.YteicdpgmclbgjaaGreatDoor
open Go.ChangeShapes Go.WideShapes Go.ChangeAt Go.RowKit Go.Deep

theorem own46 : ownKnob Tryz.prog.godebug = none := by kernel_rfl
theorem laidOut46 : laidOutB Tryz.prog = true := by kernel_rfl
theorem one46 : Tryz.prog.cellsOf 9 = 1 := by kernel_rfl
/-- a slice of strings -/
theorem open_words {H : Type} {enc : TypeId × Value → H} {w : World} {base : Nat} {held : Bool} {fuel : Nat} {a0 : Option Addr} {len cap : Nat} {x : DataW H × List MemPlace}
    (h : DataW.trod enc Tryz.prog w base (fun _ => true) held fuel 22 (Value.cells (.slice a0 len cap)).toList = some x) :
    len ≤ cap ∧ cap ≤ maxLen ∧ ∃ ws : List (List UInt8), ws.length = len ∧ (∀ s ∈ ws, s.length ≤ maxLen) ∧ WordsAt w a0 ws := by
  have hi : len ≤ cap ∧ cap ≤ maxLen ∧ ∀ i, i < len → ∃ a, a0 = some a ∧ ∃ s : List UInt8, s.length ≤ maxLen ∧ w.cell? (a.add i) = some (str s) := by
    rcases open_slice Tryz.underlying22 h with ⟨hcs, _⟩ | ⟨a, l, c, m, n, D, Pl, hcs, _, hl, hm, hmm, _, hi⟩
    · simp [Value.cells] at hcs
      obtain ⟨rfl, rfl, rfl⟩ := hcs
      exact ⟨Nat.le_refl _, by simp [maxLen], fun i hi => absurd hi (Nat.not_lt_zero i)⟩
    · simp [Value.cells] at hcs
      obtain ⟨rfl, rfl, rfl⟩ := hcs
      simp only [if_true] at hmm
      refine ⟨hl, hm, fun i hil => ⟨a, rfl, ?_⟩⟩
      obtain ⟨cs, hc, ht'⟩ := hi i (by omega)
      rw [one46, Nat.mul_one] at hc
      obtain ⟨s, rfl, _, hs⟩ := DataW.trod_string Tryz.underlying9 ht'
      refine ⟨s.data.toList, by rw [Array.length_toList]; exact hs, ?_⟩
      obtain ⟨_, hcl, hat⟩ := World.cells?_some hc
      have h0 := hat 0 (by omega)
      rw [Go.Deep.add_add] at h0
      first
        | exact h0
        | simpa using h0
  refine ⟨hi.1, hi.2.1, ?_⟩
  have hup : ∀ n, n ≤ len → ∃ ws : List (List UInt8), ws.length = n ∧ (∀ s ∈ ws, s.length ≤ maxLen) ∧ WordsAt w a0 ws := by
    intro n
    induction n with
    | zero => intro _; exact ⟨[], rfl, by simp, fun j s hj => by cases hj⟩
    | succ n ih =>
      intro hn
      obtain ⟨ws, e, hw, hc⟩ := ih (by omega)
      obtain ⟨a, ha, s, hs, hcs⟩ := hi.2.2 n (by omega)
      refine ⟨ws ++ [s], by simp [e], ?_, ?_⟩
      · intro z hz
        rcases List.mem_append.1 hz with hz | hz
        · exact hw z hz
        · rw [List.mem_singleton.1 hz]; exact hs
      · intro j u hu
        rcases Nat.lt_or_ge j n with hj | hj
        · rw [List.getElem?_append_left (by omega)] at hu
          exact hc j u hu
        · rw [List.getElem?_append_right (by omega), e] at hu
          have hj0 : j - n = 0 := by
            rcases Nat.eq_zero_or_pos (j - n) with h1 | h1
            · exact h1
            · rw [List.getElem?_eq_none (by simp; omega)] at hu; cases hu
          rw [hj0] at hu
          have hjn : j = n := by omega
          cases hu
          exact ⟨a, ha, by rw [hjn]; exact hcs⟩
  exact hup len (Nat.le_refl _)

/-- what is listed -/
noncomputable def laid46 : List (String × DataW Unit) := Rows.scriptRemarksRow.laid
set_option maxRecDepth 100000 in
theorem laid_of {W : World} (h : laidMet Tryz.prog laid46 W) : Laid W := by
  have h2 := h.tail.tail
  exact ⟨Lib.tabIs_of_head (k := .u64) (zs := Lib.pow10Tab) (g := 1) (t := 284) (e := 24) (n := 20) (by kernel_rfl) (by kernel_rfl) Tryz.underlying284 Tryz.underlying24 (by kernel_rfl) (by kernel_rfl) h2⟩

theorem returnsInHanded_laid_shaped {H : Type} {enc : TypeId × Value → H} {a : Assume} {C : Checked} {os : Os} {f : FuncId} {fn : Func} {s : ChangeSpec} {conds : List PathCond} {apart fresh handsOn again : Bool} {X : World → Array Value → Prop}
    (hX : ∀ (w w' : World) (args : Array Value), w.heap = w'.heap → X w args → X w' args)
    (own : ownKnob C.prog.godebug = none) (started : os.Started) (noInit : C.prog.inits.idxOf? f = none) (hfn : C.prog.funcs[f]? = some fn)
    (witness : ∃ (w : World) (tape : Tape) (i : Input), w.os = os ∧ (w.forCall tape i).Shaped C.prog ∧ i.vars = [] ∧ Input.okWide C.prog (w.forCall tape i) .any w.heap.size f i ∧
      ((s.pre enc C.prog fn conds apart (w.forCall tape i).memory i.args ∧ X (w.forCall tape i).memory i.args) ∧ sizedMet enc C.prog fn (OpenSpec.ofChange s) apart (w.forCall tape i).memory i.args) ∧ a.holds C.prog (lone (Frame.enter C.prog f i.args .normal) [] (w.forCall tape i)))
    (contract : ∀ (W : World) (base : Nat) (args : Array Value) (ds gs : List (DataW H)) (before : List MemPlace),
      (∀ (j : Nat) t v, fn.params[j]? = some t → args[j]? = some v → Value.okWide C.prog W .any base t v) →
      DataW.Whole enc C.prog fn.params.toList s.vars apart W args.toList ds gs before →
      X W args → W.ShapedOpen C.prog →
      Calls C.prog f args W fun e W' => ∃ v, e = .returned v ∧ s.post enc C.prog fn apart fresh handsOn again W args v W') :
    ReturnsInHanded a C os f .any (fun w args => (s.pre enc C.prog fn conds apart w args ∧ X w args) ∧ sizedMet enc C.prog fn (OpenSpec.ofChange s) apart w args) (s.post enc C.prog fn apart fresh handsOn again) := by
  refine returnsInHanded_of_calls own started noInit witness ?_
  intro w tape i _ hsh _ hok hpre hholds
  obtain ⟨_, _, _, fn', hfn', _, _, _, _, hval⟩ := hok
  have e : fn' = fn := Option.some.inj (hfn'.symm.trans hfn)
  subst e
  obtain ⟨⟨⟨ds, gs, before, hw, hc⟩, hx⟩, hz⟩ := hpre
  have hw' := DataW.Whole.of_heap (w' := w.forCall tape i) (by rfl) hw
  refine (contract (w.forCall tape i) w.heap.size i.args ds gs before hval hw' (hX _ _ _ (by rfl) hx) hsh).mono fun e W' ⟨v, he, hp⟩ => ?_
  subst he
  exact ChangeSpec.post_blind hp
end Go.Proofs.YteicdpgmclbgjaaGreatDoor
