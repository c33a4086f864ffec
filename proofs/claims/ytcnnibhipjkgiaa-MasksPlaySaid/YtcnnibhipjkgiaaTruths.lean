/-
  truths: two rows of truths are compared.
-/
import Derived.Test.YtcnnibhipjkgiaaGreat
namespace Go.Proofs.Ytcnnibhipjkgiaa
open Go.RowKit Go.Deep

theorem bit_ext {xs bs : List Bool} (hl : xs.length = bs.length) (h : ∀ i, i < xs.length → bit xs i = bit bs i) : xs = bs := by
  refine List.ext_getElem hl (fun i h1 h2 => ?_)
  have := h i h1
  rw [bit_in (List.getElem?_eq_getElem h1), bit_in (List.getElem?_eq_getElem h2)] at this
  exact this

/-- a call that has only read -/
def Still (w w' : World) : Prop := ∃ n, w' = w.drewN n
theorem Still.fr {w w' : World} (h : Still w w') : Fr (fun _ => False) w w' := by obtain ⟨n, rfl⟩ := h; exact Fr.of_drewN _ _ _

set_option maxHeartbeats 1000000 in
theorem truths_any (w : World) (xs bs : List Bool) (a b : Option Addr) (c d : Nat) (ha : Rd w 1 (.slice a xs.length c) xs.length (xs.map .bool)) (hb : Rd w 1 (.slice b bs.length d) bs.length (bs.map .bool)) (hm : xs.length ≤ 9223372036854775807) (hm2 : bs.length ≤ 9223372036854775807) :
    Calls Try.prog 12 #[.slice a xs.length c, .slice b bs.length d] w fun e w' => e = .returned (.bool (decide (xs = bs))) ∧ Hid (Still w w') := by
  by_cases hl : xs.length = bs.length
  · have HA := Lib.hid ha
    have HB := Lib.hid hb
    have HL := Lib.hid hl
    rw [← hl]
    clear ha hb hl hm2
    go_enter Try.func12, Try.ntmps12
    go_wp2
    go_loopg [5] xs.length (fun kk i wr => ∃ q : Nat, i = .int .i64 q ∧ Hid (q ≤ xs.length ∧ (∀ i, i < q → bit xs i = bit bs i) ∧ Still w wr ∧ xs.length - q ≤ kk))
    case atStart => exact ⟨0, rfl, Lib.hid ⟨Nat.zero_le _, fun i h => by omega, ⟨0, rfl⟩, Nat.le_refl _⟩⟩
    case round =>
      obtain ⟨q, rfl, HQ⟩ := hrel
      obtain ⟨n, hn⟩ := HQ.out.2.2.1
      subst hn
      by_cases hlt : q < xs.length
      · obtain ⟨ab, ao, rfl, hca⟩ := rd_at HA.out (bools_get hlt)
        obtain ⟨bb, bo, rfl, hcb⟩ := rd_at HB.out (bools_get (by rw [← HL.out]; exact hlt))
        by_cases hne : bit xs q = bit bs q
        · have hv : (bit xs q == bit bs q) = true := by rw [hne]; simp
          have HN := Lib.hid hne
          clear hne
          go_wp2
          go_quiet (fail)
          go_wp2
          go_roundg (xs.length - (q + 1))
          case measure => have := HQ.out.2.2.2; omega
          case rel => exact ⟨q + 1, by go_num, Lib.hid ⟨hlt, fun i hi => (by
            by_cases e : i = q
            · subst e; exact HN.out
            · exact HQ.out.2.1 i (by omega)), ⟨_, rfl⟩, Nat.le_refl _⟩⟩
        · have hv : (bit xs q == bit bs q) = false := by simpa using hne
          have HN := Lib.hid hne
          clear hne
          go_wp2
          go_quiet (fail)
          go_wp2
          go_ret
          exact ⟨by rw [decide_eq_false (fun e => HN.out (by rw [e]))]; rfl, Lib.hid ⟨_, World.drewN_drewN _ _ _⟩⟩
      · go_wp2
        go_ret
        exact ⟨by rw [decide_eq_true (bit_ext HL.out (fun i hi => HQ.out.2.1 i (by omega)))]; rfl, Lib.hid ⟨_, rfl⟩⟩
  · have hv : (((xs.length : Nat) : Int) != ((bs.length : Nat) : Int)) = true := by rw [bne_iff_ne]; omega
    have HL := Lib.hid hl
    clear ha hb hl
    go_enter Try.func12, Try.ntmps12
    go_wp2
    go_ret
    exact ⟨by rw [decide_eq_false (fun e => HL.out (by rw [e]))]; rfl, Lib.hid ⟨0, rfl⟩⟩
end Go.Proofs.Ytcnnibhipjkgiaa
