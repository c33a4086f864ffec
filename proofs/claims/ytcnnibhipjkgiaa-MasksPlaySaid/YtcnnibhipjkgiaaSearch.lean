/-
  sort.Search over a closure with two captured values.
-/
import Derived.Test.YtcnnibhipjkgiaaMem
import Derived.Deep.LoopGhost
namespace Go.Proofs.Ytcnnibhipjkgiaa
open Go.RowKit Go.Deep

theorem half_eq (i j : Nat) : (((i + j) / 2 : Nat) : Int) = ((i : Int) + (j : Int)) / 2 := by omega

set_option maxHeartbeats 1000000 in
theorem search_any {g : FuncId} {c1 c2 : Value} {n : Nat} {p : Nat → Bool} (w : World) (eg : ∀ args w, (callFunc g args).run Try.prog w = .ok (.enter g args) w) (hn : n ≤ 1000000000)
    (hf : ∀ m i : Nat, i < n → Calls Try.prog g #[.int .i64 i, c1, c2] (w.drewN m) fun e w' => e = .returned (.bool (p i)) ∧ ∃ q, w' = w.drewN q)
    (mono : ∀ a b, a ≤ b → b < n → p a = true → p b = true) :
    Calls Try.prog 24 #[.int .i64 n, .func (.func g) #[] #[c1, c2]] w fun e w' =>
      ∃ (r q : Nat), e = .returned (.int .i64 r) ∧ w' = w.drewN q ∧ r ≤ n ∧ (∀ i, i < r → p i = false) ∧ (∀ i, r ≤ i → i < n → p i = true) := by
  replace hf := Lib.hid hf
  replace mono := Lib.hid mono
  go_enter Try.func24, Try.ntmps24
  go_wp2_with fail
  go_loopg [5, 6] n (fun k i j wr => ∃ (a b m : Nat), i = .int .i64 a ∧ j = .int .i64 b ∧ a + k = b ∧ wr = w.drewN m ∧ Hid (b ≤ n ∧ (∀ i, i < a → p i = false) ∧ (∀ i, b ≤ i → i < n → p i = true)))
  case atStart => exact ⟨0, n, 0, rfl, rfl, by simp, rfl, Lib.hid ⟨Nat.le_refl _, by simp, fun i h1 h2 => by omega⟩⟩
  case round =>
    obtain ⟨a, b, m, rfl, rfl, hk, rfl, H⟩ := hrel
    have hb := H.out.1
    by_cases hab : a < b
    · have hh : (a + b) / 2 < n := by omega
      have hc := hf.out m ((a + b) / 2) hh
      rw [half_eq] at hc
      have hc := Lib.hid hc
      have hk' := Lib.hid hk
      have hM := Lib.hid mono.out
      clear hk
      go_wp2_with (refine hc.out.mono ?_; rintro e w2 ⟨rfl, q, rfl⟩)
      all_goals rename_i hp
      · go_roundg (b - ((a + b) / 2 + 1))
        case measure => have := hk'.out; omega
        case rel =>
          have := hk'.out
          refine ⟨(a + b) / 2 + 1, b, q, by go_num, rfl, by omega, rfl, Lib.hid ⟨hb, fun i h1 => ?_, H.out.2.2⟩⟩
          cases hpi : p i with
          | false => rfl
          | true =>
            have := hM.out i ((a + b) / 2) (by omega) hh hpi
            rw [this] at hp; simp at hp
      · go_roundg ((a + b) / 2 - a)
        case measure => have := hk'.out; omega
        case rel =>
          have := hk'.out
          refine ⟨a, (a + b) / 2, q, rfl, by rw [half_eq], by omega, rfl, Lib.hid ⟨by omega, H.out.2.1, fun i h1 h2 => ?_⟩⟩
          exact hM.out _ i h1 h2 (by simpa using hp)
    · have hab' : a = b := by omega
      subst hab'
      clear hk
      go_wp2
      go_ret
      exact ⟨a, m, rfl, rfl, hb, H.out.2.1, H.out.2.2⟩
end Go.Proofs.Ytcnnibhipjkgiaa
