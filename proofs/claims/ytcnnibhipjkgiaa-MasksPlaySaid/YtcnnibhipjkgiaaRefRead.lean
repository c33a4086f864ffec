/-
  The reference: Read.
-/
import Derived.Test.YtcnnibhipjkgiaaRefWord
namespace Go.Proofs.Ytcnnibhipjkgiaa.Rf
open Go.RowKit Go.Deep

/-- what Read answers: a row of its own -/
def Told (w : World) (p : Nat → Bool) (fr n : Nat) (e : Ending) (w' : World) : Prop :=
  ∃ a c, e = .returned (.tuple #[.slice a n c, .int .i64 0]) ∧ Hid (w'.ownsRow w.heap.size 4 1 (.slice a n c) n (((List.range n).map (fun j => p (fr + j))).map .bool)) ∧ Hid (Fr (fun _ => False) w w')

def rowTo (p : Nat → Bool) (fr q : Nat) : List Value := ((List.range q).map (fun j => p (fr + j))).map .bool
theorem rowTo_len (p : Nat → Bool) (fr q : Nat) : (rowTo p fr q).length = q := by simp [rowTo]
theorem rowTo_succ (p : Nat → Bool) (fr q : Nat) : rowTo p fr (q + 1) = rowTo p fr q ++ [.bool (p (fr + q))] := by simp [rowTo, List.range_succ]

set_option maxRecDepth 20000 in
set_option maxHeartbeats 2000000 in
theorem read_no {r : Nat} (w : World) (addr bytes : Nat) (ha : addr ≤ 18446744073709551615) (hb : bytes ≤ 18446744073709551615) (cd : Int) (hcd : (¬ Right addr bytes ∧ cd = 1) ∨ (Right addr bytes ∧ 1048576 < bytes ∧ cd = 2)) :
    Calls Try.prog 22 #[.pointer (some ⟨r, 0, none⟩), .int .u64 addr, .int .u64 bytes] w fun e w' => e = .returned (.tuple #[.slice none 0 0, .int .i64 cd]) ∧ w = w' := by
  have hr := Lib.hid (right_any w addr bytes ha hb)
  rcases hcd with ⟨hR, rfl⟩ | ⟨hR, hlt, rfl⟩
  · rw [decide_eq_false hR] at hr
    clear hR
    go_enter Try.func22, Try.ntmps22
    go_wp2_with (first | (go_at_call 26; refine hr.out.mono ?_; rintro e w1 ⟨rfl, rfl⟩))
    go_ret2
    exact ⟨rfl, rfl⟩
  · rw [decide_eq_true hR] at hr
    clear hR
    go_enter Try.func22, Try.ntmps22
    go_wp2_with (first | (go_at_call 26; refine hr.out.mono ?_; rintro e w1 ⟨rfl, rfl⟩))
    go_ret2
    exact ⟨rfl, rfl⟩

set_option maxRecDepth 20000 in
set_option maxHeartbeats 4000000 in
theorem read_any {F : Nat → Prop} {r : Nat} {L : List WV} (w : World) (h : Is w r L F) (addr bytes : Nat) (ha : addr ≤ 18446744073709551615) (hb : bytes ≤ 1048576) (hR : Right addr bytes) :
    Calls Try.prog 22 #[.pointer (some ⟨r, 0, none⟩), .int .u64 addr, .int .u64 bytes] w (Told w (rsem (L.map (·.1))) (addr / 8) (bytes / 8)) := by
  have hr := Lib.hid (right_any w addr bytes ha (by omega))
  rw [decide_eq_true hR] at hr
  obtain ⟨r1, r2, r3, r4⟩ := right_words hR
  obtain ⟨fr, hfr⟩ : ∃ fr, fr = addr / 8 := ⟨_, rfl⟩
  obtain ⟨n, hn⟩ : ∃ n, n = bytes / 8 := ⟨_, rfl⟩
  have ha8 : addr = 8 * fr := by have := hR.1; omega
  have hb8 : bytes = 8 * n := by have := hR.2.1; omega
  have hfn : fr + n ≤ 35184372088832 := by omega
  have hn2 : n ≤ 131072 := by omega
  rw [← hfr, ← hn]
  obtain ⟨i0, hi, hz0, hz1, hz2⟩ := info_parts Try.infoBool
  have WC := Lib.hid (fun (W : World) (hW : Fr (fun _ => False) w W) (z : Nat) (hz : z ≤ 35184372088832) => word_any W (h.quiet hW) z hz)
  have HE := Lib.hid (And.intro ha8 hb8)
  have H := Lib.hid h
  clear hR h hfr hn ha8 hb8 r1 r2
  go_enter Try.func22, Try.ntmps22
  go_wp2_with (first | (go_at_call 26; refine hr.out.mono ?_; rintro e w1 ⟨rfl, rfl⟩))
  go_loopg [8, 9] n (fun kk v i wr => ∃ q Q : Nat, i = .int .u64 (Q : Nat) ∧ wr.ownsRow w.heap.size 4 1 v q (rowTo (rsem (L.map (·.1))) fr q) ∧ Hid (Q = 8 * q ∧ q ≤ n ∧ Fr (fun _ => False) w wr ∧ n - q ≤ kk))
  case atStart => exact ⟨0, 0, rfl, ⟨by simp [rowTo], .inl ⟨rfl, rfl⟩⟩, Lib.hid ⟨rfl, Nat.zero_le _, Fr.refl _ _, Nat.le_refl _⟩⟩
  case round =>
    obtain ⟨q, Q, rfl, hown, HQ⟩ := hrel
    have hq1 := HQ.out.2.1
    have hQ2 : Q ≤ 1048576 := by have := HQ.out.1; omega
    have HO := Lib.hid hown
    clear hown
    by_cases hlt : q < n
    · have g1 : Q < bytes := by have := HE.out; have := HQ.out.1; omega
      obtain ⟨A, hA⟩ : ∃ A, A = 8 * (fr + q) := ⟨_, rfl⟩
      have e1 : ((addr : Nat) : Int) + ((Q : Nat) : Int) = ((A : Nat) : Int) := by have := HE.out; have := HQ.out.1; omega
      have CW := Lib.hid (WC.out wr HQ.out.2.2.1 (fr + q) (by omega))
      rw [← hA] at CW
      clear hA
      have m1 : q + 1 ≤ maxLen := by simp only [maxLen]; omega
      have m2 : (q + 1) * 1 ≤ 140737488355328 := by omega
      have M := Lib.hid (And.intro m1 m2)
      have AP := Lib.hid (fun (w2 : World) (hf2 : Fr (fun _ => False) wr w2) => (And.intro ((ownsRow_fr HO.out hf2 (fun _ x => x.elim)).alloc (.cells #[.bool (rsem (L.map (·.1)) (fr + q))] 4)) (And.intro ((HQ.out.2.2.1.trans hf2 (fun _ _ x => x)).alloc (.cells #[.bool (rsem (L.map (·.1)) (fr + q))] 4))
        (Rd.new (w := w2.alloc (.cells #[.bool (rsem (L.map (·.1)) (fr + q))] 4)) (g := w2.heap.size) (vs := [.bool (rsem (L.map (·.1)) (fr + q))]) (t := 4) (by rw [heap_alloc, if_pos rfl]) 1 1 rfl))))
      have O1 : ∀ u ∈ [Value.bool (rsem (L.map (·.1)) (fr + q))], u.oneCell' = true := fun u hu => by obtain rfl := List.mem_singleton.1 hu; rfl
      have O1 := Lib.hid O1
      clear m1 m2
      go_wp2_with (first
        | (go_at_call 27; refine CW.out.mono ?_; rintro e w2 ⟨rfl, hf2⟩)
        | (at_builtin; refine wpList_append_rd rfl _ _ 22 rfl 4 i0 _ 1 1 Try.underlying22 hi hz0 hz1 hz2 rfl (by decide) _ _ _ rfl (AP.out w2 hf2.out).1 (AP.out w2 hf2.out).2.1 _ _ _ rfl (AP.out w2 hf2.out).2.2 O1.out M.out.1 M.out.2 ?_))
      intro v3 w3 ho3 hf3 _
      rw [← rowTo_succ] at ho3
      have HO3 := Lib.hid ho3
      have HF3 := Lib.hid hf3
      clear ho3 hf3
      go_wp2_with fail
      go_roundg (n - (q + 1))
      case measure => have := HQ.out.2.2.2; omega
      case rel => exact ⟨q + 1, Q + 8, by go_num, HO3.out, Lib.hid ⟨by have := HQ.out.1; omega, hlt, HF3.out, Nat.le_refl _⟩⟩
    · have hqe : q = n := by omega
      subst hqe
      have g1 : ¬ Q < bytes := by have := HE.out; have := HQ.out.1; omega
      obtain ⟨a, c, hv⟩ := ownsRow_form HO.out
      subst hv
      go_wp2_with fail
      go_ret2
      exact ⟨a, c, rfl, Lib.hid HO.out, Lib.hid HQ.out.2.2.1⟩
end Go.Proofs.Ytcnnibhipjkgiaa.Rf
