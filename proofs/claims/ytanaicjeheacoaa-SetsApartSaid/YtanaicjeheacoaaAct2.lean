/-
  'act': the walks.
-/
import Derived.Test.YtanaicjeheacoaaAct
namespace Go.Proofs.Ytanaicjeheacoaa
open Go.RowKit Go.Deep

set_option maxHeartbeats 4000000 in
theorem act_put {s r : Nat} {L : List It} {F : Nat → Prop} (iv cls ba : Int) (np fu sw : Bool) (w : World) (h : Duo w s r L F) (hn : L.length ≤ 1000000) :
    Calls Try.prog 13 #[.pointer (some ⟨s, 0, none⟩), .pointer (some ⟨r, 0, none⟩), .agg #[.int .i64 1, .int .i64 iv, .int .i64 cls, .int .u64 ba, .bool np, .bool fu, .bool sw]] w (ActPost s r L F w) := by
  obtain ⟨v, P, c1, c2⟩ := two_put h hn iv cls ba np fu sw
  have hb0 := box_new w 1 iv cls ba np fu sw
  have c1' := c1 (w.alloc (.cells #[.int .i64 1, .int .i64 iv, .int .i64 cls, .int .u64 ba, .bool np, .bool fu, .bool sw] 40)).drew ((Fr.refl _ w).alloc _).drew (hb0.fr (Fr.refl (fun _ => False) _).drew (fun x => x))
  have c2' := Lib.hid c2
  clear c1 c2 h hn hb0
  have heq := eql_errno v
  go_enter Try.func13, Try.ntmps13
  go_wp2_with fail
  go_region_held3 (fun w' => w'.cell? ⟨w.heap.size, 1, none⟩ = some (.int .i64 iv) ∧ w'.cell? ⟨w.heap.size, 2, none⟩ = some (.int .i64 cls) ∧ w'.cell? ⟨w.heap.size, 3, none⟩ = some (.int .u64 ba) ∧ w'.cell? ⟨w.heap.size, 4, none⟩ = some (.bool np) ∧ w'.cell? ⟨w.heap.size, 5, none⟩ = some (.bool fu) ∧ w'.cell? ⟨w.heap.size, 6, none⟩ = some (.bool sw)) (go_keep) ((first | (go_at_call 8; refine c1'.out.mono ?_; rintro e w1 ⟨rfl, hb1, hp1⟩; obtain ⟨b1, b2, b3, b4, b5, b6⟩ := id hb1) | (go_at_call 18; refine (c2'.out _ hp1.out hb1).out.mono ?_; rintro e w2 ⟨rfl, hb2, hq2⟩; obtain ⟨d1, d2, d3, d4, d5, d6⟩ := id hb2)))
  go_wp2
  go_ret
  exact hq2.out

set_option maxHeartbeats 4000000 in
theorem act_take {s r : Nat} {L : List It} {F : Nat → Prop} (iv cls ba : Int) (np fu sw : Bool) (w : World) (h : Duo w s r L F) (hn : L.length ≤ 1000000) :
    Calls Try.prog 13 #[.pointer (some ⟨s, 0, none⟩), .pointer (some ⟨r, 0, none⟩), .agg #[.int .i64 2, .int .i64 iv, .int .i64 cls, .int .u64 ba, .bool np, .bool fu, .bool sw]] w (ActPost s r L F w) := by
  obtain ⟨v, ok, P, c1, c2⟩ := two_take h hn iv cls ba np fu sw
  have hb0 := box_new w 2 iv cls ba np fu sw
  have c1' := c1 (w.alloc (.cells #[.int .i64 2, .int .i64 iv, .int .i64 cls, .int .u64 ba, .bool np, .bool fu, .bool sw] 40)) ((Fr.refl _ w).alloc _) hb0
  have c2' := Lib.hid c2
  clear c1 c2 h hn hb0
  have e1 : (v == v) = true := by simp
  have e2 : (ok == ok) = true := by simp
  go_enter Try.func13, Try.ntmps13
  go_wp2_with (first | (go_at_call 9; refine c1'.out.mono ?_; rintro e w1 ⟨rfl, hb1, hp1⟩; obtain ⟨b1, b2, b3, b4, b5, b6⟩ := id hb1) | (go_at_call 19; refine (c2'.out _ hp1.out hb1).out.mono ?_; rintro e w2 ⟨rfl, hb2, hq2⟩; obtain ⟨d1, d2, d3, d4, d5, d6⟩ := id hb2))
  go_ret
  exact hq2.out

set_option maxHeartbeats 4000000 in
theorem act_remove {s r : Nat} {L : List It} {F : Nat → Prop} (iv cls ba : Int) (np fu sw : Bool) (w : World) (h : Duo w s r L F) (hn : L.length ≤ 1000000) :
    Calls Try.prog 13 #[.pointer (some ⟨s, 0, none⟩), .pointer (some ⟨r, 0, none⟩), .agg #[.int .i64 3, .int .i64 iv, .int .i64 cls, .int .u64 ba, .bool np, .bool fu, .bool sw]] w (ActPost s r L F w) := by
  obtain ⟨v, P, c1, c2⟩ := two_remove h hn iv cls ba np fu sw
  have hb0 := box_new w 3 iv cls ba np fu sw
  have c1' := c1 (w.alloc (.cells #[.int .i64 3, .int .i64 iv, .int .i64 cls, .int .u64 ba, .bool np, .bool fu, .bool sw] 40)).drew ((Fr.refl _ w).alloc _).drew (hb0.fr (Fr.refl (fun _ => False) _).drew (fun x => x))
  have c2' := Lib.hid c2
  clear c1 c2 h hn hb0
  have heq := eql_errno v
  go_enter Try.func13, Try.ntmps13
  go_wp2_with fail
  go_region_held3 (fun w' => w'.cell? ⟨w.heap.size, 1, none⟩ = some (.int .i64 iv)) (go_keep) ((first | (go_at_call 11; refine c1'.out.mono ?_; rintro e w1 ⟨rfl, hb1, hp1⟩; obtain ⟨b1, b2, b3, b4, b5, b6⟩ := id hb1) | (go_at_call 20; refine (c2'.out _ hp1.out hb1).out.mono ?_; rintro e w2 ⟨rfl, hb2, hq2⟩; obtain ⟨d1, d2, d3, d4, d5, d6⟩ := id hb2)))
  go_wp2
  go_ret
  exact hq2.out

set_option maxHeartbeats 4000000 in
theorem act_least {s r : Nat} {L : List It} {F : Nat → Prop} (iv cls ba : Int) (np fu sw : Bool) (w : World) (h : Duo w s r L F) (hn : L.length ≤ 1000000) :
    Calls Try.prog 13 #[.pointer (some ⟨s, 0, none⟩), .pointer (some ⟨r, 0, none⟩), .agg #[.int .i64 4, .int .i64 iv, .int .i64 cls, .int .u64 ba, .bool np, .bool fu, .bool sw]] w (ActPost s r L F w) := by
  obtain ⟨v, ok, P, c1, c2⟩ := two_least h hn iv cls ba np fu sw
  have hb0 := box_new w 4 iv cls ba np fu sw
  have c1' := c1 (w.alloc (.cells #[.int .i64 4, .int .i64 iv, .int .i64 cls, .int .u64 ba, .bool np, .bool fu, .bool sw] 40)) ((Fr.refl _ w).alloc _) hb0
  have c2' := Lib.hid c2
  clear c1 c2 h hn hb0
  have e1 : (v == v) = true := by simp
  have e2 : (ok == ok) = true := by simp
  go_enter Try.func13, Try.ntmps13
  go_wp2_with (first | (go_at_call 10; refine c1'.out.mono ?_; rintro e w1 ⟨rfl, hb1, hp1⟩; obtain ⟨b1, b2, b3, b4, b5, b6⟩ := id hb1) | (go_at_call 21; refine (c2'.out _ hp1.out hb1).out.mono ?_; rintro e w2 ⟨rfl, hb2, hq2⟩; obtain ⟨d1, d2, d3, d4, d5, d6⟩ := id hb2))
  go_ret
  exact hq2.out

set_option maxHeartbeats 4000000 in
theorem act_flip {s r : Nat} {L : List It} {F : Nat → Prop} (iv cls ba : Int) (np fu sw : Bool) (w : World) (h : Duo w s r L F) (hn : L.length ≤ 1000000) :
    Calls Try.prog 13 #[.pointer (some ⟨s, 0, none⟩), .pointer (some ⟨r, 0, none⟩), .agg #[.int .i64 5, .int .i64 iv, .int .i64 cls, .int .u64 ba, .bool np, .bool fu, .bool sw]] w (ActPost s r L F w) := by
  obtain ⟨v, P, c1, c2⟩ := two_flip h hn iv cls ba np fu sw
  have hb0 := box_new w 5 iv cls ba np fu sw
  have c1' := c1 (w.alloc (.cells #[.int .i64 5, .int .i64 iv, .int .i64 cls, .int .u64 ba, .bool np, .bool fu, .bool sw] 40)) ((Fr.refl _ w).alloc _) hb0
  have c2' := Lib.hid c2
  clear c1 c2 h hn hb0
  have heq := eql_errno v
  go_enter Try.func13, Try.ntmps13
  go_wp2_with (first | (go_at_call 16; refine c1'.out.mono ?_; rintro e w1 ⟨rfl, hb1, hp1⟩; obtain ⟨b1, b2, b3, b4, b5, b6⟩ := id hb1) | (go_at_call 22; refine (c2'.out _ hp1.out hb1).out.mono ?_; rintro e w2 ⟨rfl, hb2, hq2⟩; obtain ⟨d1, d2, d3, d4, d5, d6⟩ := id hb2))
  go_ret
  exact hq2.out

theorem act_other {s r : Nat} {L : List It} {F : Nat → Prop} (n iv cls ba : Int) (np fu sw : Bool) (w : World) (h : Duo w s r L F) (h1 : n < 1 ∨ 5 < n) :
    Calls Try.prog 13 #[.pointer (some ⟨s, 0, none⟩), .pointer (some ⟨r, 0, none⟩), .agg #[.int .i64 n, .int .i64 iv, .int .i64 cls, .int .u64 ba, .bool np, .bool fu, .bool sw]] w (ActPost s r L F w) := by
  have e1 : (n == 1) = false := by simp; omega
  have e2 : (n == 2) = false := by simp; omega
  have e3 : (n == 3) = false := by simp; omega
  have e4 : (n == 4) = false := by simp; omega
  have e5 : (n == 5) = false := by simp; omega
  have H := Lib.hid h
  clear h1 h
  go_enter Try.func13, Try.ntmps13
  go_wp2
  go_ret
  exact H.out.done ((Fr.refl _ w).alloc _)

theorem act_any {s r : Nat} {L : List It} {F : Nat → Prop} (n iv cls ba : Int) (np fu sw : Bool) (w : World) (h : Duo w s r L F) (hn : L.length ≤ 1000000) :
    Calls Try.prog 13 #[.pointer (some ⟨s, 0, none⟩), .pointer (some ⟨r, 0, none⟩), .agg #[.int .i64 n, .int .i64 iv, .int .i64 cls, .int .u64 ba, .bool np, .bool fu, .bool sw]] w (ActPost s r L F w) := by
  by_cases h1 : n = 1
  · subst h1; exact act_put iv cls ba np fu sw w h hn
  by_cases h2 : n = 2
  · subst h2; exact act_take iv cls ba np fu sw w h hn
  by_cases h3 : n = 3
  · subst h3; exact act_remove iv cls ba np fu sw w h hn
  by_cases h4 : n = 4
  · subst h4; exact act_least iv cls ba np fu sw w h hn
  by_cases h5 : n = 5
  · subst h5; exact act_flip iv cls ba np fu sw w h hn
  exact act_other n iv cls ba np fu sw w h (by omega)
end Go.Proofs.Ytanaicjeheacoaa
