/-
  The Masks and the reference side by side.
-/
import Derived.Test.YtcnnibhipjkgiaaRefClear
import Derived.Test.YtcnnibhipjkgiaaActs
namespace Go.Proofs.Ytcnnibhipjkgiaa
open Go.RowKit Go.Deep

/-- blocks of ours that A does not name -/
def Far (A : Nat → Prop) (w0 : World) (b : Nat) : Prop := w0.heap.size ≤ b ∧ ¬ A b

/-- the Masks in block m know p; the reference in block r has L; they share nothing, and have none of A's blocks -/
structure Duo (A : Nat → Prop) (w0 w : World) (m r : Nat) (p : Nat → Bool) (L : List Rf.WV) (k : Nat) : Prop where
  two : ∃ F G, Mine w m p k F ∧ Rf.Is w r L G ∧ (∀ b, F b → Far A w0 b ∧ ¬ G b ∧ b ≠ r) ∧ (∀ b, G b → Far A w0 b ∧ b ≠ m)
  root : Far A w0 m ∧ Far A w0 r ∧ m ≠ r ∧ m < w.heap.size ∧ r < w.heap.size
  away : ∀ b, A b → w0.heap.size ≤ b ∧ b < w.heap.size
  fr : Fr (fun _ => False) w0 w

variable {A : Nat → Prop} {w0 w w' : World} {m r k : Nat} {p : Nat → Bool} {L : List Rf.WV}

theorem Duo.frA (h : Duo A w0 w m r p L k) (hf : Fr A w w') : Duo A w0 w' m r p L k := by
  obtain ⟨F, G, h1, h2, h3, h4⟩ := h.two
  obtain ⟨r1, r2, r3, r4, r5⟩ := h.root
  exact ⟨⟨F, G, h1.fr hf (fun b hb => (h3 b hb).1.2) r1.2, h2.fr hf (fun b hb => (h4 b hb).1.2) r2.2, h3, h4⟩, ⟨r1, r2, r3, Nat.lt_of_lt_of_le r4 hf.size, Nat.lt_of_lt_of_le r5 hf.size⟩,
    fun b hb => ⟨(h.away b hb).1, Nat.lt_of_lt_of_le (h.away b hb).2 hf.size⟩, h.fr.trans hf (fun b hb ha => by have := (h.away b ha).1; omega)⟩
theorem Duo.quiet (h : Duo A w0 w m r p L k) (hf : Fr (fun _ => False) w w') : Duo A w0 w' m r p L k := h.frA (hf.mono (fun _ _ x => x.elim))
theorem Duo.forget {B : Nat → Prop} (h : Duo A w0 w m r p L k) (hB : ∀ b, B b → A b) : Duo B w0 w m r p L k := by
  obtain ⟨F, G, h1, h2, h3, h4⟩ := h.two
  obtain ⟨r1, r2, r3, r4, r5⟩ := h.root
  exact ⟨⟨F, G, h1, h2, fun b hb => ⟨⟨(h3 b hb).1.1, fun x => (h3 b hb).1.2 (hB b x)⟩, (h3 b hb).2⟩, fun b hb => ⟨⟨(h4 b hb).1.1, fun x => (h4 b hb).1.2 (hB b x)⟩, (h4 b hb).2⟩⟩,
    ⟨⟨r1.1, fun x => r1.2 (hB m x)⟩, ⟨r2.1, fun x => r2.2 (hB r x)⟩, r3, r4, r5⟩, fun b hb => h.away b (hB b hb), h.fr⟩
/-- blocks that were just made are kept apart -/
theorem Duo.avoid {B : Nat → Prop} (h : Duo A w0 w m r p L k) (hf : Fr (fun _ => False) w w') (hB : ∀ b, B b → A b ∨ (w.heap.size ≤ b ∧ b < w'.heap.size)) : Duo B w0 w' m r p L k := by
  obtain ⟨F, G, h1, h2, h3, h4⟩ := h.two
  obtain ⟨r1, r2, r3, r4, r5⟩ := h.root
  have no : ∀ b, b < w.heap.size → ¬ A b → ¬ B b := fun b h5 h6 h7 => by
    rcases hB b h7 with h8 | h8
    · exact h6 h8
    · omega
  refine ⟨⟨F, G, h1.quiet hf, h2.quiet hf, fun b hb => ⟨⟨(h3 b hb).1.1, no b (h1.lt b (.inl hb)) (h3 b hb).1.2⟩, (h3 b hb).2⟩, fun b hb => ⟨⟨(h4 b hb).1.1, no b (h2.lt b hb) (h4 b hb).1.2⟩, (h4 b hb).2⟩⟩,
    ⟨⟨r1.1, no m r4 r1.2⟩, ⟨r2.1, no r r5 r2.2⟩, r3, Nat.lt_of_lt_of_le r4 hf.size, Nat.lt_of_lt_of_le r5 hf.size⟩, fun b hb => ?_, h.fr.trans hf (fun _ _ x => x)⟩
  rcases hB b hb with h8 | h8
  · exact ⟨(h.away b h8).1, Nat.lt_of_lt_of_le (h.away b h8).2 hf.size⟩
  · exact ⟨Nat.le_trans h.fr.size h8.1, h8.2⟩

theorem Duo.now {p' : Nat → Bool} {k' : Nat} {F G : Nat → Prop} (h : Duo A w0 w m r p L k) (h1 : Mine w m p k F) (h2 : Rf.Is w r L G) (h3 : ∀ b, F b → Far A w0 b ∧ ¬ G b ∧ b ≠ r) (h4 : ∀ b, G b → Far A w0 b ∧ b ≠ m) (hn : Now w m p' k' F w') : Duo A w0 w' m r p' L k' ∧ Fr (Far A w0) w w' := by
  obtain ⟨r1, r2, r3, r4, r5⟩ := h.root
  obtain ⟨F', n1, n2, n3⟩ := hn
  refine ⟨⟨⟨F', G, n1, h2.fr n3 (fun b hb => (h4 b hb).2) (Ne.symm r3), fun b hb => ?_, h4⟩, ⟨r1, r2, r3, Nat.lt_of_lt_of_le r4 n3.size, Nat.lt_of_lt_of_le r5 n3.size⟩,
    fun b hb => ⟨(h.away b hb).1, Nat.lt_of_lt_of_le (h.away b hb).2 n3.size⟩, h.fr.trans n3 (fun b hb e => by have := r1.1; omega)⟩, n3.mono (fun b _ e => e ▸ r1)⟩
  rcases n2 b hb with h5 | h5
  · exact h3 b h5
  · exact ⟨⟨Nat.le_trans h.fr.size h5, fun x => by have := (h.away b x).2; omega⟩, fun x => by have := h2.lt b x; omega, by omega⟩

theorem Duo.put {x : Rf.Wt} {F G : Nat → Prop} (h : Duo A w0 w m r p L k) (h1 : Mine w m p k F) (h2 : Rf.Is w r L G) (h3 : ∀ b, F b → Far A w0 b ∧ ¬ G b ∧ b ≠ r) (h4 : ∀ b, G b → Far A w0 b ∧ b ≠ m) (hn : Rf.Put w r L G x w') : (∃ v, Duo A w0 w' m r p (L ++ [(x, v)]) k) ∧ Fr (Far A w0) w w' := by
  obtain ⟨r1, r2, r3, r4, r5⟩ := h.root
  obtain ⟨v, n1, n2⟩ := hn
  have far : Fr (Far A w0) w w' := n2.mono (fun b _ e => by
    rcases e with e | e
    · exact e ▸ r2
    · exact (h4 b e).1)
  refine ⟨⟨v, ⟨⟨F, _, h1.fr n2 (fun b hb e => ?_) (fun e => ?_), n1, fun b hb => ⟨(h3 b hb).1, fun e => ?_, (h3 b hb).2.2⟩, fun b hb => ?_⟩, ⟨r1, r2, r3, Nat.lt_of_lt_of_le r4 n2.size, Nat.lt_of_lt_of_le r5 n2.size⟩,
    fun b hb => ⟨(h.away b hb).1, Nat.lt_of_lt_of_le (h.away b hb).2 n2.size⟩, h.fr.trans far (fun b hb e => by have := e.1; omega)⟩⟩, far⟩
  · rcases e with e | e
    · exact (h3 b hb).2.2 e
    · exact (h3 b hb).2.1 e
  · rcases e with e | e
    · exact r3 e
    · exact (h4 m e).2 rfl
  · rcases e with e | e
    · exact (h3 b hb).2.1 e
    · have := h1.lt b (.inl hb); omega
  · rcases hb with hb | hb
    · exact h4 b hb
    · exact ⟨⟨Nat.le_trans h.fr.size hb.1, fun x => by have := (h.away b x).2; omega⟩, by omega⟩

/-- how a call has ended that may have written -/
def Ends (A : Nat → Prop) (w0 w : World) (m r : Nat) (p : Nat → Bool) (L : List Rf.WV) (k : Nat) (cd : Int) (e : Ending) (w' : World) : Prop :=
  e = .returned (.int .i64 cd) ∧ Hid (Duo A w0 w' m r p L k) ∧ Hid (Fr (Far A w0) w w')
def EndsR (A : Nat → Prop) (w0 w : World) (m r : Nat) (p : Nat → Bool) (L : List Rf.WV) (k : Nat) (x : Rf.Wt) (e : Ending) (w' : World) : Prop :=
  ∃ v, e = .returned (.int .i64 0) ∧ Hid (Duo A w0 w' m r p (L ++ [(x, v)]) k) ∧ Hid (Fr (Far A w0) w w')

theorem duo_write (h : Duo A w0 w m r p L k) (addr bytes : Nat) (ha : addr ≤ 18446744073709551615) (hb : bytes ≤ 18446744073709551615) (hk : k ≤ 1000000)
    (wd : Int) (bs : List Bool) (a : Option Addr) (c : Nat) (n : Nat) (hn : n ≤ 18446744073709551615) (hrd : Rd w 1 (.slice a bs.length c) bs.length (bs.map .bool)) :
    Calls Try.prog 8 #[.pointer (some ⟨m, 0, none⟩), .int .u64 addr, .int .u64 bytes, .agg #[.int .i64 wd, .slice a bs.length c], .int .u64 n] w
      (Ends A w0 w m r (if wcode addr bytes wd bs.length n = 0 then over (addr / 8) ((addr + bytes) / 8) (fmOf bs n).at p else p) L (k + 2) (wcode addr bytes wd bs.length n)) := by
  obtain ⟨F, G, h1, h2, h3, h4⟩ := id h.two
  refine (write_any w h1 addr bytes ha hb hk wd bs a c n hn hrd).mono ?_
  rintro e w' ⟨rfl, hnow⟩
  obtain ⟨d1, d2⟩ := h.now h1 h2 h3 h4 hnow.out
  exact ⟨rfl, Lib.hid d1, Lib.hid d2⟩

theorem duo_clear (h : Duo A w0 w m r p L k) (addr bytes : Nat) (ha : addr ≤ 18446744073709551615) (hb : bytes ≤ 18446744073709551615) (hk : k ≤ 1000000) :
    Calls Try.prog 15 #[.pointer (some ⟨m, 0, none⟩), .int .u64 addr, .int .u64 bytes] w
      (Ends A w0 w m r (if Right addr bytes then over (addr / 8) ((addr + bytes) / 8) (fun _ => false) p else p) L (k + 2) (if Right addr bytes then 0 else 1)) := by
  obtain ⟨F, G, h1, h2, h3, h4⟩ := id h.two
  refine (clear_any w h1 addr bytes ha hb hk).mono ?_
  rintro e w' ⟨rfl, hnow⟩
  obtain ⟨d1, d2⟩ := h.now h1 h2 h3 h4 hnow.out
  exact ⟨rfl, Lib.hid d1, Lib.hid d2⟩

theorem duo_ptrs (h : Duo A w0 w m r p L k) (addr bytes : Nat) (ha : addr ≤ 18446744073709551615) (hb : bytes ≤ 18446744073709551615) (hk : k ≤ 1000000) :
    Calls Try.prog 10 #[.pointer (some ⟨m, 0, none⟩), .int .u64 addr, .int .u64 bytes] w fun e w' =>
      e = .returned (.tuple #[.int .u64 ((if Right addr bytes then cnt p (addr / 8) ((addr + bytes) / 8) else 0 : Nat) : Nat), .int .i64 (if Right addr bytes then 0 else 1)]) ∧ Hid (Fr (fun _ => False) w w') := by
  obtain ⟨F, G, h1, h2, h3, h4⟩ := id h.two
  exact pointers_any w h1 addr bytes ha hb hk

theorem duo_ptrs_ref (h : Duo A w0 w m r p L k) (addr bytes : Nat) (ha : addr ≤ 18446744073709551615) (hb : bytes ≤ 18446744073709551615) :
    Calls Try.prog 23 #[.pointer (some ⟨r, 0, none⟩), .int .u64 addr, .int .u64 bytes] w fun e w' =>
      e = .returned (.tuple #[.int .u64 ((if Right addr bytes then cnt (Rf.rsem (L.map (·.1))) (addr / 8) ((addr + bytes) / 8) else 0 : Nat) : Nat), .int .i64 (if Right addr bytes then 0 else 1)]) ∧ Hid (Fr (fun _ => False) w w') := by
  obtain ⟨F, G, h1, h2, h3, h4⟩ := id h.two
  exact Rf.pointers_any w h2 addr bytes ha hb

theorem duo_read (h : Duo A w0 w m r p L k) (addr bytes : Nat) (ha : addr ≤ 18446744073709551615) (hb : bytes ≤ 1048576) (hk : k ≤ 1000000) (hR : Right addr bytes) :
    Calls Try.prog 9 #[.pointer (some ⟨m, 0, none⟩), .int .u64 addr, .int .u64 bytes] w (Told w p (addr / 8) (bytes / 8)) := by
  obtain ⟨F, G, h1, h2, h3, h4⟩ := id h.two
  exact read_any w h1 addr bytes ha hb hk hR

theorem duo_read_ref (h : Duo A w0 w m r p L k) (addr bytes : Nat) (ha : addr ≤ 18446744073709551615) (hb : bytes ≤ 1048576) (hR : Right addr bytes) :
    Calls Try.prog 22 #[.pointer (some ⟨r, 0, none⟩), .int .u64 addr, .int .u64 bytes] w (Rf.Told w (Rf.rsem (L.map (·.1))) (addr / 8) (bytes / 8)) := by
  obtain ⟨F, G, h1, h2, h3, h4⟩ := id h.two
  exact Rf.read_any w h2 addr bytes ha hb hR

theorem duo_write_ref (h : Duo A w0 w m r p L k) (x : Rf.Wt) (hx : Rf.Ok x) (a : Option Addr) (c : Nat) (hrd : Rd w 1 (.slice a x.bs.length c) x.bs.length (x.bs.map .bool)) (hn : x.n ≤ x.bytes / 8 / x.bs.length) (hL : L.length ≤ 100000) :
    Calls Try.prog 20 #[.pointer (some ⟨r, 0, none⟩), .int .u64 (x.addr : Nat), .int .u64 (x.bytes : Nat), .agg #[.int .i64 (x.bs.length : Nat), .slice a x.bs.length c], .int .u64 (x.n : Nat)] w (EndsR A w0 w m r p L k x) := by
  obtain ⟨F, G, h1, h2, h3, h4⟩ := id h.two
  refine (Rf.write_ok w h2 x hx a c hrd hn hL).mono ?_
  rintro e w' ⟨rfl, hput⟩
  obtain ⟨⟨v, d1⟩, d2⟩ := h.put h1 h2 h3 h4 hput.out
  exact ⟨v, rfl, Lib.hid d1, Lib.hid d2⟩
end Go.Proofs.Ytcnnibhipjkgiaa
