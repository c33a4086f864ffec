/-
  The reference's Add and Remove.
-/
import Derived.Test.YtheadhficajhmaaRef
namespace Go.Proofs.Ytheadhficajhmaa
open Go.RowKit
namespace Rf
open Sp (cells3 cell3 lt isHd takeWhile_split)

theorem cells3_append (xs ys : List Rec) : cells3 (xs ++ ys) = cells3 xs ++ cells3 ys := by simp [cells3]
theorem cells3_length (xs : List Rec) : (cells3 xs).length = xs.length * 3 := by
  induction xs with
  | nil => rfl
  | cons x xs ih => simp [cells3, cell3] at ih ⊢; omega
theorem cells3_take (xs ys : List Rec) : (cells3 (xs ++ ys)).take (xs.length * 3) = cells3 xs := by
  rw [cells3_append, ← cells3_length]; simp
theorem cells3_drop (xs ys : List Rec) : (cells3 (xs ++ ys)).drop (xs.length * 3) = cells3 ys := by
  rw [cells3_append, ← cells3_length]; simp
theorem cells3_one (xs : List Rec) : ∀ u ∈ cells3 xs, u.oneCell' = true := by
  intro u hu
  simp only [cells3, List.mem_flatMap, cell3] at hu
  obtain ⟨r, _, hu⟩ := hu
  simp at hu
  rcases hu with rfl | rfl | rfl <;> rfl

/-- what a call on the reference leaves -/
def Post (v : Value) (r : Nat) (l' : List Rec) (S : Nat → Prop) (w : World) (e : Ending) (w' : World) : Prop :=
  e = .returned v ∧ (∃ a c, Is w' r a c l' ∧ ∀ g, Value.ownBlock (.slice a l'.length c) = some g → w.heap.size ≤ g) ∧ Fr S w w'
/-- what a call that changes nothing leaves -/
def PostNo (v : Value) (w : World) (e : Ending) (w' : World) : Prop := e = .returned v ∧ Fr (fun _ => False) w w'

theorem Is.fr {S : Nat → Prop} {w w' : World} {r : Nat} {a : Option Addr} {c : Nat} {l : List Rec} (h : Is w r a c l) (hf : Fr S w w') (h1 : ¬ S r) (h2 : ∀ b, some b = Value.ownBlock (.slice a l.length c) → ¬ S b) : Is w' r a c l := by
  refine ⟨hf.at h.root h1, ?_, h.ne⟩
  refine ⟨h.row.1, ?_⟩
  rcases h.row.2 with h3 | ⟨g, cap, cur, hv, hg, hh, rr⟩
  · exact .inl h3
  · exact .inr ⟨g, cap, cur, hv, hg, hf.at hh (h2 g (by rw [hv]; rfl)), rr⟩

theorem add_arg (r : Nat) (a k d : Int) (w : World) (hk : k < 1 ∨ 3 < k) :
    Calls Try.prog 20 #[.pointer (some ⟨r, 0, none⟩), .int .u64 a, .int .i64 k, .int .u64 d] w fun e w' => e = .returned (.int .i64 1) ∧ w = w' := by
  by_cases h1 : k < 1
  · clear hk
    go_enter Try.func20, Try.ntmps20
    go_wp2
    go_ret
    exact ⟨rfl, rfl⟩
  · have h2 : 3 < k := by omega
    clear hk
    go_enter Try.func20, Try.ntmps20
    go_wp2
    go_ret
    exact ⟨rfl, rfl⟩

set_option maxHeartbeats 1000000 in
theorem add_twice {r : Nat} {a : Option Addr} {c : Nat} {l xs ys : List Rec} (ad k d : Int) (w : World) (h : Is w r a c l) (hl : l = xs ++ ys) (hx : ∀ x ∈ xs, lt ad k x = true) (hy : ∀ y z, ys = y :: z → lt ad k y = false) (hn : l.length ≤ 1000000000)
    (hk1 : 1 ≤ k) (hk3 : k ≤ 3) (hh : isHd ys ad k = true) :
    Calls Try.prog 20 #[.pointer (some ⟨r, 0, none⟩), .int .u64 ad, .int .i64 k, .int .u64 d] w (PostNo (.int .i64 34) w) := by
  have hf := find_any ad k w h hl hx hy hn
  rw [hh] at hf
  replace hf := Lib.hid hf
  clear h hl hx hy hn hh
  go_enter Try.func20, Try.ntmps20
  go_wp2_with (first | (go_at_call 24; refine hf.out.mono ?_; rintro e w' ⟨rfl, n, rfl⟩))
  go_ret
  exact ⟨rfl, Fr.of_drewN _ w _⟩

def FoundFr (p : Nat) (b : Bool) (w : World) (e : Ending) (w' : World) : Prop := e = .returned (.tuple #[.int .i64 p, .bool b]) ∧ Fr (fun _ => False) w w'

theorem find_fr {r : Nat} {a : Option Addr} {c : Nat} {l xs ys : List Rec} (ad k : Int) (w : World) (h : Is w r a c l) (hl : l = xs ++ ys) (hx : ∀ x ∈ xs, lt ad k x = true) (hy : ∀ y z, ys = y :: z → lt ad k y = false) (hn : l.length ≤ 1000000000) :
    Calls Try.prog 24 #[.pointer (some ⟨r, 0, none⟩), .int .u64 ad, .int .i64 k] w (FoundFr xs.length (isHd ys ad k) w) :=
  (find_any ad k w h hl hx hy hn).mono fun _ _ ⟨he, n, hw⟩ => ⟨he, hw ▸ Fr.of_drewN _ w n⟩

theorem Is.len {w : World} {r : Nat} {a : Option Addr} {c : Nat} {l : List Rec} (h : Is w r a c l) : l.length ≤ c := by
  rcases h.row.2 with ⟨h1, h2⟩ | ⟨g, cap, cur, h1, _, _, h2, _⟩
  · simp at h1; omega
  · simp at h1; omega

theorem Is.store {w : World} {r B : Nat} {a a' : Option Addr} {c c' : Nat} {l l' : List Rec} (h : Is w r a c l) (ho : w.ownsRow B 49 3 (.slice a' l'.length c') l'.length (cells3 l')) (hr : r < B) :
    Is (w.setCell ⟨r, 0, none⟩ (.slice a' l'.length c')) r a' c' l' := by
  have hne : Value.ownBlock (.slice a' l'.length c') ≠ some r := fun e => by have := ho.lt r e; omega
  refine ⟨by rw [heap_setCell_at h.root]; rfl, ?_, hne⟩
  exact ownsRow_setCell_other (ownsRow_mono ho (Nat.zero_le _)) (by simpa using hne) _

set_option maxHeartbeats 1000000 in
theorem add_ok {r : Nat} {a : Option Addr} {c : Nat} {l xs ys : List Rec} (ad k d : Int) (w : World) (h : Is w r a c l) (hl : l = xs ++ ys) (hx : ∀ x ∈ xs, lt ad k x = true) (hy : ∀ y z, ys = y :: z → lt ad k y = false) (hn : l.length ≤ 1000000000)
    (hk1 : 1 ≤ k) (hk3 : k ≤ 3) (hh : isHd ys ad k = false) (b : Nat) :
    Calls Try.prog 20 #[.pointer (some ⟨r, 0, none⟩), .int .u64 ad, .int .i64 k, .int .u64 d] w (Post (.int .i64 0) r (xs ++ ⟨b, ad, k, d⟩ :: ys) (fun x => x = r) w) := by
  have hf := find_fr ad k w h hl hx hy hn
  rw [hh] at hf
  replace hf := Lib.hid hf
  obtain ⟨i0, hi, hz0, hz1, hz2⟩ := info_parts Try.infoSpecial
  have H := Lib.hid (And.intro h hl)
  have hxl : xs.length ≤ l.length := by rw [hl]; simp
  have hlc := h.len
  clear h hl hx hy hh
  go_enter Try.func20, Try.ntmps20
  go_wp2_with fail
  refine hf.out.mono ?_
  rintro e w1 ⟨rfl, hfr1⟩
  obtain ⟨h, hl⟩ := H.out
  have h1 := h.fr hfr1 (fun x => x) (fun _ _ x => x)
  have hr0 : ∀ o, (w1.alloc o).cell? ⟨r, 0, none⟩ = some (.slice a l.length c) := fun o => (World.cell?_alloc_lt _ _ _ (lt_blk h1.root)).trans (cell_blk h1.root 0)
  -- the first append: into an empty row
  have hown : (w1.alloc (.cells #[] 49)).ownsRow w.heap.size 49 3 (.slice (some ⟨w1.heap.size, 0, none⟩) 0 0) 0 [] :=
    ownsRow_empty 3 (by rw [heap_alloc, if_pos rfl]) hfr1.size
  have hrd : Rd (w1.alloc (.cells #[] 49)) 3 (.slice a xs.length c) xs.length (cells3 xs) := by
    have := ((ownsRow_rd (h1.fr ((Fr.refl (fun _ => False) w1).alloc (.cells #[] 49)) (fun x => x) (fun _ _ x => x)).row)).to hxl
    rw [hl] at this
    rw [cells3_take] at this
    exact this
  clear h1 h hl hf
  go_wp2_with (first | (with_reducible refine wpList_slice_to rfl _ _ 28 rfl 49 i0 Try.underlying28 hi a l.length c rfl .i64 xs.length rfl ?b1 ?_) | (at_builtin; refine wpList_append_rd rfl _ _ 28 rfl 49 i0 _ 3 24 Try.underlying28 hi hz0 hz1 hz2 rfl (by decide) _ _ _ rfl hown (hfr1.alloc _) _ xs.length (cells3 xs) rfl hrd (cells3_one xs) ?c3 ?c4 ?_))
  case b1 => omega
  case c3 => simp only [maxLen]; omega
  case c4 => omega
  intro v2 w2 hown2 hfr2 _
  try simp only [Nat.zero_add, List.nil_append] at hown2
  clear hown hrd hr0
  -- the second: the new record
  have hr0 : ∀ o, (w2.alloc o).cell? ⟨r, 0, none⟩ = some (.slice a l.length c) := fun o => by
    obtain ⟨h, _⟩ := H.out
    exact (World.cell?_alloc_lt _ _ _ (Nat.lt_of_lt_of_le (lt_blk h.root) hfr2.size)).trans (cell_blk (hfr2.at h.root (fun x => x)) 0)
  have hrd : Rd (w2.alloc (.cells #[.int .u64 ad, .int .i64 k, .int .u64 d] 49)) 3 (.slice (some ⟨w2.heap.size, 0, none⟩) 1 1) 1 (cells3 [⟨b, ad, k, d⟩]) :=
    Rd.new (vs := [.int .u64 ad, .int .i64 k, .int .u64 d]) (by rw [heap_alloc, if_pos rfl]) 3 1 rfl
  go_wp2_with (first | (at_builtin; refine wpList_append_rd rfl _ _ 28 rfl 49 i0 _ 3 24 Try.underlying28 hi hz0 hz1 hz2 rfl (by decide) _ _ _ rfl (hown2.alloc _) (hfr2.alloc _) _ 1 (cells3 [⟨b, ad, k, d⟩]) rfl hrd (cells3_one _) ?c3 ?c4 ?_))
  case c3 => simp only [maxLen]; omega
  case c4 => omega
  intro v3 w3 hown3 hfr3 _
  clear hown2 hrd hr0 hfr2
  -- the third: the rest
  obtain ⟨h, hl⟩ := H.out
  have h3 := h.fr hfr3 (fun x => x) (fun _ _ x => x)
  have hr0 := cell_blk h3.root 0
  simp at hr0
  have hrd := ownsRow_rd h3.row
  have hys : (cells3 l).drop (xs.length * 3) = cells3 ys := by rw [hl, cells3_drop]
  clear h hl h3
  have hys' := Lib.hid hys
  clear hys
  go_wp2_with (first | (with_reducible refine wpList_slice_from rfl _ _ 28 rfl 49 i0 3 Try.underlying28 hi hz1 a l.length c rfl _ hrd .i64 xs.length rfl ?b1 ?_))
  case b1 => omega
  intro v5 hrd5
  rw [hys'.out] at hrd5
  go_wp2_with (first | (at_builtin; refine wpList_append_rd rfl _ _ 28 rfl 49 i0 _ 3 24 Try.underlying28 hi hz0 hz1 hz2 rfl (by decide) _ _ _ rfl hown3 hfr3 _ _ (cells3 ys) rfl hrd5 (cells3_one _) ?c3 ?c4 ?_))
  case c3 => simp only [maxLen]; omega
  case c4 => omega
  intro v4 w4 hown4 hfr4 _
  clear hown3 hfr3 hrd hrd5 hr0 hys'
  obtain ⟨h, hl⟩ := H.out
  have h4 := h.fr hfr4 (fun x => x) (fun _ _ x => x)
  have hr0 := cell_blk h4.root 0
  have hrf := free_blk h4.root 0
  simp at hr0
  have hlen : xs.length + 1 + (l.length - xs.length) = (xs ++ (⟨b, ad, k, d⟩ : Rec) :: ys).length := by rw [hl]; simp; omega
  rw [hlen, ← cells3_append, ← cells3_append] at hown4
  simp only [List.singleton_append] at hown4
  obtain ⟨a4, c4, rfl⟩ := ownsRow_form hown4
  have hstore := h4.store hown4 (lt_blk h.root)
  have hfar := hown4.lt
  have A := Lib.hid (And.intro hstore (And.intro hfr4 hfar))
  clear hfar
  clear h hl h4 hown4 hfr4 hstore hlen
  go_wp2
  go_ret
  exact ⟨rfl, ⟨_, _, by simpa using A.out.1, fun g hg => (A.out.2.2 g hg).1⟩, (A.out.2.1.mono (fun _ _ => False.elim)).setCell _ _ (.inl rfl)⟩
end Rf
end Go.Proofs.Ytheadhficajhmaa
