/-
  The records of package special in memory, and what its functions do to them. No condition.
-/
import Derived.Test.YtheadhficajhmaaMem
import Derived.Deep.LoopGhost
namespace Go.Proofs.Ytheadhficajhmaa
open Go.RowKit

/-- a record: its block, its address, its kind, its datum -/
structure Rec where
  b : Nat
  a : Int
  k : Int
  d : Int

namespace Sp

/-- the address of the first record -/
def hd : List Rec → Option Addr
  | [] => none
  | r :: _ => some ⟨r.b, 0, none⟩

theorem hd_nil : hd [] = none := rfl
theorem hd_cons (r : Rec) (l : List Rec) : hd (r :: l) = some ⟨r.b, 0, none⟩ := rfl

/-- the Specials in block s have the records l -/
structure IsN (w : World) (s : Nat) (l : List Rec) (n : Int) : Prop where
  root : w.heap[s]? = some (.cells #[.pointer (hd l), .int .i64 n] 54 (0, 0))
  node : ∀ xs r ys, l = xs ++ r :: ys → w.heap[r.b]? = some (.cells #[.int .u64 r.a, .int .i64 r.k, .int .u64 r.d, .pointer (hd ys)] 59 (0, 0))
  nodup : (s :: l.map (·.b)).Nodup

abbrev Is (w : World) (s : Nat) (l : List Rec) : Prop := IsN w s l l.length

theorem IsN.is {w : World} {s : Nat} {l : List Rec} {n : Int} (h : IsN w s l n) (hn : n = l.length) : Is w s l := by unfold Is; rw [← hn]; exact h

/-- where the pointer behind the records xs stands -/
def slotOf (s : Nat) : List Rec → Addr
  | [] => ⟨s, 0, none⟩
  | [r] => ⟨r.b, 3, none⟩
  | _ :: r :: xs => slotOf s (r :: xs)

theorem slotOf_snoc (s : Nat) (xs : List Rec) (r : Rec) : slotOf s (xs ++ [r]) = ⟨r.b, 3, none⟩ := by
  induction xs with
  | nil => rfl
  | cons x xs ih => cases xs with
    | nil => rfl
    | cons y ys => simpa [slotOf] using ih

theorem snoc_cases {α : Type} (l : List α) : l = [] ∨ ∃ xs x, l = xs ++ [x] := by
  rcases List.eq_nil_or_concat l with h | ⟨xs, x, h⟩
  · exact .inl h
  · exact .inr ⟨xs, x, by simpa using h⟩

theorem IsN.slot {w : World} {s : Nat} {l xs ys : List Rec} {n : Int} (h : IsN w s l n) (hl : l = xs ++ ys) : w.cell? (slotOf s xs) = some (.pointer (hd ys)) := by
  rcases snoc_cases xs with rfl | ⟨zs, r, rfl⟩
  · simp only [List.nil_append] at hl; subst hl
    exact cell_blk h.root 0
  · rw [slotOf_snoc]
    have := h.node zs r ys (by simpa using hl)
    exact cell_blk this 3

theorem IsN.cells {w : World} {s : Nat} {l xs ys : List Rec} {r : Rec} {n : Int} (h : IsN w s l n) (hl : l = xs ++ r :: ys) :
    w.cell? ⟨r.b, 0, none⟩ = some (.int .u64 r.a) ∧ w.cell? ⟨r.b, 1, none⟩ = some (.int .i64 r.k) ∧ w.cell? ⟨r.b, 2, none⟩ = some (.int .u64 r.d) ∧ w.cell? ⟨r.b, 3, none⟩ = some (.pointer (hd ys)) :=
  blk4 (h.node xs r ys hl)

/-- does a record stand ahead of an address and a kind? -/
def lt (a k : Int) (r : Rec) : Bool := decide (r.a < a) || (r.a == a && decide (r.k < k))

theorem takeWhile_split {α : Type} {p : α → Bool} {xs ys : List α} (h : ∀ x ∈ xs, p x = true) (hy : ∀ y r, ys = y :: r → p y = false) : (xs ++ ys).takeWhile p = xs := by
  induction xs with
  | nil =>
    cases ys with
    | nil => rfl
    | cons y r => simp [hy y r rfl]
  | cons x xs ih => simp [h x (by simp), ih (fun z hz => h z (by simp [hz]))]

/-- what 'at' answers -/
def place (s : Nat) (l : List Rec) (a k : Int) : Addr := slotOf s (l.takeWhile (lt a k))

theorem place_of {s : Nat} {l xs ys : List Rec} {a k : Int} (hl : l = xs ++ ys) (h : ∀ x ∈ xs, lt a k x = true) (hy : ∀ y r, ys = y :: r → lt a k y = false) : place s l a k = slotOf s xs := by
  subst hl; unfold place; rw [takeWhile_split h hy]

theorem at_keep {a k : Int} {xs : List Rec} {r : Rec} (h : ∀ x ∈ xs, lt a k x = true) (hr : lt a k r = true) : ∀ x ∈ xs ++ [r], lt a k x = true := by
  intro x hx
  rcases List.mem_append.1 hx with hx | hx
  · exact h x hx
  · simp at hx; subst hx; exact hr

set_option maxHeartbeats 1000000 in
theorem at_any (s : Nat) (l : List Rec) (a k : Int) (w : World) (h : Is w s l) :
    Calls Try.prog 17 #[.pointer (some ⟨s, 0, none⟩), .int .u64 a, .int .i64 k] w fun e w' => e = .returned (.pointer (some (place s l a k))) ∧ w = w' := by
  go_enter Try.func17, Try.ntmps17
  go_wp2
  go_loopg [7] l.length (fun k' p wr => w = wr ∧ ∃ xs ys : List Rec, l = xs ++ ys ∧ ys.length = k' ∧ (∀ x ∈ xs, lt a k x = true) ∧ p = .pointer (some (slotOf s xs)))
  case atStart => exact ⟨rfl, [], l, rfl, rfl, by simp, rfl⟩
  case round =>
    obtain ⟨rfl, xs, ys, hl, hk, hx, rfl⟩ := hrel
    have hs := h.slot hl
    cases ys with
    | nil =>
      have A := Lib.hid (place_of (s := s) hl hx (by simp))
      clear hl hk h hx
      simp only [hd_nil] at hs
      go_wp2
      go_ret
      exact ⟨by rw [A.out]; rfl, rfl⟩
    | cons r ys =>
      obtain ⟨c0, c1, c2, c3⟩ := h.cells hl
      simp only [hd_cons] at hs
      by_cases hlt : lt a k r = true
      · have A := Lib.hid (And.intro hl (And.intro hk (And.intro hx hlt)))
        clear hl hk h hx
        by_cases h1 : r.a < a
        · clear hlt
          go_wp2
          go_roundg ys.length
          case measure => have := A.out.2.1; simp at this; omega
          case rel => exact ⟨rfl, xs ++ [r], ys, by simp [A.out.1], rfl, at_keep A.out.2.2.1 A.out.2.2.2, by rw [slotOf_snoc]⟩
        · have h2 : r.a = a ∧ r.k < k := by simpa [lt, h1] using hlt
          clear hlt
          obtain ⟨h2, h3⟩ := h2
          have h2' : (r.a == a) = true := by simp [h2]
          clear h2
          go_wp2
          go_roundg ys.length
          case measure => have := A.out.2.1; simp at this; omega
          case rel => exact ⟨rfl, xs ++ [r], ys, by simp [A.out.1], rfl, at_keep A.out.2.2.1 A.out.2.2.2, by rw [slotOf_snoc]⟩
      · have hlt' : lt a k r = false := by simpa using hlt
        have A := Lib.hid (place_of (s := s) hl hx (by rintro y ys' ⟨⟩; exact hlt'))
        clear hl hk h hx hlt
        simp only [lt, Bool.or_eq_false_iff, Bool.and_eq_false_iff, decide_eq_false_iff_not, beq_eq_false_iff_ne] at hlt'
        obtain ⟨h1, h2⟩ := hlt'
        rcases h2 with h2 | h2
        · have h2' : (r.a == a) = false := by simpa using h2
          clear h2
          go_wp2
          go_ret
          exact ⟨by rw [A.out]; rfl, rfl⟩
        · by_cases h3 : (r.a == a) = true
          · go_wp2
            go_ret
            exact ⟨by rw [A.out]; rfl, rfl⟩
          · have h3' : (r.a == a) = false := by simpa using h3
            clear h3
            go_wp2
            go_ret
            exact ⟨by rw [A.out]; rfl, rfl⟩

/-- 'is' at a place whose pointer is nil -/
theorem is_nil (p : Addr) (a k : Int) (w : World) (h : w.cell? p = some (.pointer none)) :
    Calls Try.prog 18 #[.pointer (some p), .int .u64 a, .int .i64 k] w fun e w' => e = .returned (.bool false) ∧ w = w' := by
  go_enter Try.func18, Try.ntmps18
  go_wp2
  go_ret
  exact ⟨rfl, rfl⟩

theorem is_some (p : Addr) (r : Nat) (a k a' k' : Int) (w : World) (h : w.cell? p = some (.pointer (some ⟨r, 0, none⟩)))
    (h0 : w.cell? ⟨r, 0, none⟩ = some (.int .u64 a')) (h1 : w.cell? ⟨r, 1, none⟩ = some (.int .i64 k')) :
    Calls Try.prog 18 #[.pointer (some p), .int .u64 a, .int .i64 k] w fun e w' => e = .returned (.bool (a' == a && k' == k)) ∧ w = w' := by
  by_cases ha : (a' == a) = true
  · go_enter Try.func18, Try.ntmps18
    go_wp2
    go_ret
    exact ⟨by rw [ha]; rfl, rfl⟩
  · have ha' : (a' == a) = false := by simpa using ha
    clear ha
    go_enter Try.func18, Try.ntmps18
    go_wp2
    go_ret
    exact ⟨by rw [ha']; rfl, rfl⟩

/-- does a record of that address and kind stand at the head? -/
def isHd (ys : List Rec) (a k : Int) : Bool := match ys with | [] => false | r :: _ => r.a == a && r.k == k

theorem is_any {s : Nat} {l xs ys : List Rec} (a k : Int) (w : World) (h : Is w s l) (hl : l = xs ++ ys) :
    Calls Try.prog 18 #[.pointer (some (slotOf s xs)), .int .u64 a, .int .i64 k] w fun e w' => e = .returned (.bool (isHd ys a k)) ∧ w = w' := by
  have hs := h.slot hl
  cases ys with
  | nil => exact is_nil _ a k w hs
  | cons r ys =>
    obtain ⟨c0, c1, _, _⟩ := h.cells hl
    exact is_some _ r.b a k r.a r.k w hs c0 c1


theorem IsN.slotBlk {w : World} {s : Nat} {l xs ys : List Rec} {n : Int} (h : IsN w s l n) (hl : l = xs ++ ys) :
    ∃ c T, w.heap[(slotOf s xs).block]? = some (.cells c T (0, 0)) ∧ (slotOf s xs).spot = none ∧
      ((xs = [] ∧ slotOf s xs = ⟨s, 0, none⟩) ∨ ∃ zs r, xs = zs ++ [r] ∧ slotOf s xs = ⟨r.b, 3, none⟩) := by
  rcases snoc_cases xs with rfl | ⟨zs, r, rfl⟩
  · exact ⟨_, _, h.root, rfl, .inl ⟨rfl, rfl⟩⟩
  · rw [slotOf_snoc]
    exact ⟨_, _, h.node zs r ys (by simpa using hl), rfl, .inr ⟨zs, r, rfl, rfl⟩⟩

theorem IsN.lt {w : World} {s : Nat} {l : List Rec} {n : Int} (h : IsN w s l n) : s < w.heap.size ∧ ∀ r ∈ l, r.b < w.heap.size := by
  refine ⟨lt_blk h.root, fun r hr => ?_⟩
  obtain ⟨xs, ys, rfl⟩ := List.append_of_mem hr
  exact lt_blk (h.node xs r ys rfl)

theorem IsN.slotLt {w : World} {s : Nat} {l xs ys : List Rec} {n : Int} (h : IsN w s l n) (hl : l = xs ++ ys) : (slotOf s xs).block < w.heap.size := by
  obtain ⟨c, T, hb, _⟩ := h.slotBlk hl
  exact lt_blk hb

theorem IsN.slotFree {w : World} {s : Nat} {l xs ys : List Rec} {n : Int} (h : IsN w s l n) (hl : l = xs ++ ys) : w.frozen? (slotOf s xs) = false := by
  obtain ⟨c, T, hb, hsp, _⟩ := h.slotBlk hl
  simp [World.frozen?, hb]

/-- the blocks of it -/
def fp (s : Nat) (l : List Rec) (b : Nat) : Prop := b = s ∨ ∃ r ∈ l, b = r.b

theorem fp_slot (s : Nat) (xs ys : List Rec) : fp s (xs ++ ys) (slotOf s xs).block := by
  rcases snoc_cases xs with rfl | ⟨zs, r, rfl⟩
  · exact .inl rfl
  · rw [slotOf_snoc]; exact .inr ⟨r, by simp, rfl⟩

theorem hd_mid (bs : List Rec) (r : Rec) (ys zs : List Rec) : hd (bs ++ r :: ys) = hd (bs ++ r :: zs) := by
  cases bs with
  | nil => rfl
  | cons b bs => rfl

theorem IsN.ne {w : World} {s : Nat} {xs ys : List Rec} {r : Rec} {n : Int} (h : IsN w s (xs ++ r :: ys) n) : r.b ≠ s ∧ (∀ x ∈ xs, x.b ≠ r.b) ∧ (∀ y ∈ ys, y.b ≠ r.b) := by
  have hn := h.nodup
  simp only [List.map_append, List.map_cons, List.nodup_cons, List.mem_append, List.mem_cons, not_or, List.nodup_append] at hn
  obtain ⟨⟨h1, h2, h3⟩, h4, h5, h6⟩ := hn
  refine ⟨fun e => h2 e.symm, fun x hx e => ?_, fun y hy e => ?_⟩
  · exact h6 x.b (List.mem_map_of_mem hx) r.b (.inl rfl) e
  · exact h5.1 (e ▸ List.mem_map_of_mem hy)

/-- the number of records written -/
theorem IsN.setN {w : World} {s : Nat} {l : List Rec} {n : Int} (h : IsN w s l n) (m : Int) : IsN (w.setCell ⟨s, 1, none⟩ (.int .i64 m)) s l m := by
  refine ⟨by rw [heap_setCell_at h.root]; rfl, fun xs r ys hl => ?_, h.nodup⟩
  subst hl
  rw [heap_setCell_ne h.ne.1]
  exact h.node xs r ys rfl

/-- a new record laid in -/
theorem IsN.ins {w : World} {s : Nat} {l xs ys : List Rec} {n : Int} (h : IsN w s l n) (hl : l = xs ++ ys) (a k d : Int) :
    IsN ((w.alloc (.cells #[.int .u64 a, .int .i64 k, .int .u64 d, .pointer (hd ys)] 59)).setCell (slotOf s xs) (.pointer (some ⟨w.heap.size, 0, none⟩))) s
      (xs ++ ⟨w.heap.size, a, k, d⟩ :: ys) n := by
  subst hl
  have hlt := h.lt
  have hs : s ≠ w.heap.size := Nat.ne_of_lt hlt.1
  have hr : ∀ r ∈ xs ++ ys, r.b ≠ w.heap.size := fun r hr => Nat.ne_of_lt (hlt.2 r hr)
  refine ⟨?_, ?_, ?_⟩
  · rcases snoc_cases xs with rfl | ⟨zs, r, rfl⟩
    · simp [heap_setCell, heap_alloc, slotOf, hs, h.root, hd]
    · have hne : s ≠ r.b := fun e => (h.nodup |> fun hn => by simp [e] at hn)
      rw [slotOf_snoc]
      simp [heap_setCell, heap_alloc, hs, hne, h.root]
      exact hd_mid zs r _ _
  · intro xs' r' ys' he
    rcases mid_cases he with ⟨qs, rfl, rfl⟩ | ⟨rfl, rfl, rfl⟩ | ⟨bs, rfl, rfl⟩
    · have hn := h.node (xs ++ qs) r' ys' (by simp)
      have hne := IsN.ne (xs := xs ++ qs) (r := r') (ys := ys') (n := n) (by simpa using h)
      have h1 := hr r' (by simp)
      have h2 : r'.b ≠ (slotOf s xs).block := by
        rcases snoc_cases xs with rfl | ⟨zs, r, rfl⟩
        · exact hne.1
        · rw [slotOf_snoc]; exact fun e => hne.2.1 r (by simp) e.symm
      rw [heap_setCell_ne h2, heap_alloc, if_neg h1]
      exact hn
    · have h2 : w.heap.size ≠ (slotOf s xs').block := (Nat.ne_of_lt (h.slotLt rfl)).symm
      rw [heap_setCell_ne h2, heap_alloc, if_pos rfl]
    · have hn := h.node xs' r' (bs ++ ys) (by simp)
      have hne := IsN.ne (xs := xs') (r := r') (ys := bs ++ ys) (n := n) (by simpa using h)
      have h1 := hr r' (by simp)
      rcases snoc_cases bs with rfl | ⟨zs, r, rfl⟩
      · rw [slotOf_snoc, heap_setCell_at (c := #[.int .u64 r'.a, .int .i64 r'.k, .int .u64 r'.d, .pointer (hd ys)]) (by rw [heap_alloc, if_neg h1]; simpa using hn)]
        simp [hd]
      · have h2 : r'.b ≠ (slotOf s (xs' ++ r' :: (zs ++ [r]))).block := by
          rw [show xs' ++ r' :: (zs ++ [r]) = (xs' ++ r' :: zs) ++ [r] by simp, slotOf_snoc]
          exact fun e => hne.2.2 r (by simp) e.symm
        rw [heap_setCell_ne h2, heap_alloc, if_neg h1, hn]
        simp [hd_mid zs r ys (⟨w.heap.size, a, k, d⟩ :: ys)]
  · have hn := h.nodup
    simp only [List.map_append, List.map_cons, List.nodup_cons, List.mem_append, List.mem_cons, not_or, List.nodup_append, List.mem_map, not_exists, not_and] at hn ⊢
    obtain ⟨⟨h1, h2⟩, h4, h5, h6⟩ := hn
    refine ⟨⟨h1, hs, h2⟩, h4, ⟨fun x hx => hr x (by simp [hx]), h5⟩, ?_⟩
    rintro a' ⟨x, hx, rfl⟩ b (rfl | hb)
    · exact hr x (by simp [hx])
    · exact h6 _ ⟨x, hx, rfl⟩ _ hb

/-- a record cut out -/
theorem IsN.cut {w : World} {s : Nat} {xs ys : List Rec} {r : Rec} {n : Int} (h : IsN w s (xs ++ r :: ys) n) :
    IsN (w.setCell (slotOf s xs) (.pointer (hd ys))) s (xs ++ ys) n := by
  have hsub : (xs ++ ys).Sublist (xs ++ r :: ys) := List.Sublist.append_left (List.sublist_cons_self r ys) xs
  refine ⟨?_, ?_, h.nodup.sublist ((hsub.map _).cons_cons s)⟩
  · rcases snoc_cases xs with rfl | ⟨zs, q, rfl⟩
    · simp [heap_setCell, slotOf, h.root]
    · have hne := IsN.ne (xs := zs) (r := q) (ys := r :: ys) (n := n) (by simpa using h)
      rw [slotOf_snoc, heap_setCell_ne hne.1.symm, h.root]
      simp [hd_mid zs q ys (r :: ys)]
  · intro xs' r' ys' he
    rcases List.append_eq_append_iff.1 he with ⟨qs, h1, h2⟩ | ⟨bs, h1, h2⟩
    · -- r' among ys
      subst h1 h2
      have hn := h.node (xs ++ r :: qs) r' ys' (by simp)
      have hne := IsN.ne (xs := xs ++ r :: qs) (r := r') (ys := ys') (n := n) (by simpa using h)
      have h2 : r'.b ≠ (slotOf s xs).block := by
        rcases snoc_cases xs with rfl | ⟨zs, q, rfl⟩
        · exact hne.1
        · rw [slotOf_snoc]; exact fun e => hne.2.1 q (by simp) e.symm
      rw [heap_setCell_ne h2]; exact hn
    · cases bs with
      | nil =>
        simp at h1 h2; subst h1 h2
        have hn := h.node (xs ++ [r]) r' ys' (by simp)
        have hne := IsN.ne (xs := xs ++ [r]) (r := r') (ys := ys') (n := n) (by simpa using h)
        have h2 : r'.b ≠ (slotOf s xs).block := by
          rcases snoc_cases xs with rfl | ⟨zs, q, rfl⟩
          · exact hne.1
          · rw [slotOf_snoc]; exact fun e => hne.2.1 q (by simp) e.symm
        rw [heap_setCell_ne h2]; exact hn
      | cons b bs =>
        simp at h2; obtain ⟨rfl, rfl⟩ := h2
        subst h1
        have hn := h.node xs' r' (bs ++ r :: ys) (by simp)
        have hne := IsN.ne (xs := xs') (r := r') (ys := bs ++ r :: ys) (n := n) (by simpa using h)
        rcases snoc_cases bs with rfl | ⟨zs, q, rfl⟩
        · rw [slotOf_snoc, heap_setCell_at hn]; simp
        · have h2 : r'.b ≠ (slotOf s (xs' ++ r' :: (zs ++ [q]))).block := by
            rw [show xs' ++ r' :: (zs ++ [q]) = (xs' ++ r' :: zs) ++ [q] by simp, slotOf_snoc]
            exact fun e => hne.2.2 q (by simp) e.symm
          rw [heap_setCell_ne h2, hn]
          simp [hd_mid zs q ys (r :: ys)]
end Sp
end Go.Proofs.Ytheadhficajhmaa
