/-
  A span is put: refused.
-/
import Derived.Test.YtanaicjeheacoaaEntry
import Derived.Test.YtanaicjeheacoaaTake
namespace Go.Proofs.Ytanaicjeheacoaa
open Go.RowKit Go.Deep

theorem new_any (w : World) : Calls Try.prog 7 #[] w fun e w' => ∃ s, e = .returned (.pointer (some ⟨s, 0, none⟩)) ∧ Is w' s [] (fun b => w.heap.size ≤ b) ∧ Fr (fun _ => False) w w' := by
  go_enter Try.func7, Try.ntmps7
  go_wp2_with (refine wpList_make_map (by rfl) _ (by rfl) ?_)
  go_ret
  have e1 := size_alloc w (Obj.map #[] 0)
  have e2 := size_alloc (w.alloc (Obj.map #[] 0)) (Obj.map #[] 0)
  have e3 := size_alloc ((w.alloc (Obj.map #[] 0)).alloc (Obj.map #[] 0)) (Obj.map #[] 0)
  refine ⟨_, rfl, ⟨w.heap.size, w.heap.size + 1, w.heap.size + 1 + 1, [], [], [], ⟨⟨?_, ?_, by simp, by simp, by simp, by simp, by simp, by simp, by simp, by simp⟩, ?_, ?_, by simp, by simp, by simp, by omega⟩, fun b hb => ?_⟩, ((((Fr.refl _ w).alloc _).alloc _).alloc _).alloc _⟩
  · rw [heap_alloc, if_pos (by omega)]
  · exact MapIs.new _ (by rw [heap_alloc, if_neg (by omega), heap_alloc, if_pos (by omega)])
  · exact MapIs.new _ (by rw [heap_alloc, if_neg (by omega), heap_alloc, if_neg (by omega), heap_alloc, if_neg (by omega), heap_alloc, if_pos rfl])
  · exact MapIs.new _ (by rw [heap_alloc, if_neg (by omega), heap_alloc, if_neg (by omega), heap_alloc, if_pos (by omega)])
  · rcases hb with hb | hb | hb | hb | ⟨_, hb, _⟩ | ⟨_, _, hb, _⟩
    · omega
    · omega
    · omega
    · omega
    · simp at hb
    · simp at hb

theorem put_arg (s : Nat) (w : World) (id base cls : Int) (np fu sw : Bool) (h : id < 1 ∨ cls < 0 ∨ 68 ≤ cls) :
    Calls Try.prog 8 #[.pointer (some ⟨s, 0, none⟩), .int .i64 id, .int .u64 base, .int .i64 cls, .bool np, .bool fu, .bool sw] w fun e w' => e = .returned (.int .i64 1) ∧ w = w' := by
  by_cases h1 : id < 1
  · clear h
    go_enter Try.func8, Try.ntmps8
    go_wp2
    go_ret
    exact ⟨rfl, rfl⟩
  · by_cases h2 : cls < 0
    · clear h
      go_enter Try.func8, Try.ntmps8
      go_wp2
      go_ret
      exact ⟨rfl, rfl⟩
    · have h3 : 68 ≤ cls := by omega
      clear h
      go_enter Try.func8, Try.ntmps8
      go_wp2
      go_ret
      exact ⟨rfl, rfl⟩

theorem run_id {w : World} {b : Nat} {m : List (Int × Value)} {k : Int} {v : Value} (h : MapIs ienc w b m) (hv : (mapGet m k).getD (.pointer none) = v) :
    (Instr.lookup 49 (.map (some b)) (.int .i64 k) false).run Try.prog w = .ok v w := by
  have := run_map_lookup keyLaw_i Try.underlying49 h k (.pointer none) (zero_item w) false
  simp only [hv, Bool.false_eq_true, if_false] at this
  exact this
theorem run_base {w : World} {b : Nat} {m : List (Int × Value)} {k : Int} {v : Value} (h : MapIs benc w b m) (hv : (mapGet m k).getD (.pointer none) = v) :
    (Instr.lookup 50 (.map (some b)) (.int .u64 k) false).run Try.prog w = .ok v w := by
  have := run_map_lookup keyLaw_b Try.underlying50 h k (.pointer none) (zero_item w) false
  simp only [hv, Bool.false_eq_true, if_false] at this
  exact this

theorem put_twice {s : Nat} {L : List It} {F : Nat → Prop} (w : World) (h0 : Is w s L F) (id base cls : Int) (np fu sw : Bool) (hid : 1 ≤ id) (hc : 0 ≤ cls ∧ cls < 68) (h : ∃ x ∈ L, x.id = id ∨ x.base = base) :
    Calls Try.prog 8 #[.pointer (some ⟨s, 0, none⟩), .int .i64 id, .int .u64 base, .int .i64 cls, .bool np, .bool fu, .bool sw] w fun e w' => e = .returned (.int .i64 34) ∧ w = w' := by
  obtain ⟨m1, m2, m3, i1, i2, i3, H, hF⟩ := h0
  obtain ⟨c1, c2, c3⟩ := blk3 H.core.root
  have n1 : ¬ id < 1 := by omega
  have n2 : ¬ cls < 0 := by omega
  have n3 : ¬ 68 ≤ cls := by omega
  by_cases hx : ∃ x ∈ L, x.id = id
  · obtain ⟨x, hx, rfl⟩ := hx
    have look := run_id H.ids (H.find hx)
    clear H hF h hid hc hx
    go_enter Try.func8, Try.ntmps8
    go_wp2
    go_ret
    exact ⟨rfl, rfl⟩
  · obtain ⟨x, hxL, hxb⟩ : ∃ x ∈ L, x.base = base := by
      obtain ⟨x, h1, h2 | h2⟩ := h
      · exact absurd ⟨x, h1, h2⟩ hx
      · exact ⟨x, h1, h2⟩
    subst hxb
    have look := run_id (k := id) H.ids (H.find_none (fun y hy he => hx ⟨y, hy, he⟩))
    have look2 := run_base H.bases (H.at hxL)
    clear H hF h hid hc hx hxL
    go_enter Try.func8, Try.ntmps8
    go_wp2
    go_ret
    exact ⟨rfl, rfl⟩
end Go.Proofs.Ytanaicjeheacoaa
