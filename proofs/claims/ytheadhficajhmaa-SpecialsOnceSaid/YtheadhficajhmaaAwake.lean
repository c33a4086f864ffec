/-
  'awake' of the statements of package special.
-/
import Derived.Test.YtheadhficajhmaaAct2
namespace Go.Proofs.Ytheadhficajhmaa
open Go.RowKit
open Sp (cells3 cell3 lt isHd Ok)

theorem fp_new {w w' : World} {s : Nat} {xs ys : List Rec} {q : Rec} (h : ∀ b, Sp.fp s (xs ++ ys) b → w.heap.size ≤ b) (hf : Fr (fun _ => False) w w') (hq : q.b = w'.heap.size) : ∀ b, Sp.fp s (xs ++ q :: ys) b → w.heap.size ≤ b := by
  intro b hb
  rcases fp_ins hb with h1 | rfl
  · exact h b h1
  · rw [hq]; exact hf.size
theorem fr_new {w w' w'' : World} {s : Nat} {l : List Rec} (h : ∀ b, Sp.fp s l b → w.heap.size ≤ b) (hf : Fr (fun _ => False) w w') (hg : Fr (Sp.fp s l) w' w'') : Fr (fun _ => False) w w'' :=
  hf.trans hg (fun b hb hfp => by have := h b hfp; omega)

set_option maxHeartbeats 2000000 in
theorem awake_any (w : World) : Calls Try.prog 11 #[] w fun e w' => e = .returned (.bool true) ∧ Fr (fun _ => False) w w' := by
  go_enter Try.func11, Try.ntmps11
  go_wp2_with fail
  refine (Sp.new_any w).mono ?_
  rintro e w1 ⟨rfl, h1, f1⟩
  have g1 : ∀ b, Sp.fp w.heap.size ([] ++ []) b → w.heap.size ≤ b := by rintro b (rfl | ⟨r, hr, _⟩); exact Nat.le_refl _; simp at hr
  replace h1 := Lib.hid h1
  replace f1 := Lib.hid f1
  replace g1 := Lib.hid g1
  go_wp2_with fail
  have k1 := Lib.hid (Sp.add_ok (l := []) (xs := []) (ys := []) 64 2 7 w1 h1.out rfl (Sp.place_of (xs := []) (ys := []) rfl (by simp) (by simp)) (by omega) (by omega) rfl (by simp))
  refine k1.out.mono ?_
  rintro e w2 ⟨rfl, h2, f2⟩
  have g2 := Lib.hid (fp_new (q := ⟨w1.heap.size, 64, 2, 7⟩) g1.out f1.out rfl)
  replace f2 := Lib.hid (fr_new g1.out f1.out f2)
  clear k1 h1 f1 g1
  generalize w1.heap.size = b1 at *
  simp only [List.nil_append] at h2 g2
  replace h2 := Lib.hid h2
  go_wp2_with fail
  have k2 := Lib.hid (Sp.add_ok (xs := []) (ys := [⟨b1, 64, 2, 7⟩]) 64 1 8 w2 h2.out rfl (Sp.place_of (xs := []) (ys := [⟨b1, 64, 2, 7⟩]) rfl (by simp) (by rintro y z ⟨⟩; simp [lt])) (by omega) (by omega) (by simp [isHd]) (by simp))
  refine k2.out.mono ?_
  rintro e w3 ⟨rfl, h3, f3⟩
  have g3 := Lib.hid (fp_new (xs := []) (ys := [⟨b1, 64, 2, 7⟩]) (q := ⟨w2.heap.size, 64, 1, 8⟩) g2.out f2.out rfl)
  replace f3 := Lib.hid (fr_new g2.out f2.out f3)
  clear k2 h2 f2 g2
  generalize w2.heap.size = b2 at *
  simp only [List.nil_append] at h3 g3
  replace h3 := Lib.hid h3
  go_wp2_with fail
  have k3 := Lib.hid (Sp.add_ok (xs := []) (ys := [⟨b2, 64, 1, 8⟩, ⟨b1, 64, 2, 7⟩]) 8 3 9 w3 h3.out rfl (Sp.place_of (xs := []) (ys := [⟨b2, 64, 1, 8⟩, ⟨b1, 64, 2, 7⟩]) rfl (by simp) (by rintro y z ⟨⟩; simp [lt])) (by omega) (by omega) (by simp [isHd]) (by simp))
  refine k3.out.mono ?_
  rintro e w4 ⟨rfl, h4, f4⟩
  have g4 := Lib.hid (fp_new (xs := []) (ys := [⟨b2, 64, 1, 8⟩, ⟨b1, 64, 2, 7⟩]) (q := ⟨w3.heap.size, 8, 3, 9⟩) g3.out f3.out rfl)
  replace f4 := Lib.hid (fr_new g3.out f3.out f4)
  clear k3 h3 f3 g3
  generalize w3.heap.size = b3 at *
  simp only [List.nil_append] at h4 g4
  replace h4 := Lib.hid h4
  go_wp2_with fail
  have k4 := Sp.of_any (l := [⟨b3, 8, 3, 9⟩, ⟨b2, 64, 1, 8⟩, ⟨b1, 64, 2, 7⟩]) (xs := [⟨b3, 8, 3, 9⟩]) (ys := [⟨b2, 64, 1, 8⟩, ⟨b1, 64, 2, 7⟩]) 64 w4 h4.out rfl (Sp.place_of (xs := [⟨b3, 8, 3, 9⟩]) (ys := [⟨b2, 64, 1, 8⟩, ⟨b1, 64, 2, 7⟩]) rfl (by simp [lt]) (by rintro y z ⟨⟩; simp [lt])) (by simp)
  simp only [List.takeWhile_cons, List.takeWhile_nil, beq_self_eq_true, if_true, List.length_cons, List.length_nil, Nat.zero_add, Nat.reduceAdd] at k4
  replace k4 := Lib.hid k4
  refine k4.out.mono ?_
  rintro e w5 ⟨va, vc, rfl, ho, f5⟩
  have h5 := Lib.hid (Sp.nodes_keep h4.out f5)
  obtain ⟨g, rfl, hg, c0, c1, c2⟩ := Rf.row_cells (l := [⟨b2, 64, 1, 8⟩, ⟨b1, 64, 2, 7⟩]) ho rfl (i := 0) (x := ⟨b2, 64, 1, 8⟩) rfl
  obtain ⟨g', hgg, _, d0, d1, d2⟩ := Rf.row_cells (l := [⟨b2, 64, 1, 8⟩, ⟨b1, 64, 2, 7⟩]) ho rfl (i := 1) (x := ⟨b1, 64, 2, 7⟩) rfl
  cases hgg
  have hglt := (ho.lt g rfl).2
  have fl := Lib.hid (Sp.fp_lt h4.out)
  replace f5 := Lib.hid (f4.out.trans f5 (fun _ _ x => x))
  clear k4 h4 f4 ho d0 d2
  go_wp2_with fail
  have k5 := Lib.hid (Sp.remove_ok (xs := [⟨b3, 8, 3, 9⟩]) (r := ⟨b2, 64, 1, 8⟩) (ys := [⟨b1, 64, 2, 7⟩]) 64 1 w5 h5.out rfl (Sp.place_of (xs := [⟨b3, 8, 3, 9⟩]) (ys := [⟨b2, 64, 1, 8⟩, ⟨b1, 64, 2, 7⟩]) rfl (by simp [lt]) (by rintro y z ⟨⟩; simp [lt])) (by simp [isHd]) (by simp))
  refine k5.out.mono ?_
  rintro e w6 ⟨rfl, h6, f6⟩
  have e6 := f6.same g hglt (fun hf => by have := fl.out _ hf; omega)
  simp only [Nat.zero_mul, Nat.one_mul, Nat.zero_add, Nat.reduceAdd] at c0 c1 c2 d1
  replace c0 := (World.cell?_of_block (w := w5) (w' := w6) (a := ⟨g, 0, none⟩) e6).trans c0
  replace c1 := (World.cell?_of_block (w := w5) (w' := w6) (a := ⟨g, 1, none⟩) e6).trans c1
  replace c2 := (World.cell?_of_block (w := w5) (w' := w6) (a := ⟨g, 2, none⟩) e6).trans c2
  replace d1 := (World.cell?_of_block (w := w5) (w' := w6) (a := ⟨g, 4, none⟩) e6).trans d1
  have hcnt := Lib.hid (Sp.count_any w6 h6)
  have harg := Lib.hid (Sp.add_arg w.heap.size 64 4 0 w6 (by omega))
  replace f6 := Lib.hid (fr_new g4.out f5.out f6)
  clear k5 h5 f5 g4 h6 e6 fl hg hglt
  go_wp2_with (first | (go_at_call 13; refine hcnt.out.mono ?_; rintro e w' ⟨rfl, rfl⟩) | (go_at_call 8; refine harg.out.mono ?_; rintro e w' ⟨rfl, rfl⟩))
  go_ret
  exact ⟨rfl, f6.out⟩
end Go.Proofs.Ytheadhficajhmaa
