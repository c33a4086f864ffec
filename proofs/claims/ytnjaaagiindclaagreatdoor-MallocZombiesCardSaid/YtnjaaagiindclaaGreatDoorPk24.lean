/-
  Part 24 of what the statement leans on: Lzo, Wt0, Wn, Aw, Zl.
-/
import Derived.Test.YtnjaaagiindclaaGreatDoorPk15
import Derived.Test.YtnjaaagiindclaaGreatDoorPk16
import Derived.Test.YtnjaaagiindclaaGreatDoorPk23
/-
  MallocZombies, where the count or the size is out of its range. No condition.
-/
namespace Go.Proofs.YtnjaaagiindclaaGreatDoor
open Go.RowKit Go.Deep
attribute [local go_sem] Oper.semAt_some
set_option maxRecDepth 100000 in
set_option maxHeartbeats 4000000 in
theorem law_zout (n : Int) (N : Nat) (c : Int) (h : ¬ (1 ≤ n ∧ n ≤ 20 ∧ 16 ≤ N ∧ N ≤ 2048)) (w : World) :
    Calls Tryz.prog 5 #[.int .i64 n, .int .u64 (N : Int), .int .i64 c] w fun e w' => e = .returned (.bool true) ∧ Fr (fun _ => False) w w' := by
  by_cases h1 : n < 1
  · have g1 : decide (n < 1) = true := by simp [h1]
    clear h
    go_enter Tryz.func5, Tryz.ntmps5
    go_wp2_with fail
    all_goals (refine ⟨rfl, .bool true, ?_, rfl, .refl _ _⟩; first | rfl | (simp [go_sem, results]; done) | (go_simp; done))
  · have g1 : decide (n < 1) = false := by simp [h1]
    by_cases h2 : n > 20
    · have g2 : decide (n > 20) = true := by simp [h2]
      clear h
      go_enter Tryz.func5, Tryz.ntmps5
      go_wp2_with fail
      all_goals (refine ⟨rfl, .bool true, ?_, rfl, .refl _ _⟩; first | rfl | (simp [go_sem, results]; done) | (go_simp; done))
    · have g2 : decide (n > 20) = false := by simp [h2]
      by_cases h3 : N < 16
      · have g3 : decide ((N : Int) < 16) = true := by simp; omega
        clear h
        go_enter Tryz.func5, Tryz.ntmps5
        go_wp2_with fail
        all_goals (refine ⟨rfl, .bool true, ?_, rfl, .refl _ _⟩; first | rfl | (simp [go_sem, results]; done) | (go_simp; done))
      · have g3 : decide ((N : Int) < 16) = false := by simp; omega
        have g4 : decide ((N : Int) > 2048) = true := by simp; omega
        have g5 : 2048 < N := by omega
        clear h
        go_enter Tryz.func5, Tryz.ntmps5
        go_wp2_with fail
        all_goals (refine ⟨rfl, .bool true, ?_, rfl, .refl _ _⟩; first | rfl | (simp [go_sem, results]; done) | (go_simp; done))
end Go.Proofs.YtnjaaagiindclaaGreatDoor

/-
  Wants, of sixteen bytes. No condition.
-/
namespace Go.Proofs.YtnjaaagiindclaaGreatDoor
open Go.RowKit Go.Deep
namespace SX
theorem askA_ok' {z : Int} {lo hi : Nat} (h1 : (lo : Int) < z) (h2 : z ≤ hi) (h3 : 15 ≤ lo) (h4 : hi ≤ 32768) : allT (askA z) := by
  refine ⟨trivial, ?_, trivial, ?_, trivial, ?_, trivial, ?_, trivial, ?_, ⟨by omega, by omega⟩, trivial, ?_, trivial, ?_, trivial⟩
  · rw [beq_eq_false_iff_ne]; omega
  all_goals simp
  all_goals omega
theorem want_call' {P : Program} {𝔅 : BigRep} {f : FuncId} {sp : Spec} (hs : SpecEnters P 𝔅 f sp) {k lo hi pages : Nat} {c : List (Int × Bool)} (ht : WantIs sp k pages c) (hc : c.all (fun p => if p.2 then decide (p.1 ≤ lo) else decide ((hi : Int) ≤ p.1)) = true) (h16 : 15 ≤ lo) (hhi : hi ≤ 32768)
    {g : Nat} (h1 : lo < g) (h2 : g ≤ hi) {vs : Array Value} (hv : RelL (fun _ => none) [.agg (callL (.i .u64 (g : Int)))] vs.toList) {C : Ctx} (hB : C.B = 𝔅) {ρ : Ren} {h : Heap} {w : World} (H : Holds C ρ h w) :
    Calls P f vs w fun e w' => ∃ v, e = .returned v ∧ SV.Rel ρ (wantV k pages) v ∧ Holds C ρ h w' :=
  dry_call hs hv rfl (ways_eq (ht (g : Int)) (allT_app (allT_app (askA_ok' (by omega) (by omega) h16 hhi) (askS_ok (by omega) (by omega) hc)) ⟨⟨rfl, rfl⟩, trivial⟩)) hB H
set_option maxRecDepth 10000 in
theorem spWant_ok' {W : World} {k lo hi pages : Nat} {c : List (Int × Bool)} (ht : WantIs wantS k pages c) (hc : c.all (fun p => if p.2 then decide (p.1 ≤ lo) else decide ((hi : Int) ≤ p.1)) = true) (h16 : 15 ≤ lo) (hhi : hi ≤ 32768) :
    SpecEnters Tryz.prog (numB W lo hi) 103 (spWant k pages) where
  enter := enter_of Tryz.func103 (bodyOf_eq (by kernel_rfl)) (by kernel_rfl)
  calls := by
    intro C Q args h n K hB hk ρ w vs hv hH hbd
    unfold spWant at hk
    split at hk <;> try exact hk.elim
    split at hk <;> try exact hk.elim
    split at hk <;> try exact hk.elim
    split at hk <;> try exact hk.elim
    split at hk <;> try exact hk.elim
    split at hk <;> try exact hk.elim
    rename_i x0 l s i hl hb oo o ho hbig
    have hl' := beqL_eq _ _ hb
    have ho' := bigO_is hbig
    subst ho'
    obtain ⟨G, R', ⟨g, hg, hG⟩, _, _⟩ := hH.focus ho
    rw [hB] at hG
    obtain ⟨rfl, h1, h2⟩ := hG
    obtain ⟨v1, us, e1, hx, hus⟩ := hv
    have hus' : us = [] := hus
    subst hus'
    simp only [SV.Rel] at hx
    obtain ⟨cs, rfl, hcs⟩ := hx
    rw [hl'] at hcs
    have hcs2 : RelL (fun _ => none) (callL (.i .u64 (g : Int))) cs.toList := by
      simp only [callL, RelL, SV.Rel] at hcs ⊢
      obtain ⟨a0, r0, e0, rfl, a1, r1, rfl, rfl, a2, r2, rfl, ⟨g2, hg2, rfl⟩, r⟩ := hcs
      have e3 : g2 = g := by rw [hg] at hg2; exact (Option.some.inj hg2).symm
      subst e3
      exact ⟨_, _, e0, rfl, _, _, rfl, rfl, _, _, rfl, rfl, r⟩
    refine (want_call' (wantS_ok _) ht hc h16 hhi h1 h2 (vs := vs) ?_ hB hH).mono ?_
    · rw [e1]
      exact .cons (by simp only [SV.Rel]; exact ⟨cs, rfl, hcs2⟩) .nil
    · rintro e w' ⟨v, rfl, hv, hH'⟩
      exact ⟨true, v, wantV k pages, h, n, ρ, rfl, hv, hH', .refl _, hbd, hk⟩
set_option maxRecDepth 100000
theorem wantIs2 : WantIs wantS 2 1 [(1280, false), (240, false), (112, false), (48, false), (24, false), (16, false), (8, true)] := fun z => by kernel_rfl
theorem want2_ok (W : World) : SpecEnters Tryz.prog (numB W 15 16) 103 (spWant 2 1) := spWant_ok' wantIs2 (by decide) (by decide) (by decide)
end SX
end Go.Proofs.YtnjaaagiindclaaGreatDoor

/-
  Wants, class by class.
-/
namespace Go.Proofs.YtnjaaagiindclaaGreatDoor
open Go.RowKit Go.Deep
namespace SX
set_option maxRecDepth 100000
theorem wantIs3 : WantIs wantS 3 1 [(1280, false), (240, false), (112, false), (48, false), (24, false), (16, true)] := fun z => by kernel_rfl
theorem want3_ok (W : World) : SpecEnters Tryz.prog (numB W 16 24) 103 (spWant 3 1) := spWant_ok wantIs3 (by decide) (by decide) (by decide)
theorem wantIs4 : WantIs wantS 4 1 [(1280, false), (240, false), (112, false), (48, false), (24, true), (32, false)] := fun z => by kernel_rfl
theorem want4_ok (W : World) : SpecEnters Tryz.prog (numB W 24 32) 103 (spWant 4 1) := spWant_ok wantIs4 (by decide) (by decide) (by decide)
theorem wantIs5 : WantIs wantS 5 1 [(1280, false), (240, false), (112, false), (48, false), (24, true), (32, true)] := fun z => by kernel_rfl
theorem want5_ok (W : World) : SpecEnters Tryz.prog (numB W 32 48) 103 (spWant 5 1) := spWant_ok wantIs5 (by decide) (by decide) (by decide)
theorem wantIs6 : WantIs wantS 6 1 [(1280, false), (240, false), (112, false), (48, true), (80, false), (64, false)] := fun z => by kernel_rfl
theorem want6_ok (W : World) : SpecEnters Tryz.prog (numB W 48 64) 103 (spWant 6 1) := spWant_ok wantIs6 (by decide) (by decide) (by decide)
theorem wantIs7 : WantIs wantS 7 1 [(1280, false), (240, false), (112, false), (48, true), (80, false), (64, true)] := fun z => by kernel_rfl
theorem want7_ok (W : World) : SpecEnters Tryz.prog (numB W 64 80) 103 (spWant 7 1) := spWant_ok wantIs7 (by decide) (by decide) (by decide)
theorem wantIs8 : WantIs wantS 8 1 [(1280, false), (240, false), (112, false), (48, true), (80, true), (96, false)] := fun z => by kernel_rfl
theorem want8_ok (W : World) : SpecEnters Tryz.prog (numB W 80 96) 103 (spWant 8 1) := spWant_ok wantIs8 (by decide) (by decide) (by decide)
theorem wantIs9 : WantIs wantS 9 1 [(1280, false), (240, false), (112, false), (48, true), (80, true), (96, true)] := fun z => by kernel_rfl
theorem want9_ok (W : World) : SpecEnters Tryz.prog (numB W 96 112) 103 (spWant 9 1) := spWant_ok wantIs9 (by decide) (by decide) (by decide)
theorem wantIs10 : WantIs wantS 10 1 [(1280, false), (240, false), (112, true), (176, false), (144, false), (128, false)] := fun z => by kernel_rfl
theorem want10_ok (W : World) : SpecEnters Tryz.prog (numB W 112 128) 103 (spWant 10 1) := spWant_ok wantIs10 (by decide) (by decide) (by decide)
theorem wantIs11 : WantIs wantS 11 1 [(1280, false), (240, false), (112, true), (176, false), (144, false), (128, true)] := fun z => by kernel_rfl
theorem want11_ok (W : World) : SpecEnters Tryz.prog (numB W 128 144) 103 (spWant 11 1) := spWant_ok wantIs11 (by decide) (by decide) (by decide)
theorem wantIs12 : WantIs wantS 12 1 [(1280, false), (240, false), (112, true), (176, false), (144, true), (160, false)] := fun z => by kernel_rfl
theorem want12_ok (W : World) : SpecEnters Tryz.prog (numB W 144 160) 103 (spWant 12 1) := spWant_ok wantIs12 (by decide) (by decide) (by decide)
theorem wantIs13 : WantIs wantS 13 1 [(1280, false), (240, false), (112, true), (176, false), (144, true), (160, true)] := fun z => by kernel_rfl
theorem want13_ok (W : World) : SpecEnters Tryz.prog (numB W 160 176) 103 (spWant 13 1) := spWant_ok wantIs13 (by decide) (by decide) (by decide)
theorem wantIs14 : WantIs wantS 14 1 [(1280, false), (240, false), (112, true), (176, true), (208, false), (192, false)] := fun z => by kernel_rfl
theorem want14_ok (W : World) : SpecEnters Tryz.prog (numB W 176 192) 103 (spWant 14 1) := spWant_ok wantIs14 (by decide) (by decide) (by decide)
theorem wantIs15 : WantIs wantS 15 1 [(1280, false), (240, false), (112, true), (176, true), (208, false), (192, true)] := fun z => by kernel_rfl
theorem want15_ok (W : World) : SpecEnters Tryz.prog (numB W 192 208) 103 (spWant 15 1) := spWant_ok wantIs15 (by decide) (by decide) (by decide)
theorem wantIs16 : WantIs wantS 16 1 [(1280, false), (240, false), (112, true), (176, true), (208, true), (224, false)] := fun z => by kernel_rfl
theorem want16_ok (W : World) : SpecEnters Tryz.prog (numB W 208 224) 103 (spWant 16 1) := spWant_ok wantIs16 (by decide) (by decide) (by decide)
theorem wantIs17 : WantIs wantS 17 1 [(1280, false), (240, false), (112, true), (176, true), (208, true), (224, true)] := fun z => by kernel_rfl
theorem want17_ok (W : World) : SpecEnters Tryz.prog (numB W 224 240) 103 (spWant 17 1) := spWant_ok wantIs17 (by decide) (by decide) (by decide)
theorem wantIs18 : WantIs wantS 18 1 [(1280, false), (240, true), (512, false), (384, false), (320, false), (288, false), (256, false)] := fun z => by kernel_rfl
theorem want18_ok (W : World) : SpecEnters Tryz.prog (numB W 240 256) 103 (spWant 18 1) := spWant_ok wantIs18 (by decide) (by decide) (by decide)
theorem wantIs19 : WantIs wantS 19 1 [(1280, false), (240, true), (512, false), (384, false), (320, false), (288, false), (256, true)] := fun z => by kernel_rfl
theorem want19_ok (W : World) : SpecEnters Tryz.prog (numB W 256 288) 103 (spWant 19 1) := spWant_ok wantIs19 (by decide) (by decide) (by decide)
theorem wantIs20 : WantIs wantS 20 1 [(1280, false), (240, true), (512, false), (384, false), (320, false), (288, true)] := fun z => by kernel_rfl
theorem want20_ok (W : World) : SpecEnters Tryz.prog (numB W 288 320) 103 (spWant 20 1) := spWant_ok wantIs20 (by decide) (by decide) (by decide)
theorem wantIs21 : WantIs wantS 21 1 [(1280, false), (240, true), (512, false), (384, false), (320, true), (352, false)] := fun z => by kernel_rfl
theorem want21_ok (W : World) : SpecEnters Tryz.prog (numB W 320 352) 103 (spWant 21 1) := spWant_ok wantIs21 (by decide) (by decide) (by decide)
theorem wantIs22 : WantIs wantS 22 1 [(1280, false), (240, true), (512, false), (384, false), (320, true), (352, true)] := fun z => by kernel_rfl
theorem want22_ok (W : World) : SpecEnters Tryz.prog (numB W 352 384) 103 (spWant 22 1) := spWant_ok wantIs22 (by decide) (by decide) (by decide)
theorem wantIs23 : WantIs wantS 23 1 [(1280, false), (240, true), (512, false), (384, true), (448, false), (416, false)] := fun z => by kernel_rfl
theorem want23_ok (W : World) : SpecEnters Tryz.prog (numB W 384 416) 103 (spWant 23 1) := spWant_ok wantIs23 (by decide) (by decide) (by decide)
theorem wantIs24 : WantIs wantS 24 1 [(1280, false), (240, true), (512, false), (384, true), (448, false), (416, true)] := fun z => by kernel_rfl
theorem want24_ok (W : World) : SpecEnters Tryz.prog (numB W 416 448) 103 (spWant 24 1) := spWant_ok wantIs24 (by decide) (by decide) (by decide)
theorem wantIs25 : WantIs wantS 25 1 [(1280, false), (240, true), (512, false), (384, true), (448, true), (480, false)] := fun z => by kernel_rfl
theorem want25_ok (W : World) : SpecEnters Tryz.prog (numB W 448 480) 103 (spWant 25 1) := spWant_ok wantIs25 (by decide) (by decide) (by decide)
theorem wantIs26 : WantIs wantS 26 1 [(1280, false), (240, true), (512, false), (384, true), (448, true), (480, true)] := fun z => by kernel_rfl
theorem want26_ok (W : World) : SpecEnters Tryz.prog (numB W 480 512) 103 (spWant 26 1) := spWant_ok wantIs26 (by decide) (by decide) (by decide)
theorem wantIs27 : WantIs wantS 27 1 [(1280, false), (240, true), (512, true), (768, false), (640, false), (576, false)] := fun z => by kernel_rfl
theorem want27_ok (W : World) : SpecEnters Tryz.prog (numB W 512 576) 103 (spWant 27 1) := spWant_ok wantIs27 (by decide) (by decide) (by decide)
theorem wantIs28 : WantIs wantS 28 1 [(1280, false), (240, true), (512, true), (768, false), (640, false), (576, true)] := fun z => by kernel_rfl
theorem want28_ok (W : World) : SpecEnters Tryz.prog (numB W 576 640) 103 (spWant 28 1) := spWant_ok wantIs28 (by decide) (by decide) (by decide)
theorem wantIs29 : WantIs wantS 29 1 [(1280, false), (240, true), (512, true), (768, false), (640, true), (704, false)] := fun z => by kernel_rfl
theorem want29_ok (W : World) : SpecEnters Tryz.prog (numB W 640 704) 103 (spWant 29 1) := spWant_ok wantIs29 (by decide) (by decide) (by decide)
theorem wantIs30 : WantIs wantS 30 1 [(1280, false), (240, true), (512, true), (768, false), (640, true), (704, true)] := fun z => by kernel_rfl
theorem want30_ok (W : World) : SpecEnters Tryz.prog (numB W 704 768) 103 (spWant 30 1) := spWant_ok wantIs30 (by decide) (by decide) (by decide)
theorem wantIs31 : WantIs wantS 31 1 [(1280, false), (240, true), (512, true), (768, true), (1024, false), (896, false)] := fun z => by kernel_rfl
theorem want31_ok (W : World) : SpecEnters Tryz.prog (numB W 768 896) 103 (spWant 31 1) := spWant_ok wantIs31 (by decide) (by decide) (by decide)
theorem wantIs32 : WantIs wantS 32 1 [(1280, false), (240, true), (512, true), (768, true), (1024, false), (896, true)] := fun z => by kernel_rfl
theorem want32_ok (W : World) : SpecEnters Tryz.prog (numB W 896 1024) 103 (spWant 32 1) := spWant_ok wantIs32 (by decide) (by decide) (by decide)
theorem wantIs33 : WantIs wantS 33 1 [(1280, false), (240, true), (512, true), (768, true), (1024, true), (1152, false)] := fun z => by kernel_rfl
theorem want33_ok (W : World) : SpecEnters Tryz.prog (numB W 1024 1152) 103 (spWant 33 1) := spWant_ok wantIs33 (by decide) (by decide) (by decide)
theorem wantIs34 : WantIs wantS 34 1 [(1280, false), (240, true), (512, true), (768, true), (1024, true), (1152, true)] := fun z => by kernel_rfl
theorem want34_ok (W : World) : SpecEnters Tryz.prog (numB W 1152 1280) 103 (spWant 34 1) := spWant_ok wantIs34 (by decide) (by decide) (by decide)
theorem wantIs35 : WantIs wantS 35 2 [(1280, true), (8192, false), (3456, false), (2304, false), (1792, false), (1536, false), (1408, false)] := fun z => by kernel_rfl
theorem want35_ok (W : World) : SpecEnters Tryz.prog (numB W 1280 1408) 103 (spWant 35 2) := spWant_ok wantIs35 (by decide) (by decide) (by decide)
theorem wantIs36 : WantIs wantS 36 1 [(1280, true), (8192, false), (3456, false), (2304, false), (1792, false), (1536, false), (1408, true)] := fun z => by kernel_rfl
theorem want36_ok (W : World) : SpecEnters Tryz.prog (numB W 1408 1536) 103 (spWant 36 1) := spWant_ok wantIs36 (by decide) (by decide) (by decide)
theorem wantIs37 : WantIs wantS 37 2 [(1280, true), (8192, false), (3456, false), (2304, false), (1792, false), (1536, true)] := fun z => by kernel_rfl
theorem want37_ok (W : World) : SpecEnters Tryz.prog (numB W 1536 1792) 103 (spWant 37 2) := spWant_ok wantIs37 (by decide) (by decide) (by decide)
theorem wantIs38 : WantIs wantS 38 1 [(1280, true), (8192, false), (3456, false), (2304, false), (1792, true), (2048, false)] := fun z => by kernel_rfl
theorem want38_ok (W : World) : SpecEnters Tryz.prog (numB W 1792 2048) 103 (spWant 38 1) := spWant_ok wantIs38 (by decide) (by decide) (by decide)
theorem wantIs39 : WantIs wantS 39 2 [(1280, true), (8192, false), (3456, false), (2304, false), (1792, true), (2048, true)] := fun z => by kernel_rfl
theorem want39_ok (W : World) : SpecEnters Tryz.prog (numB W 2048 2304) 103 (spWant 39 2) := spWant_ok wantIs39 (by decide) (by decide) (by decide)
theorem wantIs40 : WantIs wantS 40 1 [(1280, true), (8192, false), (3456, false), (2304, true), (3072, false), (2688, false)] := fun z => by kernel_rfl
theorem want40_ok (W : World) : SpecEnters Tryz.prog (numB W 2304 2688) 103 (spWant 40 1) := spWant_ok wantIs40 (by decide) (by decide) (by decide)
theorem wantIs41 : WantIs wantS 41 3 [(1280, true), (8192, false), (3456, false), (2304, true), (3072, false), (2688, true)] := fun z => by kernel_rfl
theorem want41_ok (W : World) : SpecEnters Tryz.prog (numB W 2688 3072) 103 (spWant 41 3) := spWant_ok wantIs41 (by decide) (by decide) (by decide)
theorem wantIs42 : WantIs wantS 42 2 [(1280, true), (8192, false), (3456, false), (2304, true), (3072, true), (3200, false)] := fun z => by kernel_rfl
theorem want42_ok (W : World) : SpecEnters Tryz.prog (numB W 3072 3200) 103 (spWant 42 2) := spWant_ok wantIs42 (by decide) (by decide) (by decide)
theorem wantIs43 : WantIs wantS 43 3 [(1280, true), (8192, false), (3456, false), (2304, true), (3072, true), (3200, true)] := fun z => by kernel_rfl
theorem want43_ok (W : World) : SpecEnters Tryz.prog (numB W 3200 3456) 103 (spWant 43 3) := spWant_ok wantIs43 (by decide) (by decide) (by decide)
theorem wantIs44 : WantIs wantS 44 1 [(1280, true), (8192, false), (3456, true), (6144, false), (4864, false), (4096, false)] := fun z => by kernel_rfl
theorem want44_ok (W : World) : SpecEnters Tryz.prog (numB W 3456 4096) 103 (spWant 44 1) := spWant_ok wantIs44 (by decide) (by decide) (by decide)
theorem wantIs45 : WantIs wantS 45 3 [(1280, true), (8192, false), (3456, true), (6144, false), (4864, false), (4096, true)] := fun z => by kernel_rfl
theorem want45_ok (W : World) : SpecEnters Tryz.prog (numB W 4096 4864) 103 (spWant 45 3) := spWant_ok wantIs45 (by decide) (by decide) (by decide)
theorem wantIs46 : WantIs wantS 46 2 [(1280, true), (8192, false), (3456, true), (6144, false), (4864, true), (5376, false)] := fun z => by kernel_rfl
theorem want46_ok (W : World) : SpecEnters Tryz.prog (numB W 4864 5376) 103 (spWant 46 2) := spWant_ok wantIs46 (by decide) (by decide) (by decide)
theorem wantIs47 : WantIs wantS 47 3 [(1280, true), (8192, false), (3456, true), (6144, false), (4864, true), (5376, true)] := fun z => by kernel_rfl
theorem want47_ok (W : World) : SpecEnters Tryz.prog (numB W 5376 6144) 103 (spWant 47 3) := spWant_ok wantIs47 (by decide) (by decide) (by decide)
theorem wantIs48 : WantIs wantS 48 4 [(1280, true), (8192, false), (3456, true), (6144, true), (6784, false), (6528, false)] := fun z => by kernel_rfl
theorem want48_ok (W : World) : SpecEnters Tryz.prog (numB W 6144 6528) 103 (spWant 48 4) := spWant_ok wantIs48 (by decide) (by decide) (by decide)
theorem wantIs49 : WantIs wantS 49 5 [(1280, true), (8192, false), (3456, true), (6144, true), (6784, false), (6528, true)] := fun z => by kernel_rfl
theorem want49_ok (W : World) : SpecEnters Tryz.prog (numB W 6528 6784) 103 (spWant 49 5) := spWant_ok wantIs49 (by decide) (by decide) (by decide)
theorem wantIs50 : WantIs wantS 50 6 [(1280, true), (8192, false), (3456, true), (6144, true), (6784, true), (6912, false)] := fun z => by kernel_rfl
theorem want50_ok (W : World) : SpecEnters Tryz.prog (numB W 6784 6912) 103 (spWant 50 6) := spWant_ok wantIs50 (by decide) (by decide) (by decide)
theorem wantIs51 : WantIs wantS 51 1 [(1280, true), (8192, false), (3456, true), (6144, true), (6784, true), (6912, true)] := fun z => by kernel_rfl
theorem want51_ok (W : World) : SpecEnters Tryz.prog (numB W 6912 8192) 103 (spWant 51 1) := spWant_ok wantIs51 (by decide) (by decide) (by decide)
theorem wantIs52 : WantIs wantS 52 7 [(1280, true), (8192, true), (18432, false), (12288, false), (10240, false), (9728, false), (9472, false)] := fun z => by kernel_rfl
theorem want52_ok (W : World) : SpecEnters Tryz.prog (numB W 8192 9472) 103 (spWant 52 7) := spWant_ok wantIs52 (by decide) (by decide) (by decide)
theorem wantIs53 : WantIs wantS 53 6 [(1280, true), (8192, true), (18432, false), (12288, false), (10240, false), (9728, false), (9472, true)] := fun z => by kernel_rfl
theorem want53_ok (W : World) : SpecEnters Tryz.prog (numB W 9472 9728) 103 (spWant 53 6) := spWant_ok wantIs53 (by decide) (by decide) (by decide)
theorem wantIs54 : WantIs wantS 54 5 [(1280, true), (8192, true), (18432, false), (12288, false), (10240, false), (9728, true)] := fun z => by kernel_rfl
theorem want54_ok (W : World) : SpecEnters Tryz.prog (numB W 9728 10240) 103 (spWant 54 5) := spWant_ok wantIs54 (by decide) (by decide) (by decide)
theorem wantIs55 : WantIs wantS 55 4 [(1280, true), (8192, true), (18432, false), (12288, false), (10240, true), (10880, false)] := fun z => by kernel_rfl
theorem want55_ok (W : World) : SpecEnters Tryz.prog (numB W 10240 10880) 103 (spWant 55 4) := spWant_ok wantIs55 (by decide) (by decide) (by decide)
theorem wantIs56 : WantIs wantS 56 3 [(1280, true), (8192, true), (18432, false), (12288, false), (10240, true), (10880, true)] := fun z => by kernel_rfl
theorem want56_ok (W : World) : SpecEnters Tryz.prog (numB W 10880 12288) 103 (spWant 56 3) := spWant_ok wantIs56 (by decide) (by decide) (by decide)
theorem wantIs57 : WantIs wantS 57 5 [(1280, true), (8192, true), (18432, false), (12288, true), (14336, false), (13568, false)] := fun z => by kernel_rfl
theorem want57_ok (W : World) : SpecEnters Tryz.prog (numB W 12288 13568) 103 (spWant 57 5) := spWant_ok wantIs57 (by decide) (by decide) (by decide)
theorem wantIs58 : WantIs wantS 58 7 [(1280, true), (8192, true), (18432, false), (12288, true), (14336, false), (13568, true)] := fun z => by kernel_rfl
theorem want58_ok (W : World) : SpecEnters Tryz.prog (numB W 13568 14336) 103 (spWant 58 7) := spWant_ok wantIs58 (by decide) (by decide) (by decide)
theorem wantIs59 : WantIs wantS 59 2 [(1280, true), (8192, true), (18432, false), (12288, true), (14336, true), (16384, false)] := fun z => by kernel_rfl
theorem want59_ok (W : World) : SpecEnters Tryz.prog (numB W 14336 16384) 103 (spWant 59 2) := spWant_ok wantIs59 (by decide) (by decide) (by decide)
theorem wantIs60 : WantIs wantS 60 9 [(1280, true), (8192, true), (18432, false), (12288, true), (14336, true), (16384, true)] := fun z => by kernel_rfl
theorem want60_ok (W : World) : SpecEnters Tryz.prog (numB W 16384 18432) 103 (spWant 60 9) := spWant_ok wantIs60 (by decide) (by decide) (by decide)
theorem wantIs61 : WantIs wantS 61 7 [(1280, true), (8192, true), (18432, true), (24576, false), (20480, false), (19072, false)] := fun z => by kernel_rfl
theorem want61_ok (W : World) : SpecEnters Tryz.prog (numB W 18432 19072) 103 (spWant 61 7) := spWant_ok wantIs61 (by decide) (by decide) (by decide)
theorem wantIs62 : WantIs wantS 62 5 [(1280, true), (8192, true), (18432, true), (24576, false), (20480, false), (19072, true)] := fun z => by kernel_rfl
theorem want62_ok (W : World) : SpecEnters Tryz.prog (numB W 19072 20480) 103 (spWant 62 5) := spWant_ok wantIs62 (by decide) (by decide) (by decide)
theorem wantIs63 : WantIs wantS 63 8 [(1280, true), (8192, true), (18432, true), (24576, false), (20480, true), (21760, false)] := fun z => by kernel_rfl
theorem want63_ok (W : World) : SpecEnters Tryz.prog (numB W 20480 21760) 103 (spWant 63 8) := spWant_ok wantIs63 (by decide) (by decide) (by decide)
theorem wantIs64 : WantIs wantS 64 3 [(1280, true), (8192, true), (18432, true), (24576, false), (20480, true), (21760, true)] := fun z => by kernel_rfl
theorem want64_ok (W : World) : SpecEnters Tryz.prog (numB W 21760 24576) 103 (spWant 64 3) := spWant_ok wantIs64 (by decide) (by decide) (by decide)
theorem wantIs65 : WantIs wantS 65 10 [(1280, true), (8192, true), (18432, true), (24576, true), (28672, false), (27264, false)] := fun z => by kernel_rfl
theorem want65_ok (W : World) : SpecEnters Tryz.prog (numB W 24576 27264) 103 (spWant 65 10) := spWant_ok wantIs65 (by decide) (by decide) (by decide)
theorem wantIs66 : WantIs wantS 66 7 [(1280, true), (8192, true), (18432, true), (24576, true), (28672, false), (27264, true)] := fun z => by kernel_rfl
theorem want66_ok (W : World) : SpecEnters Tryz.prog (numB W 27264 28672) 103 (spWant 66 7) := spWant_ok wantIs66 (by decide) (by decide) (by decide)
theorem wantIs67 : WantIs wantS 67 4 [(1280, true), (8192, true), (18432, true), (24576, true), (28672, true), (32768, false)] := fun z => by kernel_rfl
theorem want67_ok (W : World) : SpecEnters Tryz.prog (numB W 28672 32768) 103 (spWant 67 4) := spWant_ok wantIs67 (by decide) (by decide) (by decide)
end SX
end Go.Proofs.YtnjaaagiindclaaGreatDoor

/-
  awake says yes. The table of TrailingZeros64 lies.
-/
namespace Go.Proofs.YtnjaaagiindclaaGreatDoor
open Go.RowKit Go.Deep
attribute [local go_sem] Oper.semAt_some
theorem hp_all (w : World) : Hp w w ([] ++ [SX.allG w]) := by
  refine ⟨⟨rfl, rfl, rfl⟩, ?_, ?_⟩
  · simp only [List.nil_append, List.flatten_cons, List.flatten_nil, List.append_nil, SX.allG_fst]
    exact List.nodup_range
  · intro x hx
    simp only [List.nil_append, List.flatten_cons, List.flatten_nil, List.append_nil] at hx
    exact SX.allG_is hx
theorem alloc_size (w : World) (o : Obj) : (w.alloc o).heap.size = w.heap.size + 1 := Array.size_push ..
def Held2 (p : Prop) : Prop := p
theorem hold2 {p : Prop} (h : Held2 p) : p := h
set_option maxRecDepth 100000 in
set_option maxHeartbeats 4000000 in
theorem awake_h (w : World) (hL : Laid w) : Calls Tryz.prog 11 #[] w fun e w' => e = .returned (.bool true) ∧ Fr (fun _ => False) w w' := by
  have HFr := Lib.hid (fun (U : World) (hp : Hp w U ([] ++ [SX.allG w])) => SX.fresh_h (lo := 0) (hi := 1) (N1 := 1) (N2 := 1) hp (by omega) (by omega) (by omega) (by omega) (T := SX.litT SX.F0h SX.F0n) ⟨⟨rfl, rfl⟩, fun _ => trivial⟩)
  have hp0 := Lib.hid (hp_all w)
  have hmx : Tryz.prog.follows .mixedOrders = true := by kernel_rfl
  go_enter Tryz.func11, Tryz.ntmps11
  go_wp2_with (first
    | (go_at_call 12; refine (HFr.out _ hp0.out).mono ?_; rintro e w1 ⟨gm, rfl, hS0⟩; replace hS0 := Lib.hid hS0)
    | (go_at_call 13; refine (SX.aw1_h hL hS0.out).mono ?_; rintro e w2 ⟨rfl, hS1⟩; replace hS1 := Lib.hid (hS1.add (.cells #[.int .u64 4194304, .int .u64 48, .int .i64 0] 37)); clear hS0)
    | (go_at_call 13; refine (SX.aw2_h hL hS1.out).mono ?_; rintro e w3 ⟨rfl, hS2⟩; replace hS2 := Lib.hid (hS2.add (.cells #[.int .u64 4202496, .int .u64 16, .int .i64 0] 37)); clear hS1)
    | (go_at_call 13; refine (SX.aw3_h hL (alloc_size _ _) (hS2.out.add (.cells #[.int .u64 4202500] 22))).mono ?_; rintro e w4 ⟨rfl, hS3⟩; replace hS3 := Lib.hid (hS3.add (.cells #[.int .u64 0, .int .u64 2, .int .i64 0] 37)); clear hS2)
    | (go_at_call 13; refine (SX.aw4_h hL hS3.out).mono ?_; rintro e w5 ⟨rfl, hS4⟩; replace hS4 := Lib.hid (hS4.add (.cells #[.int .u64 0, .int .u64 2, .int .i64 0] 37)); clear hS3)
    | (go_at_call 15; refine (SX.aw5_h hL hS4.out).mono ?_; rintro e w6 ⟨s, c, rfl, hc, hcl, hR, hfr⟩; replace hR := Lib.hid hR; replace hfr := Lib.hid hfr; refine hold2 ?_))
  have ea := hR.out [(w2.heap.size, .cells #[.int .u64 4194304, .int .u64 48, .int .i64 0] 37 (0, 0))] (by simp) _ _ (List.mem_singleton.2 rfl)
  have a0 := cell_blk ea 0
  have a1 := cell_blk ea 1
  have a2 := cell_blk ea 2
  have eb := hR.out [(w3.heap.size, .cells #[.int .u64 4202496, .int .u64 16, .int .i64 0] 37 (0, 0))] (by simp) _ _ (List.mem_singleton.2 rfl)
  have b0 := cell_blk eb 0
  have b1 := cell_blk eb 1
  have b2 := cell_blk eb 2
  have ec := hR.out [(w4.heap.size, .cells #[.int .u64 0, .int .u64 2, .int .i64 0] 37 (0, 0))] (by simp) _ _ (List.mem_singleton.2 rfl)
  have c0 := cell_blk ec 0
  have c1 := cell_blk ec 1
  have c2 := cell_blk ec 2
  have ed := hR.out [(w5.heap.size, .cells #[.int .u64 0, .int .u64 2, .int .i64 0] 37 (0, 0))] (by simp) _ _ (List.mem_singleton.2 rfl)
  have d0 := cell_blk ed 0
  have d1 := cell_blk ed 1
  have d2 := cell_blk ed 2
  simp only [List.getElem?_toArray, List.getElem?_cons_zero, List.getElem?_cons_succ] at a0 a1 a2 b0 b1 b2 c0 c1 c2 d0 d1 d2
  clear ea eb ec ed hR hS4
  unfold Held2
  rename_i hK6
  refine hK6 _ _ ?_
  clear hK6
  go_wp2
  all_goals (refine ⟨rfl, .bool true, ?_, rfl, hfr.out⟩; first | rfl | (simp [go_sem, results]; done) | (go_simp; done))
end Go.Proofs.YtnjaaagiindclaaGreatDoor

/-
  MallocZombies, of every argument, from the classes' runs. The table of TrailingZeros64 lies.
-/
namespace Go.Proofs.YtnjaaagiindclaaGreatDoor
open Go.RowKit Go.Deep
section
variable {k pages lo hi : Nat} {W : World}
theorem wtZ_ok (hw : SX.SpecEnters Tryz.prog (SX.numB W lo hi) 103 (SX.spWant k pages)) (hL : Laid W) : ∀ x ∈ SX.wtZ k pages, SX.SpecOk Tryz.prog (SX.numB W lo hi) x.1 x.2 := by
  unfold SX.wtZ
  exact SX.cons_ok (.inl hw) (SX.wtF_ok hL lo hi)
theorem rZ_ok (hw : SX.SpecEnters Tryz.prog (SX.numB W lo hi) 103 (SX.spWant k pages)) (hL : Laid W) {f : FuncId} {fn : Func} (hf : Tryz.prog.funcs[f]? = some fn) (hb : fn.body.isSome = true) : SX.SpecEnters Tryz.prog (SX.numB W lo hi) f (SX.rZ k pages f fn) := by
  unfold SX.rZ
  exact SX.runP_ok SX.fit (wtZ_ok hw hL) hf hb
theorem doZ_ok (hw : SX.SpecEnters Tryz.prog (SX.numB W lo hi) 103 (SX.spWant k pages)) (hL : Laid W) : SX.SpecEnters Tryz.prog (SX.numB W lo hi) 13 (SX.doZ k pages) := SX.gcS_ok (rZ_ok hw hL Tryz.func13 (by kernel_rfl)) 124
theorem ddZ_ok (hw : SX.SpecEnters Tryz.prog (SX.numB W lo hi) 103 (SX.spWant k pages)) (hL : Laid W) : SX.SpecEnters Tryz.prog (SX.numB W lo hi) 18 (SX.ddZ k pages) := rZ_ok hw hL Tryz.func18 (by kernel_rfl)
theorem blZ_ok (hw : SX.SpecEnters Tryz.prog (SX.numB W lo hi) 103 (SX.spWant k pages)) (hL : Laid W) : SX.SpecEnters Tryz.prog (SX.numB W lo hi) 15 (SX.blZ k pages) := rZ_ok hw hL Tryz.func15 (by kernel_rfl)
theorem infZ_ok (hw : SX.SpecEnters Tryz.prog (SX.numB W lo hi) 103 (SX.spWant k pages)) (hL : Laid W) : SX.SpecEnters Tryz.prog (SX.numB W lo hi) 17 (SX.infZ k pages) := rZ_ok hw hL Tryz.func17 (by kernel_rfl)
theorem ofZ_ok (hw : SX.SpecEnters Tryz.prog (SX.numB W lo hi) 103 (SX.spWant k pages)) (hL : Laid W) : SX.SpecEnters Tryz.prog (SX.numB W lo hi) 14 (SX.ofZ k pages) := rZ_ok hw hL Tryz.func14 (by kernel_rfl)
end
theorem den_of {T : SX.Tree} (h : T.sure (fun _ _ => false) = true) : SX.Den T := ⟨SX.Tree.sure_den (fun _ _ h => by cases h) h⟩
theorem zAll_eq (k pages a c : Nat) : SX.stepT (SX.doZ k pages) (SX.callN 1) SX.shR (SX.zE (SX.doZ k pages) (SX.ddZ k pages) (SX.blZ k pages) (SX.infZ k pages) (SX.ofZ k pages) c a) SX.F0h SX.F0n = SX.zAll k pages a c := by
  kernel_rfl
theorem zAll_den {k pages a c : Nat} (hz : (SX.zAll k pages a c).sure (fun _ _ => false) = true) : SX.Den (SX.stepT (SX.doZ k pages) (SX.callN 1) SX.shR (SX.zE (SX.doZ k pages) (SX.ddZ k pages) (SX.blZ k pages) (SX.infZ k pages) (SX.ofZ k pages) c a) SX.F0h SX.F0n) := by
  rw [zAll_eq]
  exact den_of hz
theorem clsZ_of {k pages lo hi a c N n : Nat} (hw : ∀ W, SX.SpecEnters Tryz.prog (SX.numB W lo hi) 103 (SX.spWant k pages)) (hz : (SX.zAll k pages a c).sure (fun _ _ => false) = true)
    (h1 : lo < N) (h2 : N ≤ hi) (h3 : 16 ≤ N) (h4 : N ≤ 2048) (h5 : a + 1 ≤ n) (h6 : n ≤ a + 1 + c) (h7 : n ≤ 20) : ClsZ lo hi N n :=
  ⟨fun W hL => ⟨SX.doZ k pages, SX.ddZ k pages, SX.blZ k pages, SX.infZ k pages, SX.ofZ k pages, a, c, ⟨doZ_ok (hw W) hL, ddZ_ok (hw W) hL, blZ_ok (hw W) hL, infZ_ok (hw W) hL, ofZ_ok (hw W) hL⟩, h5, h6, zAll_den hz⟩, h1, h2, h3, h4, by omega, h7⟩
theorem law_z (H : ∀ N n : Nat, 16 ≤ N → N ≤ 2048 → 1 ≤ n → n ≤ 20 → ∃ lo hi, ClsZ lo hi N n) (n : Int) (N : Nat) (c : Int) (w : World) (hL : Laid w) :
    Calls Tryz.prog 5 #[.int .i64 n, .int .u64 (N : Int), .int .i64 c] w fun e w' => e = .returned (.bool true) ∧ Fr (fun _ => False) w w' := by
  by_cases h : 1 ≤ n ∧ n ≤ 20 ∧ 16 ≤ N ∧ N ≤ 2048
  · obtain ⟨m, rfl⟩ : ∃ m : Nat, n = (m : Int) := ⟨n.toNat, by omega⟩
    obtain ⟨lo, hi, hc⟩ := H N m h.2.2.1 h.2.2.2 (by omega) (by omega)
    exact law_zin hc c w hL fun U hU => awake_h U hU
  · exact law_zout n N c h w
end Go.Proofs.YtnjaaagiindclaaGreatDoor
