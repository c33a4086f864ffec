/-
  The classes, one by one.
-/
import Derived.Test.YtnjaaagiindclaaGreatDoorPk13
import Derived.Test.YtnjaaagiindclaaGreatDoorLw23
import Derived.Test.YtnjaaagiindclaaGreatDoorPra
import Derived.Test.YtnjaaagiindclaaGreatDoorPrb
import Derived.Test.YtnjaaagiindclaaGreatDoorPrc
import Derived.Test.YtnjaaagiindclaaGreatDoorPrd
import Derived.Test.YtnjaaagiindclaaGreatDoorPre
import Derived.Test.YtnjaaagiindclaaGreatDoorPrf
import Derived.Test.YtnjaaagiindclaaGreatDoorPrg
import Derived.Test.YtnjaaagiindclaaGreatDoorPrh
import Derived.Test.YtnjaaagiindclaaGreatDoorPri
namespace Go.Proofs.YtnjaaagiindclaaGreatDoor
open Go.RowKit Go.Deep
set_option maxRecDepth 100000
theorem cls_gen {T : SX.Spec → SX.Tree} {E : SX.Spec → Prop} (sp : SX.Spec) (hE : E sp) (h : (T sp).sure (fun _ _ => false) = true) : ∃ sp, E sp ∧ (T sp).den fun _ _ => False := ⟨sp, hE, SX.Tree.sure_den (fun _ _ h => by cases h) h⟩
theorem doS_ok {k pages lo hi : Nat} (hw : ∀ W, SX.SpecEnters Tryz.prog (SX.numB W lo hi) 103 (SX.spWant k pages)) (W : World) (hL : Laid W) : SX.SpecEnters Tryz.prog (SX.numB W lo hi) 13 (SX.doS k pages) := SX.runP_ok SX.fit (SX.cons_ok (.inl (hw W)) (SX.cons_ok (.inl (SX.spTz_ok (fun _ _ h => h) hL)) (SX.wt2_ok (SX.numB_s _ _ _)))) Tryz.func13 (by kernel_rfl)
theorem cls_of {k pages m lo hi slots : Nat} (hw : ∀ W, SX.SpecEnters Tryz.prog (SX.numB W lo hi) 103 (SX.spWant k pages)) (hp : (SX.pairT (SX.doS k pages) SX.ofS hi slots).sure (fun _ _ => false) = true)
    (rlo : SX.TBl[m * 4]? = some (.int .i64 (lo : Int))) (rhi : SX.TBl[(m + 1) * 4]? = some (.int .i64 (hi : Int))) (rsl : SX.TBl[(m + 1) * 4 + 2]? = some (.int .i64 (slots : Int)))
    (lt : lo < hi) (le : hi ≤ 32768) (ge : 2 ≤ m) (lm : m < 67) : Cls m lo hi slots where
  run W hL := cls_gen (T := fun sp => SX.pairT sp SX.ofS hi slots) (E := fun sp => SX.SpecEnters Tryz.prog (SX.numB W lo hi) 13 sp) (SX.doS k pages) (doS_ok hw W hL) hp
  rlo := rlo
  rhi := rhi
  rsl := rsl
  lt := lt
  le := le
  ge := ge
  lm := lm
theorem cls3 : Cls 2 16 24 341 := cls_of SX.want3_ok SX.pair3 (by kernel_rfl) (by kernel_rfl) (by kernel_rfl) (by decide) (by decide) (by decide) (by decide)
theorem cls4 : Cls 3 24 32 256 := cls_of SX.want4_ok SX.pair4 (by kernel_rfl) (by kernel_rfl) (by kernel_rfl) (by decide) (by decide) (by decide) (by decide)
theorem cls5 : Cls 4 32 48 170 := cls_of SX.want5_ok SX.pair5 (by kernel_rfl) (by kernel_rfl) (by kernel_rfl) (by decide) (by decide) (by decide) (by decide)
theorem cls6 : Cls 5 48 64 128 := cls_of SX.want6_ok SX.pair6 (by kernel_rfl) (by kernel_rfl) (by kernel_rfl) (by decide) (by decide) (by decide) (by decide)
theorem cls7 : Cls 6 64 80 102 := cls_of SX.want7_ok SX.pair7 (by kernel_rfl) (by kernel_rfl) (by kernel_rfl) (by decide) (by decide) (by decide) (by decide)
theorem cls8 : Cls 7 80 96 85 := cls_of SX.want8_ok SX.pair8 (by kernel_rfl) (by kernel_rfl) (by kernel_rfl) (by decide) (by decide) (by decide) (by decide)
theorem cls9 : Cls 8 96 112 73 := cls_of SX.want9_ok SX.pair9 (by kernel_rfl) (by kernel_rfl) (by kernel_rfl) (by decide) (by decide) (by decide) (by decide)
theorem cls10 : Cls 9 112 128 64 := cls_of SX.want10_ok SX.pair10 (by kernel_rfl) (by kernel_rfl) (by kernel_rfl) (by decide) (by decide) (by decide) (by decide)
theorem cls11 : Cls 10 128 144 56 := cls_of SX.want11_ok SX.pair11 (by kernel_rfl) (by kernel_rfl) (by kernel_rfl) (by decide) (by decide) (by decide) (by decide)
theorem cls12 : Cls 11 144 160 51 := cls_of SX.want12_ok SX.pair12 (by kernel_rfl) (by kernel_rfl) (by kernel_rfl) (by decide) (by decide) (by decide) (by decide)
theorem cls13 : Cls 12 160 176 46 := cls_of SX.want13_ok SX.pair13 (by kernel_rfl) (by kernel_rfl) (by kernel_rfl) (by decide) (by decide) (by decide) (by decide)
theorem cls14 : Cls 13 176 192 42 := cls_of SX.want14_ok SX.pair14 (by kernel_rfl) (by kernel_rfl) (by kernel_rfl) (by decide) (by decide) (by decide) (by decide)
theorem cls15 : Cls 14 192 208 39 := cls_of SX.want15_ok SX.pair15 (by kernel_rfl) (by kernel_rfl) (by kernel_rfl) (by decide) (by decide) (by decide) (by decide)
theorem cls16 : Cls 15 208 224 36 := cls_of SX.want16_ok SX.pair16 (by kernel_rfl) (by kernel_rfl) (by kernel_rfl) (by decide) (by decide) (by decide) (by decide)
theorem cls17 : Cls 16 224 240 34 := cls_of SX.want17_ok SX.pair17 (by kernel_rfl) (by kernel_rfl) (by kernel_rfl) (by decide) (by decide) (by decide) (by decide)
theorem cls18 : Cls 17 240 256 32 := cls_of SX.want18_ok SX.pair18 (by kernel_rfl) (by kernel_rfl) (by kernel_rfl) (by decide) (by decide) (by decide) (by decide)
theorem cls19 : Cls 18 256 288 28 := cls_of SX.want19_ok SX.pair19 (by kernel_rfl) (by kernel_rfl) (by kernel_rfl) (by decide) (by decide) (by decide) (by decide)
theorem cls20 : Cls 19 288 320 25 := cls_of SX.want20_ok SX.pair20 (by kernel_rfl) (by kernel_rfl) (by kernel_rfl) (by decide) (by decide) (by decide) (by decide)
theorem cls21 : Cls 20 320 352 23 := cls_of SX.want21_ok SX.pair21 (by kernel_rfl) (by kernel_rfl) (by kernel_rfl) (by decide) (by decide) (by decide) (by decide)
theorem cls22 : Cls 21 352 384 21 := cls_of SX.want22_ok SX.pair22 (by kernel_rfl) (by kernel_rfl) (by kernel_rfl) (by decide) (by decide) (by decide) (by decide)
theorem cls23 : Cls 22 384 416 19 := cls_of SX.want23_ok SX.pair23 (by kernel_rfl) (by kernel_rfl) (by kernel_rfl) (by decide) (by decide) (by decide) (by decide)
theorem cls24 : Cls 23 416 448 18 := cls_of SX.want24_ok SX.pair24 (by kernel_rfl) (by kernel_rfl) (by kernel_rfl) (by decide) (by decide) (by decide) (by decide)
theorem cls25 : Cls 24 448 480 17 := cls_of SX.want25_ok SX.pair25 (by kernel_rfl) (by kernel_rfl) (by kernel_rfl) (by decide) (by decide) (by decide) (by decide)
theorem cls26 : Cls 25 480 512 16 := cls_of SX.want26_ok SX.pair26 (by kernel_rfl) (by kernel_rfl) (by kernel_rfl) (by decide) (by decide) (by decide) (by decide)
theorem cls27 : Cls 26 512 576 14 := cls_of SX.want27_ok SX.pair27 (by kernel_rfl) (by kernel_rfl) (by kernel_rfl) (by decide) (by decide) (by decide) (by decide)
theorem cls28 : Cls 27 576 640 12 := cls_of SX.want28_ok SX.pair28 (by kernel_rfl) (by kernel_rfl) (by kernel_rfl) (by decide) (by decide) (by decide) (by decide)
theorem cls29 : Cls 28 640 704 11 := cls_of SX.want29_ok SX.pair29 (by kernel_rfl) (by kernel_rfl) (by kernel_rfl) (by decide) (by decide) (by decide) (by decide)
theorem cls30 : Cls 29 704 768 10 := cls_of SX.want30_ok SX.pair30 (by kernel_rfl) (by kernel_rfl) (by kernel_rfl) (by decide) (by decide) (by decide) (by decide)
theorem cls31 : Cls 30 768 896 9 := cls_of SX.want31_ok SX.pair31 (by kernel_rfl) (by kernel_rfl) (by kernel_rfl) (by decide) (by decide) (by decide) (by decide)
theorem cls32 : Cls 31 896 1024 8 := cls_of SX.want32_ok SX.pair32 (by kernel_rfl) (by kernel_rfl) (by kernel_rfl) (by decide) (by decide) (by decide) (by decide)
theorem cls33 : Cls 32 1024 1152 7 := cls_of SX.want33_ok SX.pair33 (by kernel_rfl) (by kernel_rfl) (by kernel_rfl) (by decide) (by decide) (by decide) (by decide)
theorem cls34 : Cls 33 1152 1280 6 := cls_of SX.want34_ok SX.pair34 (by kernel_rfl) (by kernel_rfl) (by kernel_rfl) (by decide) (by decide) (by decide) (by decide)
theorem cls35 : Cls 34 1280 1408 11 := cls_of SX.want35_ok SX.pair35 (by kernel_rfl) (by kernel_rfl) (by kernel_rfl) (by decide) (by decide) (by decide) (by decide)
theorem cls36 : Cls 35 1408 1536 5 := cls_of SX.want36_ok SX.pair36 (by kernel_rfl) (by kernel_rfl) (by kernel_rfl) (by decide) (by decide) (by decide) (by decide)
theorem cls37 : Cls 36 1536 1792 9 := cls_of SX.want37_ok SX.pair37 (by kernel_rfl) (by kernel_rfl) (by kernel_rfl) (by decide) (by decide) (by decide) (by decide)
theorem cls38 : Cls 37 1792 2048 4 := cls_of SX.want38_ok SX.pair38 (by kernel_rfl) (by kernel_rfl) (by kernel_rfl) (by decide) (by decide) (by decide) (by decide)
theorem cls39 : Cls 38 2048 2304 7 := cls_of SX.want39_ok SX.pair39 (by kernel_rfl) (by kernel_rfl) (by kernel_rfl) (by decide) (by decide) (by decide) (by decide)
theorem cls40 : Cls 39 2304 2688 3 := cls_of SX.want40_ok SX.pair40 (by kernel_rfl) (by kernel_rfl) (by kernel_rfl) (by decide) (by decide) (by decide) (by decide)
theorem cls41 : Cls 40 2688 3072 8 := cls_of SX.want41_ok SX.pair41 (by kernel_rfl) (by kernel_rfl) (by kernel_rfl) (by decide) (by decide) (by decide) (by decide)
theorem cls42 : Cls 41 3072 3200 5 := cls_of SX.want42_ok SX.pair42 (by kernel_rfl) (by kernel_rfl) (by kernel_rfl) (by decide) (by decide) (by decide) (by decide)
theorem cls43 : Cls 42 3200 3456 7 := cls_of SX.want43_ok SX.pair43 (by kernel_rfl) (by kernel_rfl) (by kernel_rfl) (by decide) (by decide) (by decide) (by decide)
theorem cls44 : Cls 43 3456 4096 2 := cls_of SX.want44_ok SX.pair44 (by kernel_rfl) (by kernel_rfl) (by kernel_rfl) (by decide) (by decide) (by decide) (by decide)
theorem cls45 : Cls 44 4096 4864 5 := cls_of SX.want45_ok SX.pair45 (by kernel_rfl) (by kernel_rfl) (by kernel_rfl) (by decide) (by decide) (by decide) (by decide)
theorem cls46 : Cls 45 4864 5376 3 := cls_of SX.want46_ok SX.pair46 (by kernel_rfl) (by kernel_rfl) (by kernel_rfl) (by decide) (by decide) (by decide) (by decide)
theorem cls47 : Cls 46 5376 6144 4 := cls_of SX.want47_ok SX.pair47 (by kernel_rfl) (by kernel_rfl) (by kernel_rfl) (by decide) (by decide) (by decide) (by decide)
theorem cls48 : Cls 47 6144 6528 5 := cls_of SX.want48_ok SX.pair48 (by kernel_rfl) (by kernel_rfl) (by kernel_rfl) (by decide) (by decide) (by decide) (by decide)
theorem cls49 : Cls 48 6528 6784 6 := cls_of SX.want49_ok SX.pair49 (by kernel_rfl) (by kernel_rfl) (by kernel_rfl) (by decide) (by decide) (by decide) (by decide)
theorem cls50 : Cls 49 6784 6912 7 := cls_of SX.want50_ok SX.pair50 (by kernel_rfl) (by kernel_rfl) (by kernel_rfl) (by decide) (by decide) (by decide) (by decide)
theorem cls51 : Cls 50 6912 8192 1 := cls_of SX.want51_ok SX.pair51 (by kernel_rfl) (by kernel_rfl) (by kernel_rfl) (by decide) (by decide) (by decide) (by decide)
theorem cls52 : Cls 51 8192 9472 6 := cls_of SX.want52_ok SX.pair52 (by kernel_rfl) (by kernel_rfl) (by kernel_rfl) (by decide) (by decide) (by decide) (by decide)
theorem cls53 : Cls 52 9472 9728 5 := cls_of SX.want53_ok SX.pair53 (by kernel_rfl) (by kernel_rfl) (by kernel_rfl) (by decide) (by decide) (by decide) (by decide)
theorem cls54 : Cls 53 9728 10240 4 := cls_of SX.want54_ok SX.pair54 (by kernel_rfl) (by kernel_rfl) (by kernel_rfl) (by decide) (by decide) (by decide) (by decide)
theorem cls55 : Cls 54 10240 10880 3 := cls_of SX.want55_ok SX.pair55 (by kernel_rfl) (by kernel_rfl) (by kernel_rfl) (by decide) (by decide) (by decide) (by decide)
theorem cls56 : Cls 55 10880 12288 2 := cls_of SX.want56_ok SX.pair56 (by kernel_rfl) (by kernel_rfl) (by kernel_rfl) (by decide) (by decide) (by decide) (by decide)
theorem cls57 : Cls 56 12288 13568 3 := cls_of SX.want57_ok SX.pair57 (by kernel_rfl) (by kernel_rfl) (by kernel_rfl) (by decide) (by decide) (by decide) (by decide)
theorem cls58 : Cls 57 13568 14336 4 := cls_of SX.want58_ok SX.pair58 (by kernel_rfl) (by kernel_rfl) (by kernel_rfl) (by decide) (by decide) (by decide) (by decide)
theorem cls59 : Cls 58 14336 16384 1 := cls_of SX.want59_ok SX.pair59 (by kernel_rfl) (by kernel_rfl) (by kernel_rfl) (by decide) (by decide) (by decide) (by decide)
theorem cls60 : Cls 59 16384 18432 4 := cls_of SX.want60_ok SX.pair60 (by kernel_rfl) (by kernel_rfl) (by kernel_rfl) (by decide) (by decide) (by decide) (by decide)
theorem cls61 : Cls 60 18432 19072 3 := cls_of SX.want61_ok SX.pair61 (by kernel_rfl) (by kernel_rfl) (by kernel_rfl) (by decide) (by decide) (by decide) (by decide)
theorem cls62 : Cls 61 19072 20480 2 := cls_of SX.want62_ok SX.pair62 (by kernel_rfl) (by kernel_rfl) (by kernel_rfl) (by decide) (by decide) (by decide) (by decide)
theorem cls63 : Cls 62 20480 21760 3 := cls_of SX.want63_ok SX.pair63 (by kernel_rfl) (by kernel_rfl) (by kernel_rfl) (by decide) (by decide) (by decide) (by decide)
theorem cls64 : Cls 63 21760 24576 1 := cls_of SX.want64_ok SX.pair64 (by kernel_rfl) (by kernel_rfl) (by kernel_rfl) (by decide) (by decide) (by decide) (by decide)
theorem cls65 : Cls 64 24576 27264 3 := cls_of SX.want65_ok SX.pair65 (by kernel_rfl) (by kernel_rfl) (by kernel_rfl) (by decide) (by decide) (by decide) (by decide)
theorem cls66 : Cls 65 27264 28672 2 := cls_of SX.want66_ok SX.pair66 (by kernel_rfl) (by kernel_rfl) (by kernel_rfl) (by decide) (by decide) (by decide) (by decide)
theorem cls67 : Cls 66 28672 32768 1 := cls_of SX.want67_ok SX.pair67 (by kernel_rfl) (by kernel_rfl) (by kernel_rfl) (by decide) (by decide) (by decide) (by decide)
theorem clsAll : ∀ m : Nat, 2 ≤ m → m < 67 → ∃ lo hi slots, Cls m lo hi slots := by
  intro m h1 h2
  match m, h1, h2 with
  | 2, _, _ => exact ⟨_, _, _, cls3⟩
  | 3, _, _ => exact ⟨_, _, _, cls4⟩
  | 4, _, _ => exact ⟨_, _, _, cls5⟩
  | 5, _, _ => exact ⟨_, _, _, cls6⟩
  | 6, _, _ => exact ⟨_, _, _, cls7⟩
  | 7, _, _ => exact ⟨_, _, _, cls8⟩
  | 8, _, _ => exact ⟨_, _, _, cls9⟩
  | 9, _, _ => exact ⟨_, _, _, cls10⟩
  | 10, _, _ => exact ⟨_, _, _, cls11⟩
  | 11, _, _ => exact ⟨_, _, _, cls12⟩
  | 12, _, _ => exact ⟨_, _, _, cls13⟩
  | 13, _, _ => exact ⟨_, _, _, cls14⟩
  | 14, _, _ => exact ⟨_, _, _, cls15⟩
  | 15, _, _ => exact ⟨_, _, _, cls16⟩
  | 16, _, _ => exact ⟨_, _, _, cls17⟩
  | 17, _, _ => exact ⟨_, _, _, cls18⟩
  | 18, _, _ => exact ⟨_, _, _, cls19⟩
  | 19, _, _ => exact ⟨_, _, _, cls20⟩
  | 20, _, _ => exact ⟨_, _, _, cls21⟩
  | 21, _, _ => exact ⟨_, _, _, cls22⟩
  | 22, _, _ => exact ⟨_, _, _, cls23⟩
  | 23, _, _ => exact ⟨_, _, _, cls24⟩
  | 24, _, _ => exact ⟨_, _, _, cls25⟩
  | 25, _, _ => exact ⟨_, _, _, cls26⟩
  | 26, _, _ => exact ⟨_, _, _, cls27⟩
  | 27, _, _ => exact ⟨_, _, _, cls28⟩
  | 28, _, _ => exact ⟨_, _, _, cls29⟩
  | 29, _, _ => exact ⟨_, _, _, cls30⟩
  | 30, _, _ => exact ⟨_, _, _, cls31⟩
  | 31, _, _ => exact ⟨_, _, _, cls32⟩
  | 32, _, _ => exact ⟨_, _, _, cls33⟩
  | 33, _, _ => exact ⟨_, _, _, cls34⟩
  | 34, _, _ => exact ⟨_, _, _, cls35⟩
  | 35, _, _ => exact ⟨_, _, _, cls36⟩
  | 36, _, _ => exact ⟨_, _, _, cls37⟩
  | 37, _, _ => exact ⟨_, _, _, cls38⟩
  | 38, _, _ => exact ⟨_, _, _, cls39⟩
  | 39, _, _ => exact ⟨_, _, _, cls40⟩
  | 40, _, _ => exact ⟨_, _, _, cls41⟩
  | 41, _, _ => exact ⟨_, _, _, cls42⟩
  | 42, _, _ => exact ⟨_, _, _, cls43⟩
  | 43, _, _ => exact ⟨_, _, _, cls44⟩
  | 44, _, _ => exact ⟨_, _, _, cls45⟩
  | 45, _, _ => exact ⟨_, _, _, cls46⟩
  | 46, _, _ => exact ⟨_, _, _, cls47⟩
  | 47, _, _ => exact ⟨_, _, _, cls48⟩
  | 48, _, _ => exact ⟨_, _, _, cls49⟩
  | 49, _, _ => exact ⟨_, _, _, cls50⟩
  | 50, _, _ => exact ⟨_, _, _, cls51⟩
  | 51, _, _ => exact ⟨_, _, _, cls52⟩
  | 52, _, _ => exact ⟨_, _, _, cls53⟩
  | 53, _, _ => exact ⟨_, _, _, cls54⟩
  | 54, _, _ => exact ⟨_, _, _, cls55⟩
  | 55, _, _ => exact ⟨_, _, _, cls56⟩
  | 56, _, _ => exact ⟨_, _, _, cls57⟩
  | 57, _, _ => exact ⟨_, _, _, cls58⟩
  | 58, _, _ => exact ⟨_, _, _, cls59⟩
  | 59, _, _ => exact ⟨_, _, _, cls60⟩
  | 60, _, _ => exact ⟨_, _, _, cls61⟩
  | 61, _, _ => exact ⟨_, _, _, cls62⟩
  | 62, _, _ => exact ⟨_, _, _, cls63⟩
  | 63, _, _ => exact ⟨_, _, _, cls64⟩
  | 64, _, _ => exact ⟨_, _, _, cls65⟩
  | 65, _, _ => exact ⟨_, _, _, cls66⟩
  | 66, _, _ => exact ⟨_, _, _, cls67⟩
  | 0, h, _ => exact absurd h (by decide)
  | 1, h, _ => exact absurd h (by decide)
  | n + 67, _, h => exact absurd h (by omega)
end Go.Proofs.YtnjaaagiindclaaGreatDoor
