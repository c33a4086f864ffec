/-
  Part 13 of what the statement leans on: Wn, Spa, Spb, WtA, WA1, WA2, WA3, WA4, WA5, Awk, Aw.
-/
import Derived.Test.YtnjaaagiindclaaGreatDoorPk9
import Derived.Test.YtnjaaagiindclaaGreatDoorPk12
import Derived.Deep.LoopGhost
import Derived.Deep.RegionWith
import Derived.Deep.QuietTactic
import Derived.Deep.RegionHeld3
import Derived.StillTailTactics
/-
  Wants, class by class.
-/
namespace Go.Proofs.YtnjaaagiindclaaGreatDoor
open Go.RowKit Go.Deep
namespace SX
set_option maxRecDepth 100000
theorem wantIs3 : WantIs wantS 3 1 [(1280, false), (240, false), (112, false), (48, false), (24, false), (16, true)] := fun z => by kernel_rfl
theorem want3_ok (W : World) : SpecEnters Tryz.prog (numB W 16 24) 103 (spWant 3 1) := spWant_ok wantIs3 (by decide) (by decide) (by decide)
theorem wantIs4 : WantIs wantS 4 1 [(1280, false), (240, false), (112, false), (48, false), (24, true), (32, false)] := fun z => by kernel_rfl
theorem want4_ok (W : World) : SpecEnters Tryz.prog (numB W 24 32) 103 (spWant 4 1) := spWant_ok wantIs4 (by decide) (by decide) (by decide)
theorem wantIs5 : WantIs wantS 5 1 [(1280, false), (240, false), (112, false), (48, false), (24, true), (32, true)] := fun z => by kernel_rfl
theorem want5_ok (W : World) : SpecEnters Tryz.prog (numB W 32 48) 103 (spWant 5 1) := spWant_ok wantIs5 (by decide) (by decide) (by decide)
theorem wantIs6 : WantIs wantS 6 1 [(1280, false), (240, false), (112, false), (48, true), (80, false), (64, false)] := fun z => by kernel_rfl
theorem want6_ok (W : World) : SpecEnters Tryz.prog (numB W 48 64) 103 (spWant 6 1) := spWant_ok wantIs6 (by decide) (by decide) (by decide)
theorem wantIs7 : WantIs wantS 7 1 [(1280, false), (240, false), (112, false), (48, true), (80, false), (64, true)] := fun z => by kernel_rfl
theorem want7_ok (W : World) : SpecEnters Tryz.prog (numB W 64 80) 103 (spWant 7 1) := spWant_ok wantIs7 (by decide) (by decide) (by decide)
theorem wantIs8 : WantIs wantS 8 1 [(1280, false), (240, false), (112, false), (48, true), (80, true), (96, false)] := fun z => by kernel_rfl
theorem want8_ok (W : World) : SpecEnters Tryz.prog (numB W 80 96) 103 (spWant 8 1) := spWant_ok wantIs8 (by decide) (by decide) (by decide)
theorem wantIs9 : WantIs wantS 9 1 [(1280, false), (240, false), (112, false), (48, true), (80, true), (96, true)] := fun z => by kernel_rfl
theorem want9_ok (W : World) : SpecEnters Tryz.prog (numB W 96 112) 103 (spWant 9 1) := spWant_ok wantIs9 (by decide) (by decide) (by decide)
theorem wantIs10 : WantIs wantS 10 1 [(1280, false), (240, false), (112, true), (176, false), (144, false), (128, false)] := fun z => by kernel_rfl
theorem want10_ok (W : World) : SpecEnters Tryz.prog (numB W 112 128) 103 (spWant 10 1) := spWant_ok wantIs10 (by decide) (by decide) (by decide)
theorem wantIs11 : WantIs wantS 11 1 [(1280, false), (240, false), (112, true), (176, false), (144, false), (128, true)] := fun z => by kernel_rfl
theorem want11_ok (W : World) : SpecEnters Tryz.prog (numB W 128 144) 103 (spWant 11 1) := spWant_ok wantIs11 (by decide) (by decide) (by decide)
theorem wantIs12 : WantIs wantS 12 1 [(1280, false), (240, false), (112, true), (176, false), (144, true), (160, false)] := fun z => by kernel_rfl
theorem want12_ok (W : World) : SpecEnters Tryz.prog (numB W 144 160) 103 (spWant 12 1) := spWant_ok wantIs12 (by decide) (by decide) (by decide)
theorem wantIs13 : WantIs wantS 13 1 [(1280, false), (240, false), (112, true), (176, false), (144, true), (160, true)] := fun z => by kernel_rfl
theorem want13_ok (W : World) : SpecEnters Tryz.prog (numB W 160 176) 103 (spWant 13 1) := spWant_ok wantIs13 (by decide) (by decide) (by decide)
theorem wantIs14 : WantIs wantS 14 1 [(1280, false), (240, false), (112, true), (176, true), (208, false), (192, false)] := fun z => by kernel_rfl
theorem want14_ok (W : World) : SpecEnters Tryz.prog (numB W 176 192) 103 (spWant 14 1) := spWant_ok wantIs14 (by decide) (by decide) (by decide)
theorem wantIs15 : WantIs wantS 15 1 [(1280, false), (240, false), (112, true), (176, true), (208, false), (192, true)] := fun z => by kernel_rfl
theorem want15_ok (W : World) : SpecEnters Tryz.prog (numB W 192 208) 103 (spWant 15 1) := spWant_ok wantIs15 (by decide) (by decide) (by decide)
theorem wantIs16 : WantIs wantS 16 1 [(1280, false), (240, false), (112, true), (176, true), (208, true), (224, false)] := fun z => by kernel_rfl
theorem want16_ok (W : World) : SpecEnters Tryz.prog (numB W 208 224) 103 (spWant 16 1) := spWant_ok wantIs16 (by decide) (by decide) (by decide)
theorem wantIs17 : WantIs wantS 17 1 [(1280, false), (240, false), (112, true), (176, true), (208, true), (224, true)] := fun z => by kernel_rfl
theorem want17_ok (W : World) : SpecEnters Tryz.prog (numB W 224 240) 103 (spWant 17 1) := spWant_ok wantIs17 (by decide) (by decide) (by decide)
theorem wantIs18 : WantIs wantS 18 1 [(1280, false), (240, true), (512, false), (384, false), (320, false), (288, false), (256, false)] := fun z => by kernel_rfl
theorem want18_ok (W : World) : SpecEnters Tryz.prog (numB W 240 256) 103 (spWant 18 1) := spWant_ok wantIs18 (by decide) (by decide) (by decide)
theorem wantIs19 : WantIs wantS 19 1 [(1280, false), (240, true), (512, false), (384, false), (320, false), (288, false), (256, true)] := fun z => by kernel_rfl
theorem want19_ok (W : World) : SpecEnters Tryz.prog (numB W 256 288) 103 (spWant 19 1) := spWant_ok wantIs19 (by decide) (by decide) (by decide)
theorem wantIs20 : WantIs wantS 20 1 [(1280, false), (240, true), (512, false), (384, false), (320, false), (288, true)] := fun z => by kernel_rfl
theorem want20_ok (W : World) : SpecEnters Tryz.prog (numB W 288 320) 103 (spWant 20 1) := spWant_ok wantIs20 (by decide) (by decide) (by decide)
theorem wantIs21 : WantIs wantS 21 1 [(1280, false), (240, true), (512, false), (384, false), (320, true), (352, false)] := fun z => by kernel_rfl
theorem want21_ok (W : World) : SpecEnters Tryz.prog (numB W 320 352) 103 (spWant 21 1) := spWant_ok wantIs21 (by decide) (by decide) (by decide)
theorem wantIs22 : WantIs wantS 22 1 [(1280, false), (240, true), (512, false), (384, false), (320, true), (352, true)] := fun z => by kernel_rfl
theorem want22_ok (W : World) : SpecEnters Tryz.prog (numB W 352 384) 103 (spWant 22 1) := spWant_ok wantIs22 (by decide) (by decide) (by decide)
theorem wantIs23 : WantIs wantS 23 1 [(1280, false), (240, true), (512, false), (384, true), (448, false), (416, false)] := fun z => by kernel_rfl
theorem want23_ok (W : World) : SpecEnters Tryz.prog (numB W 384 416) 103 (spWant 23 1) := spWant_ok wantIs23 (by decide) (by decide) (by decide)
theorem wantIs24 : WantIs wantS 24 1 [(1280, false), (240, true), (512, false), (384, true), (448, false), (416, true)] := fun z => by kernel_rfl
theorem want24_ok (W : World) : SpecEnters Tryz.prog (numB W 416 448) 103 (spWant 24 1) := spWant_ok wantIs24 (by decide) (by decide) (by decide)
theorem wantIs25 : WantIs wantS 25 1 [(1280, false), (240, true), (512, false), (384, true), (448, true), (480, false)] := fun z => by kernel_rfl
theorem want25_ok (W : World) : SpecEnters Tryz.prog (numB W 448 480) 103 (spWant 25 1) := spWant_ok wantIs25 (by decide) (by decide) (by decide)
theorem wantIs26 : WantIs wantS 26 1 [(1280, false), (240, true), (512, false), (384, true), (448, true), (480, true)] := fun z => by kernel_rfl
theorem want26_ok (W : World) : SpecEnters Tryz.prog (numB W 480 512) 103 (spWant 26 1) := spWant_ok wantIs26 (by decide) (by decide) (by decide)
theorem wantIs27 : WantIs wantS 27 1 [(1280, false), (240, true), (512, true), (768, false), (640, false), (576, false)] := fun z => by kernel_rfl
theorem want27_ok (W : World) : SpecEnters Tryz.prog (numB W 512 576) 103 (spWant 27 1) := spWant_ok wantIs27 (by decide) (by decide) (by decide)
theorem wantIs28 : WantIs wantS 28 1 [(1280, false), (240, true), (512, true), (768, false), (640, false), (576, true)] := fun z => by kernel_rfl
theorem want28_ok (W : World) : SpecEnters Tryz.prog (numB W 576 640) 103 (spWant 28 1) := spWant_ok wantIs28 (by decide) (by decide) (by decide)
theorem wantIs29 : WantIs wantS 29 1 [(1280, false), (240, true), (512, true), (768, false), (640, true), (704, false)] := fun z => by kernel_rfl
theorem want29_ok (W : World) : SpecEnters Tryz.prog (numB W 640 704) 103 (spWant 29 1) := spWant_ok wantIs29 (by decide) (by decide) (by decide)
theorem wantIs30 : WantIs wantS 30 1 [(1280, false), (240, true), (512, true), (768, false), (640, true), (704, true)] := fun z => by kernel_rfl
theorem want30_ok (W : World) : SpecEnters Tryz.prog (numB W 704 768) 103 (spWant 30 1) := spWant_ok wantIs30 (by decide) (by decide) (by decide)
theorem wantIs31 : WantIs wantS 31 1 [(1280, false), (240, true), (512, true), (768, true), (1024, false), (896, false)] := fun z => by kernel_rfl
theorem want31_ok (W : World) : SpecEnters Tryz.prog (numB W 768 896) 103 (spWant 31 1) := spWant_ok wantIs31 (by decide) (by decide) (by decide)
theorem wantIs32 : WantIs wantS 32 1 [(1280, false), (240, true), (512, true), (768, true), (1024, false), (896, true)] := fun z => by kernel_rfl
theorem want32_ok (W : World) : SpecEnters Tryz.prog (numB W 896 1024) 103 (spWant 32 1) := spWant_ok wantIs32 (by decide) (by decide) (by decide)
theorem wantIs33 : WantIs wantS 33 1 [(1280, false), (240, true), (512, true), (768, true), (1024, true), (1152, false)] := fun z => by kernel_rfl
theorem want33_ok (W : World) : SpecEnters Tryz.prog (numB W 1024 1152) 103 (spWant 33 1) := spWant_ok wantIs33 (by decide) (by decide) (by decide)
theorem wantIs34 : WantIs wantS 34 1 [(1280, false), (240, true), (512, true), (768, true), (1024, true), (1152, true)] := fun z => by kernel_rfl
theorem want34_ok (W : World) : SpecEnters Tryz.prog (numB W 1152 1280) 103 (spWant 34 1) := spWant_ok wantIs34 (by decide) (by decide) (by decide)
theorem wantIs35 : WantIs wantS 35 2 [(1280, true), (8192, false), (3456, false), (2304, false), (1792, false), (1536, false), (1408, false)] := fun z => by kernel_rfl
theorem want35_ok (W : World) : SpecEnters Tryz.prog (numB W 1280 1408) 103 (spWant 35 2) := spWant_ok wantIs35 (by decide) (by decide) (by decide)
theorem wantIs36 : WantIs wantS 36 1 [(1280, true), (8192, false), (3456, false), (2304, false), (1792, false), (1536, false), (1408, true)] := fun z => by kernel_rfl
theorem want36_ok (W : World) : SpecEnters Tryz.prog (numB W 1408 1536) 103 (spWant 36 1) := spWant_ok wantIs36 (by decide) (by decide) (by decide)
theorem wantIs37 : WantIs wantS 37 2 [(1280, true), (8192, false), (3456, false), (2304, false), (1792, false), (1536, true)] := fun z => by kernel_rfl
theorem want37_ok (W : World) : SpecEnters Tryz.prog (numB W 1536 1792) 103 (spWant 37 2) := spWant_ok wantIs37 (by decide) (by decide) (by decide)
theorem wantIs38 : WantIs wantS 38 1 [(1280, true), (8192, false), (3456, false), (2304, false), (1792, true), (2048, false)] := fun z => by kernel_rfl
theorem want38_ok (W : World) : SpecEnters Tryz.prog (numB W 1792 2048) 103 (spWant 38 1) := spWant_ok wantIs38 (by decide) (by decide) (by decide)
theorem wantIs39 : WantIs wantS 39 2 [(1280, true), (8192, false), (3456, false), (2304, false), (1792, true), (2048, true)] := fun z => by kernel_rfl
theorem want39_ok (W : World) : SpecEnters Tryz.prog (numB W 2048 2304) 103 (spWant 39 2) := spWant_ok wantIs39 (by decide) (by decide) (by decide)
theorem wantIs40 : WantIs wantS 40 1 [(1280, true), (8192, false), (3456, false), (2304, true), (3072, false), (2688, false)] := fun z => by kernel_rfl
theorem want40_ok (W : World) : SpecEnters Tryz.prog (numB W 2304 2688) 103 (spWant 40 1) := spWant_ok wantIs40 (by decide) (by decide) (by decide)
theorem wantIs41 : WantIs wantS 41 3 [(1280, true), (8192, false), (3456, false), (2304, true), (3072, false), (2688, true)] := fun z => by kernel_rfl
theorem want41_ok (W : World) : SpecEnters Tryz.prog (numB W 2688 3072) 103 (spWant 41 3) := spWant_ok wantIs41 (by decide) (by decide) (by decide)
theorem wantIs42 : WantIs wantS 42 2 [(1280, true), (8192, false), (3456, false), (2304, true), (3072, true), (3200, false)] := fun z => by kernel_rfl
theorem want42_ok (W : World) : SpecEnters Tryz.prog (numB W 3072 3200) 103 (spWant 42 2) := spWant_ok wantIs42 (by decide) (by decide) (by decide)
theorem wantIs43 : WantIs wantS 43 3 [(1280, true), (8192, false), (3456, false), (2304, true), (3072, true), (3200, true)] := fun z => by kernel_rfl
theorem want43_ok (W : World) : SpecEnters Tryz.prog (numB W 3200 3456) 103 (spWant 43 3) := spWant_ok wantIs43 (by decide) (by decide) (by decide)
theorem wantIs44 : WantIs wantS 44 1 [(1280, true), (8192, false), (3456, true), (6144, false), (4864, false), (4096, false)] := fun z => by kernel_rfl
theorem want44_ok (W : World) : SpecEnters Tryz.prog (numB W 3456 4096) 103 (spWant 44 1) := spWant_ok wantIs44 (by decide) (by decide) (by decide)
theorem wantIs45 : WantIs wantS 45 3 [(1280, true), (8192, false), (3456, true), (6144, false), (4864, false), (4096, true)] := fun z => by kernel_rfl
theorem want45_ok (W : World) : SpecEnters Tryz.prog (numB W 4096 4864) 103 (spWant 45 3) := spWant_ok wantIs45 (by decide) (by decide) (by decide)
theorem wantIs46 : WantIs wantS 46 2 [(1280, true), (8192, false), (3456, true), (6144, false), (4864, true), (5376, false)] := fun z => by kernel_rfl
theorem want46_ok (W : World) : SpecEnters Tryz.prog (numB W 4864 5376) 103 (spWant 46 2) := spWant_ok wantIs46 (by decide) (by decide) (by decide)
theorem wantIs47 : WantIs wantS 47 3 [(1280, true), (8192, false), (3456, true), (6144, false), (4864, true), (5376, true)] := fun z => by kernel_rfl
theorem want47_ok (W : World) : SpecEnters Tryz.prog (numB W 5376 6144) 103 (spWant 47 3) := spWant_ok wantIs47 (by decide) (by decide) (by decide)
theorem wantIs48 : WantIs wantS 48 4 [(1280, true), (8192, false), (3456, true), (6144, true), (6784, false), (6528, false)] := fun z => by kernel_rfl
theorem want48_ok (W : World) : SpecEnters Tryz.prog (numB W 6144 6528) 103 (spWant 48 4) := spWant_ok wantIs48 (by decide) (by decide) (by decide)
theorem wantIs49 : WantIs wantS 49 5 [(1280, true), (8192, false), (3456, true), (6144, true), (6784, false), (6528, true)] := fun z => by kernel_rfl
theorem want49_ok (W : World) : SpecEnters Tryz.prog (numB W 6528 6784) 103 (spWant 49 5) := spWant_ok wantIs49 (by decide) (by decide) (by decide)
theorem wantIs50 : WantIs wantS 50 6 [(1280, true), (8192, false), (3456, true), (6144, true), (6784, true), (6912, false)] := fun z => by kernel_rfl
theorem want50_ok (W : World) : SpecEnters Tryz.prog (numB W 6784 6912) 103 (spWant 50 6) := spWant_ok wantIs50 (by decide) (by decide) (by decide)
theorem wantIs51 : WantIs wantS 51 1 [(1280, true), (8192, false), (3456, true), (6144, true), (6784, true), (6912, true)] := fun z => by kernel_rfl
theorem want51_ok (W : World) : SpecEnters Tryz.prog (numB W 6912 8192) 103 (spWant 51 1) := spWant_ok wantIs51 (by decide) (by decide) (by decide)
theorem wantIs52 : WantIs wantS 52 7 [(1280, true), (8192, true), (18432, false), (12288, false), (10240, false), (9728, false), (9472, false)] := fun z => by kernel_rfl
theorem want52_ok (W : World) : SpecEnters Tryz.prog (numB W 8192 9472) 103 (spWant 52 7) := spWant_ok wantIs52 (by decide) (by decide) (by decide)
theorem wantIs53 : WantIs wantS 53 6 [(1280, true), (8192, true), (18432, false), (12288, false), (10240, false), (9728, false), (9472, true)] := fun z => by kernel_rfl
theorem want53_ok (W : World) : SpecEnters Tryz.prog (numB W 9472 9728) 103 (spWant 53 6) := spWant_ok wantIs53 (by decide) (by decide) (by decide)
theorem wantIs54 : WantIs wantS 54 5 [(1280, true), (8192, true), (18432, false), (12288, false), (10240, false), (9728, true)] := fun z => by kernel_rfl
theorem want54_ok (W : World) : SpecEnters Tryz.prog (numB W 9728 10240) 103 (spWant 54 5) := spWant_ok wantIs54 (by decide) (by decide) (by decide)
theorem wantIs55 : WantIs wantS 55 4 [(1280, true), (8192, true), (18432, false), (12288, false), (10240, true), (10880, false)] := fun z => by kernel_rfl
theorem want55_ok (W : World) : SpecEnters Tryz.prog (numB W 10240 10880) 103 (spWant 55 4) := spWant_ok wantIs55 (by decide) (by decide) (by decide)
theorem wantIs56 : WantIs wantS 56 3 [(1280, true), (8192, true), (18432, false), (12288, false), (10240, true), (10880, true)] := fun z => by kernel_rfl
theorem want56_ok (W : World) : SpecEnters Tryz.prog (numB W 10880 12288) 103 (spWant 56 3) := spWant_ok wantIs56 (by decide) (by decide) (by decide)
theorem wantIs57 : WantIs wantS 57 5 [(1280, true), (8192, true), (18432, false), (12288, true), (14336, false), (13568, false)] := fun z => by kernel_rfl
theorem want57_ok (W : World) : SpecEnters Tryz.prog (numB W 12288 13568) 103 (spWant 57 5) := spWant_ok wantIs57 (by decide) (by decide) (by decide)
theorem wantIs58 : WantIs wantS 58 7 [(1280, true), (8192, true), (18432, false), (12288, true), (14336, false), (13568, true)] := fun z => by kernel_rfl
theorem want58_ok (W : World) : SpecEnters Tryz.prog (numB W 13568 14336) 103 (spWant 58 7) := spWant_ok wantIs58 (by decide) (by decide) (by decide)
theorem wantIs59 : WantIs wantS 59 2 [(1280, true), (8192, true), (18432, false), (12288, true), (14336, true), (16384, false)] := fun z => by kernel_rfl
theorem want59_ok (W : World) : SpecEnters Tryz.prog (numB W 14336 16384) 103 (spWant 59 2) := spWant_ok wantIs59 (by decide) (by decide) (by decide)
theorem wantIs60 : WantIs wantS 60 9 [(1280, true), (8192, true), (18432, false), (12288, true), (14336, true), (16384, true)] := fun z => by kernel_rfl
theorem want60_ok (W : World) : SpecEnters Tryz.prog (numB W 16384 18432) 103 (spWant 60 9) := spWant_ok wantIs60 (by decide) (by decide) (by decide)
theorem wantIs61 : WantIs wantS 61 7 [(1280, true), (8192, true), (18432, true), (24576, false), (20480, false), (19072, false)] := fun z => by kernel_rfl
theorem want61_ok (W : World) : SpecEnters Tryz.prog (numB W 18432 19072) 103 (spWant 61 7) := spWant_ok wantIs61 (by decide) (by decide) (by decide)
theorem wantIs62 : WantIs wantS 62 5 [(1280, true), (8192, true), (18432, true), (24576, false), (20480, false), (19072, true)] := fun z => by kernel_rfl
theorem want62_ok (W : World) : SpecEnters Tryz.prog (numB W 19072 20480) 103 (spWant 62 5) := spWant_ok wantIs62 (by decide) (by decide) (by decide)
theorem wantIs63 : WantIs wantS 63 8 [(1280, true), (8192, true), (18432, true), (24576, false), (20480, true), (21760, false)] := fun z => by kernel_rfl
theorem want63_ok (W : World) : SpecEnters Tryz.prog (numB W 20480 21760) 103 (spWant 63 8) := spWant_ok wantIs63 (by decide) (by decide) (by decide)
theorem wantIs64 : WantIs wantS 64 3 [(1280, true), (8192, true), (18432, true), (24576, false), (20480, true), (21760, true)] := fun z => by kernel_rfl
theorem want64_ok (W : World) : SpecEnters Tryz.prog (numB W 21760 24576) 103 (spWant 64 3) := spWant_ok wantIs64 (by decide) (by decide) (by decide)
theorem wantIs65 : WantIs wantS 65 10 [(1280, true), (8192, true), (18432, true), (24576, true), (28672, false), (27264, false)] := fun z => by kernel_rfl
theorem want65_ok (W : World) : SpecEnters Tryz.prog (numB W 24576 27264) 103 (spWant 65 10) := spWant_ok wantIs65 (by decide) (by decide) (by decide)
theorem wantIs66 : WantIs wantS 66 7 [(1280, true), (8192, true), (18432, true), (24576, true), (28672, false), (27264, true)] := fun z => by kernel_rfl
theorem want66_ok (W : World) : SpecEnters Tryz.prog (numB W 27264 28672) 103 (spWant 66 7) := spWant_ok wantIs66 (by decide) (by decide) (by decide)
theorem wantIs67 : WantIs wantS 67 4 [(1280, true), (8192, true), (18432, true), (24576, true), (28672, true), (32768, false)] := fun z => by kernel_rfl
theorem want67_ok (W : World) : SpecEnters Tryz.prog (numB W 28672 32768) 103 (spWant 67 4) := spWant_ok wantIs67 (by decide) (by decide) (by decide)
end SX
end Go.Proofs.YtnjaaagiindclaaGreatDoor

/-
  (*mheap.Heap).Spans, whatever spans there are: their numbers, sorted. No condition.
-/
namespace Go.Proofs.YtnjaaagiindclaaGreatDoor
open Go.RowKit Go.Deep

def intE (z : Int) : Value := .int .i64 z
theorem int_info : (Tryz.prog.info? 3).map (fun i => (i.zero, i.size, i.bytes)) = some (some (.int .i64 0), 1, 8) := by kernel_rfl
theorem nodup_le' {α : Type} : ∀ {D K : List α}, D.Nodup → (∀ p ∈ D, p ∈ K) → D.length ≤ K.length
  | [], _, _, _ => Nat.zero_le _
  | x :: D, K, hD, hs => by
    rw [List.nodup_cons] at hD
    obtain ⟨a, b, rfl⟩ := List.append_of_mem (hs x (by simp))
    have h1 := nodup_le' (K := a ++ b) hD.2 (fun p hp => by
      rcases List.mem_append.1 (hs p (List.mem_cons_of_mem _ hp)) with h | h
      · exact List.mem_append.2 (.inl h)
      · rcases List.mem_cons.1 h with rfl | h
        · exact absurd hp hD.1
        · exact List.mem_append.2 (.inr h))
    simp only [List.length_append, List.length_cons] at h1 ⊢
    omega
theorem nodup_snoc_rev {D : List Int} {z : Int} : (z :: D).reverse = D.reverse ++ [z] := by simp
/-- where the walk over the spans stands -/
def SpI (w : World) (bm : Nat) (es : List (Int × Value)) (k : Nat) (n : Value) (wr : World) : Prop :=
  Fr (fun _ => False) w wr ∧ ∃ D : List Int, k + D.length = es.length ∧ D.Nodup ∧ (∀ z ∈ D, z ∈ es.map (·.1)) ∧ wr.ownsRow w.heap.size 3 1 n D.length (D.reverse.map intE) ∧ Iter intE wr (w.heap.size + 1) bm es D
/-- what the closure holds -/
def Held (p : Prop) : Prop := p
theorem hold {p : Prop} (h : Held p) : p := h
def boxO (bh : Nat) : Obj := .cells #[.pointer (some ⟨bh, 0, none⟩)] 75 (0, 0)
/-- what is asked of the sort, of a row that holds all keys -/
def SortsTo (w : World) (bh : Nat) (es : List (Int × Value)) (Post : Value → World → Prop) : Prop := ∀ (W : World) (x : Value) (D : List Int), Fr (fun _ => False) w W → W.heap[w.heap.size]? = some (boxO bh) → D.Nodup → D.length = es.length → (∀ z ∈ D, z ∈ es.map (·.1)) →
  (∀ b, x.ownBlock = some b → b ≠ w.heap.size) → W.ownsRow w.heap.size 3 1 x es.length (D.map intE) →
  Calls Tryz.prog 78 #[x, .func (.func 79) #[] #[.pointer (some ⟨w.heap.size, 0, none⟩)]] W fun e w' => e = .returned (.tuple #[]) ∧ Post x w'
set_option maxRecDepth 100000 in
set_option maxHeartbeats 4000000 in
theorem spans_walk {bh bm : Nat} {es : List (Int × Value)} {Post : Value → World → Prop} (w : World) (h4 : w.cell? ⟨bh, 4, none⟩ = some (.map (some bm))) (hm : MapIs intE w bm es) (hl : es.length ≤ 1000000) (hS : SortsTo w bh es Post) :
    Calls Tryz.prog 33 #[.pointer (some ⟨bh, 0, none⟩)] w fun e w' => ∃ x, e = .returned x ∧ Post x w' := by
  obtain ⟨i0, hi, hz0, hz1, hz2⟩ := info_parts int_info
  have hbm : bm < w.heap.size := by obtain ⟨_, _, hb, _⟩ := hm; exact lt_blk hb
  have hm1 := Lib.hid (fun o => hm.fr ((Fr.refl (fun _ => False) w).alloc o) (fun x => x))
  have hnd := Lib.hid hm.nodup
  have h4' : ∀ o, (w.alloc o).cell? ⟨bh, 4, none⟩ = some (.map (some bm)) := fun o => (World.cell?_of_block (heap_alloc_ne (World.block_lt_of_cell? _ _ h4))).trans h4
  replace hS := Lib.hid hS
  clear hm h4
  go_enter Tryz.func33, Tryz.ntmps33
  go_wp2_with (refine wpList_iter_new (by rfl) Tryz.underlying137 _ (by rfl) (hm1.out _) (by rfl) ?_; intro oo hit; go_simp)
  go_loopg [3] es.length (fun k n wr => Hid (SpI w bm es k n wr ∧ wr.heap[w.heap.size]? = some (boxO bh)))
  case atStart =>
    refine Lib.hid ⟨⟨((Fr.refl _ w).alloc _).alloc _, [], by simp, by simp, by simp, ⟨by simp, .inl ⟨rfl, rfl⟩⟩, by simpa only [size_alloc] using hit⟩, ?_⟩
    rw [heap_alloc_ne (by rw [size_alloc]; exact Nat.lt_succ_self _), heap_alloc, if_pos rfl]
    rfl
  case round =>
    obtain ⟨hH, hC⟩ := hrel.out
    have HF := Lib.hid hH.1
    have HC := Lib.hid hC
    have hne : w.heap.size + 1 ≠ bm := by omega
    obtain ⟨_, D, hk, hD1, hD2, ho, hI⟩ := hH
    rcases run_iter_next (P := Tryz.prog) hI hne 0 with ⟨hall, hr⟩ | ⟨⟨pk, pv⟩, hp, hpd, wn, hr, hk1, hk2, hk3⟩
    · have hlen : D.length = es.length := by
        have h1 := nodup_le hnd.out hD1 (fun z hz => by obtain ⟨p, hp, rfl⟩ := List.mem_map.1 hz; exact hall p hp)
        rw [List.length_map] at h1
        omega
      have HO := Lib.hid (show wr.ownsRow w.heap.size 3 1 u3 es.length (D.reverse.map intE) by rw [← hlen]; exact ho)
      have hsort := Lib.hid (hS.out wr u3 D.reverse HF.out HC.out (List.pairwise_reverse.2 (hD1.imp fun h => h.symm)) (by rw [List.length_reverse]; exact hlen) (fun z hz => hD2 z (List.mem_reverse.1 hz)) (fun b hb e => by
        subst e
        obtain ⟨cur, hcur⟩ := ownsRow_blk ho hb
        have h2 := HC.out
        rw [hcur] at h2
        have h3 : (3 : Nat) = 75 := by
          injection h2 with h2
          injection h2
        exact absurd h3 (by decide)) HO.out)
      clear hall hI hrel hit ho HO hC hk hD1 hD2 hlen
      go_wp2_with (first | (refine wpList_next_run (by rfl) _ (by rfl) (by rfl) hr ?_; clear hr) | (go_at_call 78; refine hsort.out.mono ?_; rintro e w5 ⟨rfl, ho5⟩; replace ho5 := Lib.hid ho5))
      go_ret
      exact ⟨_, rfl, ho5.out⟩
    · have HI0 := Lib.hid hI
      have HI := Lib.hid hk1
      have HN := Lib.hid hk2
      have HO := Lib.hid ho
      have HD := Lib.hid (And.intro hk (And.intro hD1 (And.intro hD2 (And.intro hp hpd))))
      clear hp hpd hk1 hk2 hI hrel hit ho hk hD1 hD2 hC
      simp only [intE] at hr hk3
      go_wp2_with (first | (refine wpList_next_run (by rfl) _ (by rfl) (by rfl) hr ?_; clear hr) | (refine wpList_entry (by rfl) _ (by rfl) (by rfl) hk3 ?_; clear hk3) | (at_builtin; refine hold ?_))
      unfold Held
      have hfn : Fr (fun _ => False) w wn := HF.out.trans HN.out (fun b hb e => by omega)
      have hnI : ∀ g, u3.ownBlock = some g → g ≠ w.heap.size + 1 ∧ g ≠ bm ∧ g ≠ w.heap.size := fun g hg => by
        obtain ⟨cur, hcur⟩ := ownsRow_blk HO.out hg
        obtain ⟨es', cl, si, se, la, h1, h2, _⟩ := HI0.out
        refine ⟨fun e => ?_, fun e => ?_, fun e => ?_⟩
        · subst e; rw [hcur] at h2; cases h2
        · subst e; rw [hcur] at h1; cases h1
        · subst e
          have h3 := HC.out
          rw [hcur] at h3
          have h3 : (3 : Nat) = 75 := by
            injection h3 with h3
            injection h3
          exact absurd h3 (by decide)
      have hOn : wn.ownsRow w.heap.size 3 1 u3 D.length (D.reverse.map intE) := ownsRow_keep HO.out HN.out (fun g hg e => (hnI g hg).1 e)
      have hbx : wn.heap[w.heap.size]? = some (boxO bh) := HN.out.at HC.out (by omega)
      have hlD : D.length < es.length := by
        obtain ⟨h1, h2, h3, h4, h5⟩ := HD.out
        have h6 := nodup_le (D := pk :: D) (List.nodup_cons.2 ⟨h5, h2⟩) hnd.out (fun z hz => by
          rcases List.mem_cons.1 hz with rfl | hz
          · exact List.mem_map.2 ⟨(z, pv), h4, rfl⟩
          · exact h3 z hz)
        rw [List.length_cons, List.length_map] at h6
        omega
      refine wpList_append_rd (w0 := w) (S := fun _ => False) rfl _ _ 45 rfl 3 i0 _ 1 8 Tryz.underlying45 hi hz0 hz1 hz2 rfl (by decide) u3 D.length (D.reverse.map intE) rfl (ownsRow_keep hOn ((Fr.refl (fun _ => False) wn).alloc _) (fun g hg e => e)) (hfn.alloc _) _ 1 [.int .i64 pk] rfl
        (Rd.new (t := 3) (by rw [heap_alloc, if_pos rfl]) 1 1 (by simp)) (by simp [Value.oneCell']) (by simp [maxLen]; omega) (by omega) ?_
      intro v' w5 hown hf5 hg5
      have hit5 : Iter intE w5 (w.heap.size + 1) bm es (pk :: D) := ((HI.out.fr ((Fr.refl (fun _ => False) wn).alloc _) (fun x => x) (fun x => x)).fr hg5 (fun e => (hnI _ e.symm).1 rfl) (fun e => (hnI _ e.symm).2.1 rfl))
      have hbx5 : w5.heap[w.heap.size]? = some (boxO bh) := hg5.at (by rw [heap_alloc_ne (lt_blk hbx)]; exact hbx) (fun e => (hnI _ e.symm).2.2 rfl)
      replace hown := Lib.hid hown
      replace hit5 := Lib.hid hit5
      replace hf5 := Lib.hid hf5
      replace hbx5 := Lib.hid hbx5
      have hlD := Lib.hid hlD
      clear hg5 hfn HF HI HN HI0 hnI hOn hbx HC HO
      go_wp2
      go_roundg (es.length - (D.length + 1))
      case measure => have := hlD.out; have := HD.out.1; omega
      case rel =>
        obtain ⟨h1, h2, h3, h4, h5⟩ := HD.out
        have := hlD.out
        refine Lib.hid ⟨⟨hf5.out, pk :: D, by rw [List.length_cons]; omega, List.nodup_cons.2 ⟨h5, h2⟩, fun z hz => ?_, ?_, hit5.out⟩, hbx5.out⟩
        · rcases List.mem_cons.1 hz with rfl | hz
          · exact List.mem_map.2 ⟨(z, pv), h4, rfl⟩
          · exact h3 z hz
        · rw [nodup_snoc_rev, List.map_append, List.length_cons]
          exact hown.out
namespace SX
/-- all orders of a row -/
def ins (x : Int) : List Int → List (List Int)
  | [] => [[x]]
  | y :: l => (x :: y :: l) :: (ins x l).map (y :: ·)
def perms : List Int → List (List Int)
  | [] => [[]]
  | x :: l => (perms l).flatMap (ins x)
theorem ins_mem {x : Int} : ∀ (a b : List Int), a ++ x :: b ∈ ins x (a ++ b)
  | [], [] => by simp [ins]
  | [], y :: l => by simp [ins]
  | y :: a, b => by
    simp only [List.cons_append, ins, List.mem_cons, List.mem_map]
    exact .inr ⟨_, ins_mem a b, rfl⟩
theorem perms_mem : ∀ {K D : List Int}, D.Nodup → D.length = K.length → (∀ z ∈ D, z ∈ K) → D ∈ perms K
  | [], D, _, hl, _ => by
    have : D = [] := List.eq_nil_of_length_eq_zero hl
    subst this; simp [perms]
  | x :: K, D, hn, hl, hs => by
    have hx : x ∈ D := by
      apply Classical.byContradiction
      intro hx
      have hs' : ∀ z ∈ D, z ∈ K := fun z hz => (List.mem_cons.1 (hs z hz)).elim (fun e => absurd (e ▸ hz) hx) id
      have h1 := nodup_le' hn hs'
      rw [List.length_cons] at hl
      omega
    obtain ⟨a, b, rfl⟩ := List.append_of_mem hx
    have hn' := List.nodup_append.1 hn
    obtain ⟨h1, h2, h3⟩ := hn'
    rw [List.nodup_cons] at h2
    simp only [perms, List.mem_flatMap]
    refine ⟨a ++ b, perms_mem (List.nodup_append.2 ⟨h1, h2.2, fun y hy z hz => h3 y hy z (List.mem_cons_of_mem _ hz)⟩) ?_ fun z hz => ?_, ins_mem a b⟩
    · simp only [List.length_append, List.length_cons] at hl ⊢; omega
    · have hz' : z ∈ a ++ x :: b := by
        rcases List.mem_append.1 hz with h | h
        · exact List.mem_append.2 (.inl h)
        · exact List.mem_append.2 (.inr (List.mem_cons_of_mem _ h))
      refine (List.mem_cons.1 (hs z hz')).elim (fun e => ?_) id
      subst e
      rcases List.mem_append.1 hz with h | h
      · exact absurd rfl (h3 z h z (by simp))
      · exact absurd h h2.1
end SX
end Go.Proofs.YtnjaaagiindclaaGreatDoor

/-
  SX: Spans where few spans are: whatever order the map gives, the sort ends alike.
-/
namespace Go.Proofs.YtnjaaagiindclaaGreatDoor
open Go.RowKit Go.Deep
namespace SX
def cellsAt (t : TypeId) : SObj → Option (List SV)
  | .cells u cs => if Nat.beq t u then some cs else none
  | _ => none
theorem cellsAt_is {t : TypeId} {o : SObj} {cs : List SV} (h : cellsAt t o = some cs) : o = .cells t cs := by
  cases o with
  | cells u c =>
    have h' : (if Nat.beq t u then some c else none) = some cs := h
    split at h'
    next e =>
      have := Nat.eq_of_beq_eq_true e
      subst this
      injection h' with h'
      rw [h']
    · cases h'
  | _ => cases h
def keysOf : SObj → Option (List Int)
  | .mp k es => (match k, es with
    | .int i, es => if isK i .i64 then some (List.map (fun e : Int × SV => e.1) es) else none
    | .str, _ => none
    | .non, _ => none)
  | _ => none
theorem keysOf_is {o : SObj} {ks : List Int} (h : keysOf o = some ks) : ∃ es : List (Int × SV), o = .mp (.int .i64) es ∧ ks = es.map (·.1) := by
  cases o with
  | mp k es =>
    cases k with
    | int i =>
      have h' : (if isK i .i64 then some (List.map (fun e : Int × SV => e.1) es) else none) = some ks := h
      split at h'
      next e =>
        have := isK_eq e
        subst this
        injection h' with h'
        exact ⟨es, rfl, h'.symm⟩
      · cases h'
    | str => cases h
    | non => cases h
  | _ => cases h
def rowI (l : List Int) : List SV := l.map fun z => .l .i64 z
/-- the sort of a row, from there on -/
noncomputable def sortAt (so : Spec) (h : Heap) (n a : Nat) (D : List Int) (K : Bool → SV → Heap → Nat → Tree) : Tree :=
  so [.sl true n 1 0 D.length (.o (n + 1) 0), .fn 79 [.p (n + 2) (.c 0)]] ((n + 2, .cells 75 [.p a (.c 0)]) :: (n, .vec 3 1 (rowI D) (.o (n + 1) 0)) :: h) (n + 3) K
noncomputable def sortsAll (so : Spec) (h : Heap) (n a : Nat) (E : Heap) (K : Tree) (P : List (List Int)) : Tree :=
  List.rec (motive := fun _ => Tree) K (fun D _ ih => .both (sortAt so h n a D fun b v h' n' => if b && (v.beq (resV []) && (Nat.ble n' (n + 4096) && subH h' E)) then .stop else .fail 929) ih) P
theorem sortsAll_den {so : Spec} {h : Heap} {n a : Nat} {E : Heap} {K : Tree} {Q : Ex → St → Prop} : ∀ {P : List (List Int)}, (sortsAll so h n a E K P).den Q → K.den Q ∧ ∀ D ∈ P, (sortAt so h n a D fun b v h' n' => if b && (v.beq (resV []) && (Nat.ble n' (n + 4096) && subH h' E)) then .stop else .fail 929).den Q
  | [], hd => ⟨hd, by simp⟩
  | D :: P, hd => by
    have hd' : (sortAt so h n a D fun b v h' n' => if b && (v.beq (resV []) && (Nat.ble n' (n + 4096) && subH h' E)) then .stop else .fail 929).den Q ∧ (sortsAll so h n a E K P).den Q := hd
    obtain ⟨h1, h2⟩ := sortsAll_den hd'.2
    refine ⟨h1, fun D' hD => ?_⟩
    rcases List.mem_cons.1 hD with rfl | hD
    · exact hd'.1
    · exact h2 D' hD
/-- by rising base, where that is known -/
noncomputable def baseAt (h : Heap) (es : List (Int × SV)) (z : Int) : Int := match es with
  | [] => 0
  | e :: es => if zB e.1 z then (match e.2 with
    | .p b _ => (match h.get b with
      | some o => (match o with
        | .cells _ cs => (match lget cs 0 with | .l _ u => u | _ => 0)
        | _ => 0)
      | none => 0)
    | _ => 0) else baseAt h es z
def insB (f : Int → Int) (z : Int) : List Int → List Int
  | [] => [z]
  | y :: l => if @decide (f z < f y) (Int.decLt _ _) then z :: y :: l else y :: insB f z l
def sortB (f : Int → Int) : List Int → List Int
  | [] => []
  | z :: l => insB f z (sortB f l)
def entsOf : SObj → List (Int × SV)
  | .mp k es => (match k, es with
    | .int _, es => es
    | .str, _ => []
    | .non, _ => [])
  | _ => []
noncomputable def spSpans (so : Spec) : Spec := fun args h n K => match args with
  | [x] => (match x with
    | .p a f => (match f with
      | .c z => if Nat.beq z 0 then (match h.get a with
        | some o => (match cellsAt 141 o with
          | some cs => if Nat.blt 4 cs.length then (match lget cs 4 with
            | .m b => (match h.get b with
              | some u => (match keysOf u with
                | some ks => if Nat.blt ks.length 9 && Nat.blt 0 ks.length then
                    sortsAll so h n a ((n, .vec 3 1 (rowI (sortB (baseAt h (entsOf u)) ks)) (.o (n + 1) 0)) :: h)
                      (K true (.sl true n 1 0 ks.length (.o (n + 1) 0)) ((n, .vec 3 1 (rowI (sortB (baseAt h (entsOf u)) ks)) (.o (n + 1) 0)) :: h) (n + 4096)) (perms ks) else .fail 930
                | none => .fail 931)
              | none => .fail 932)
            | _ => .fail 933) else .fail 934
          | none => .fail 935)
        | none => .fail 936) else .fail 937
      | _ => .fail 938)
    | _ => .fail 939)
  | _ => .fail 940
theorem MR.keys {ρ : Ren} : ∀ {es : List (Int × SV)} {m : List (Int × Value)}, MR ρ es m → m.map (·.1) = es.map (·.1)
  | [], _, r => by rw [show _ = [] from r]; rfl
  | e :: es, _, ⟨v, q, e1, _, r⟩ => by rw [e1, List.map_cons, List.map_cons, MR.keys r]
theorem spSpans_ok {𝔅 : BigRep} {so : Spec} (hso : SpecEnters Tryz.prog 𝔅 78 so) : SpecEnters Tryz.prog 𝔅 33 (spSpans so) where
  enter := enter_of Tryz.func33 (bodyOf_eq (by kernel_rfl)) (by kernel_rfl)
  calls := by
    intro C Q args h n K hB hk ρ w vs hv hH hbd
    unfold spSpans at hk
    split at hk <;> try exact hk.elim
    split at hk <;> try exact hk.elim
    split at hk <;> try exact hk.elim
    split at hk <;> try exact hk.elim
    split at hk <;> try exact hk.elim
    split at hk <;> try exact hk.elim
    split at hk <;> try exact hk.elim
    split at hk <;> try exact hk.elim
    split at hk <;> try exact hk.elim
    split at hk <;> try exact hk.elim
    split at hk <;> try exact hk.elim
    rename_i x0 a f0 z hz oo o ho oc cs hcs hlen x4 b hb ou u hu ok ks hks hkl
    obtain ⟨es, rfl, rfl⟩ := keysOf_is hks
    have ho' := cellsAt_is hcs
    subst ho'
    have hz' := Nat.eq_of_beq_eq_true hz
    subst hz'
    obtain ⟨v1, us, e1, hx, rfl⟩ := hv
    simp only [SV.Rel] at hx
    obtain ⟨g, hg, rfl⟩ := hx
    have e2 : vs = #[.pointer (some ⟨g, 0, none⟩)] := by rw [← Array.toList_inj, e1]; rfl
    subst e2
    obtain ⟨hK, hP⟩ := sortsAll_den hk
    obtain ⟨G, R', ⟨g', c, hg', rfl, hc⟩, hp, _⟩ := hH.focus ho
    have eg := hg.symm.trans hg'
    injection eg with eg
    subst eg
    have hlen' : 4 < cs.length := by simpa [Nat.blt_eq] using hlen
    obtain ⟨v4, hv4, hr4⟩ := hc.get? hlen'
    rw [hb] at hr4
    simp only [SV.Rel] at hr4
    obtain ⟨bm, hbm, rfl⟩ := hr4
    obtain ⟨G2, R2, ⟨g2, m2, hg2, hm2, hG2⟩, hp2, _⟩ := hH.focus hu
    have eg := hbm.symm.trans hg2
    injection eg with eg
    subst eg
    obtain ⟨m3, hm3⟩ : ∃ m3 : List (Int × Value), m3 = m2 := ⟨m2, rfl⟩
    subst hm3
    have hkeys : m3.map (·.1) = es.map (·.1) := MR.keys hm2
    have hM : MapIs intE w bm m3 := hp2.map hG2
    have hml : m3.length = es.length := (List.length_map ..).symm.trans ((congrArg List.length hkeys).trans (List.length_map ..))
    rw [Bool.and_eq_true, Nat.blt_eq, Nat.blt_eq] at hkl
    simp only [List.length_map] at hkl
    have hgl : g < w.heap.size := lt_blk hp.blk
    refine (spans_walk (Post := fun x w' => ∃ ρ', SV.Rel ρ' (.sl true n 1 0 (es.map (·.1)).length (.o (n + 1) 0)) x ∧ Holds C ρ' ((n, .vec 3 1 (rowI (sortB (baseAt h (entsOf (.mp (.int .i64) es))) (es.map (·.1)))) (.o (n + 1) 0)) :: h) w' ∧ ρ.le ρ' ∧ ρ'.bd (n + 4096)) w (by rw [hp.cell 4, ← Array.getElem?_toList, hv4]) hM (by omega) ?_).mono ?_
    · intro W x D hf hbx hnd hDl hDs hxb hown
      have hDp : D ∈ perms (es.map (·.1)) := perms_mem hnd (by rw [hDl, hml, List.length_map]) (fun z hz => by rw [← hkeys]; exact hDs z hz)
      obtain ⟨_, ⟨rfl, h0⟩ | ⟨gr, cap, cur, rfl, hA, hcur, h1, hmax, hsz, htk⟩⟩ := hown
      · omega
      have hne : gr ≠ w.heap.size := hxb gr rfl
      have hlD : D.length = es.length := by rw [hDl, hml]
      let ρ2 := upd (upd (upd ρ n gr) (n + 1) cap) (n + 2) w.heap.size
      have b1 := upd_bd (g := gr) hbd
      have b2 := upd_bd (g := cap) b1
      have b3 := upd_bd (g := w.heap.size) b2
      have l1 := upd_le (g := gr) (hbd n (Nat.le_refl _))
      have l2 := upd_le (g := cap) (b1 (n + 1) (Nat.le_refl _))
      have l3 := upd_le (g := w.heap.size) (b2 (n + 2) (Nat.le_refl _))
      have hle : ρ.le ρ2 := fun i y e => l3 _ _ (l2 _ _ (l1 _ _ e))
      have at0 : ρ2 n = some gr := l3 _ _ (l2 _ _ (upd_at _ _ _))
      have at1 : ρ2 (n + 1) = some cap := l3 _ _ (upd_at _ _ _)
      have at2 : ρ2 (n + 2) = some w.heap.size := upd_at _ _ _
      have hrow : Rep C.B ρ2 n (.vec 3 1 (rowI D) (.o (n + 1) 0)) [(gr, .cells cur 3 (0, 0))] := by
        refine ⟨cap, ⟨cap, at1, rfl⟩, by simp [rowI]; omega, hmax, .inr ⟨gr, cur, at0, rfl, hsz, ?_⟩⟩
        have e3 : (rowI D).length = m3.length * 1 := by simp [rowI]; omega
        rw [e3, htk]
        unfold rowI
        exact RelL.map fun z _ => by simp only [SV.Rel, intE]
      have hbox : Rep C.B ρ2 (n + 2) (.cells 75 [.p a (.c 0)]) [(w.heap.size, boxO g)] := ⟨w.heap.size, _, at2, rfl, .cons (by simp only [SV.Rel]; exact ⟨g, hle _ _ hg, rfl⟩) .nil⟩
      have H2 : Holds C ρ2 ((n + 2, .cells 75 [.p a (.c 0)]) :: (n, .vec 3 1 (rowI D) (.o (n + 1) 0)) :: h) W := by
        obtain ⟨Gs, hr, hp0⟩ := hH
        refine ⟨_ :: _ :: Gs, ⟨_, _, rfl, hbox, _, _, rfl, hrow, hr.mono hle⟩, ?_⟩
        have q0 : Hp C.I W (Gs ++ C.R) := hp0.quiet hf
        have q1 : Hp C.I W ([(gr, .cells cur 3 (0, 0))] :: (Gs ++ C.R)) := by
          refine ⟨q0.io, ?_, fun y hy => ?_⟩
          · rw [List.flatten_cons, List.map_append]
            show (gr :: (Gs ++ C.R).flatten.map Prod.fst).Nodup
            rw [List.nodup_cons]
            refine ⟨fun hm => ?_, q0.nd⟩
            obtain ⟨y, hy, he⟩ := List.mem_map.1 hm
            have := hp0.lt hy
            omega
          · rw [List.flatten_cons, List.mem_append] at hy
            rcases hy with hy | hy
            · rw [List.mem_singleton.1 hy]; exact hcur
            · exact q0.has y hy
        refine ⟨q1.io, ?_, fun y hy => ?_⟩
        · show (([(w.heap.size, boxO g)] ++ ([(gr, Obj.cells cur 3 (0, 0))] :: (Gs ++ C.R)).flatten).map Prod.fst).Nodup
          rw [List.map_append]
          show (w.heap.size :: ([(gr, Obj.cells cur 3 (0, 0))] :: (Gs ++ C.R)).flatten.map Prod.fst).Nodup
          rw [List.nodup_cons]
          refine ⟨fun hm => ?_, q1.nd⟩
          obtain ⟨y, hy, he⟩ := List.mem_map.1 hm
          rw [List.flatten_cons, List.mem_append] at hy
          rcases hy with hy | hy
          · rw [List.mem_singleton.1 hy] at he; exact hne he
          · have := hp0.lt hy
            omega
        · have hy' : y ∈ [(w.heap.size, boxO g)] ++ ([(gr, Obj.cells cur 3 (0, 0))] :: (Gs ++ C.R)).flatten := hy
          rcases List.mem_append.1 hy' with hy | hy
          · rw [List.mem_singleton.1 hy]; exact hbx
          · exact q1.has y hy
      have hargs : RelL ρ2 [.sl true n 1 0 D.length (.o (n + 1) 0), .fn 79 [.p (n + 2) (.c 0)]] (#[.slice (some ⟨gr, 0, none⟩) m3.length cap, .func (.func 79) #[] #[.pointer (some ⟨w.heap.size, 0, none⟩)]] : Array Value).toList := by
        refine .cons ?_ (.cons ?_ .nil)
        · simp only [SV.Rel]
          exact ⟨_, cap, by rw [hDl], ⟨cap, at1, rfl⟩, by omega, fun _ => ⟨gr, at0, fun _ => rfl⟩⟩
        · simp only [SV.Rel]
          exact ⟨_, rfl, .cons (by simp only [SV.Rel]; exact ⟨_, at2, rfl⟩) .nil⟩
      refine (hso.calls C Q _ _ (n + 3) _ hB (hP D hDp) ρ2 W _ hargs H2 b3).mono ?_
      rintro e w' ⟨bb, v, x, h', n', ρ', rfl, hx, hH', hle', hbd', hkk⟩
      have hkk' : (if bb && (x.beq (resV []) && (Nat.ble n' (n + 4096) && subH h' ((n, .vec 3 1 (rowI (sortB (baseAt h (entsOf (.mp (.int .i64) es))) (es.map (·.1)))) (.o (n + 1) 0)) :: h))) then Tree.stop else .fail 929).den Q := hkk
      split at hkk'
      next hc =>
        simp only [Bool.and_eq_true] at hc
        obtain ⟨rfl, hx2, hn2, hsub⟩ := hc
        have hx3 := SV.beq_eq _ _ hx2
        subst hx3
        have hn3 := Nat.le_of_ble_eq_true hn2
        refine ⟨?_, ρ', ?_, hH'.sub hsub, hle.trans hle', hbd'.mono hn3⟩
        · simp only [resV, SV.Rel] at hx
          obtain ⟨cs', rfl, hcs'⟩ := hx
          have : cs' = #[] := by
            have h0 : cs'.toList = [] := hcs'
            rw [← Array.toList_inj, h0]
          rw [this]
          rfl
        · have h5 := SV.Rel.mono hle' _ _ (RelL.uncons hargs).1
          rw [List.length_map, ← hml, ← hDl]
          rw [← hDl] at h5
          exact h5
      · exact hkk'.elim
    · rintro e w' ⟨x, rfl, ρ', hx, hH', hle', hbd'⟩
      exact ⟨true, x, _, _, _, ρ', rfl, hx, hH', hle', hbd', hK⟩
end SX
end Go.Proofs.YtnjaaagiindclaaGreatDoor

/-
  The contracts of awake.
-/
namespace Go.Proofs.YtnjaaagiindclaaGreatDoor
open Go.RowKit Go.Deep
namespace SX

noncomputable def soS : Spec := runP Tryz.prog wt2 78 Tryz.f78
noncomputable def wtA : List (FuncId × Spec) := (33, spSpans soS) :: (168, spTz) :: wt2
theorem wtA_ok {W : World} (hL : Laid W) (lo hi : Nat) : ∀ x ∈ wtA, SpecOk Tryz.prog (numB W lo hi) x.1 x.2 :=
  cons_ok (.inl (spSpans_ok (runP_ok fit (wt2_ok (numB_s W lo hi)) Tryz.func78 (by kernel_rfl)))) (cons_ok (.inl (spTz_ok (fun _ _ h => h) hL)) (wt2_ok (numB_s W lo hi)))
end SX
end Go.Proofs.YtnjaaagiindclaaGreatDoor

/-
  awake, step 1.
-/
namespace Go.Proofs.YtnjaaagiindclaaGreatDoor
open Go.RowKit Go.Deep
namespace SX
/- A1 r: 114 objects of 233 -/
def A1v : SV := (.agg [(u 4194304), (u 48), (j 0)])
def A1n : Nat := 1664
def A1h0 (h : Heap) : Heap :=
  (1662, .vec 210 4 [] (.c 0)) ::
  (1653, .vec 22 1 [(u 1)] (.o 1654 0)) ::
  (1651, .cells 356 ((j 1) :: (rp_ 511 (j 0) []))) ::
  (1645, .vec 254 1 [(q 1643)] (.o 1646 0)) ::
  (1643, .cells 327 [(j 1), .tt, .np]) ::
  (1642, .cells 146 [(u 4194304), (j 1), (j 1), (j 5), .tt, (j 48), (j 170), (j 1), .ff, .ff, (.l .u32 89478486), (.sl true 1653 1 0 1 (.o 1654 0)), .ns, (j 1)]) ::
  (1438, .vec 290 2 [(u 512), (u 513)] (.o 1439 0)) ::
  (1433, .vec 290 2 [] (.c 0)) ::
  (1430, .vec 304 1 [(.m 1416), (.m 1420), (.m 1424), (.m 1428)] (.o 1431 0)) ::
  (1428, mpi .u64 []) ::
  (1424, mpi .u64 []) ::
  (1420, mpi .u64 []) ::
  (1416, mpi .u64 []) ::
  (1415, .vec 290 2 [] (.c 0)) ::
  (1413, .vec 290 2 [(u 513), (u 1024)] (.o 1414 0)) ::
  (1411, .vec 290 2 [(u 513), (u 1024)] (.o 1412 0)) ::
  (1408, .vec 290 2 [(u 1), (u 2)] (.o 1409 0)) ::
  (1374, .vec 290 2 [(u 512), (u 1024)] (.o 1375 0)) ::
  (1368, .vec 290 2 [(u 512), (u 1024)] (.o 1369 0)) ::
  (122, .vec 97 1 [(q 116), (q 120)] (.o 123 0)) ::
  (120, .cells 156 ((q 115) :: (j 1) :: (rp_ 136 (j 0) [(u 0), (j 0)]))) ::
  (116, .cells 156 ((q 115) :: (rp_ 12 (j 0) ((j 1) :: (rp_ 124 (j 0) [(u 0), (j 0)]))))) ::
  (115, .cells 195 [(q 108)]) ::
  (114, mpi .i64 []) ::
  (113, mpi .i64 []) ::
  (112, mpi .i64 []) ::
  (111, mpi .i64 []) ::
  (110, .cells 193 ((q 37) :: (rp_ 256 .ns [(.m 111), (.m 112), (.m 113), (.m 114), (.m 109)]))) ::
  (109, mpi .u64 []) ::
  (108, .cells 151 [(q 37), (q 103), (q 104), .ns, (u 0), (u 0), (u 8192), (u 0)]) ::
  (107, .cells 84 [(q 37), (q 103), (q 104), (q 108), (.sl true 122 1 0 2 (.o 123 0)), (q 110), (.m 105), (q 106), (j 100), .ff, (u 1), (u 0)]) ::
  (106, .cells 187 [(.sl true 1662 4 0 0 (.zr))]) ::
  (105, mpi .i64 []) ::
  (104, .cells 184 [.np, (j 0)]) ::
  (103, .big (.d 1 [])) ::
  (102, .cells 258 [(u 0), (u 0), (u 0)]) ::
  (101, .cells 258 [(u 0), (u 0), (u 0)]) ::
  (100, .cells 258 [(u 0), (u 0), (u 0)]) ::
  (99, .cells 258 [(u 0), (u 0), (u 0)]) ::
  (98, .cells 258 [(u 0), (u 0), (u 0)]) :: h
def A1h1 (h : Heap) : Heap :=
  (97, .cells 258 [(u 0), (u 0), (u 0)]) ::
  (96, .cells 258 [(u 0), (u 0), (u 0)]) ::
  (95, .cells 258 [(u 0), (u 0), (u 0)]) ::
  (94, .cells 258 [(u 0), (u 0), (u 0)]) ::
  (93, .cells 258 [(u 0), (u 0), (u 0)]) ::
  (92, .cells 258 [(u 0), (u 0), (u 0)]) ::
  (91, .cells 258 [(u 0), (u 0), (u 0)]) ::
  (90, .cells 258 [(u 0), (u 0), (u 0)]) ::
  (89, .cells 258 [(u 0), (u 0), (u 0)]) ::
  (88, .cells 258 [(u 0), (u 0), (u 0)]) ::
  (87, .cells 258 [(u 0), (u 0), (u 0)]) ::
  (86, .cells 258 [(u 0), (u 0), (u 0)]) ::
  (85, .cells 258 [(u 0), (u 0), (u 0)]) ::
  (84, .cells 258 [(u 0), (u 0), (u 0)]) ::
  (83, .cells 258 [(u 0), (u 0), (u 0)]) ::
  (82, .cells 258 [(u 0), (u 0), (u 0)]) ::
  (81, .cells 258 [(u 0), (u 0), (u 0)]) ::
  (80, .cells 258 [(u 0), (u 0), (u 0)]) ::
  (79, .cells 258 [(u 0), (u 0), (u 0)]) ::
  (78, .cells 258 [(u 0), (u 0), (u 0)]) ::
  (77, .cells 258 [(u 0), (u 0), (u 0)]) ::
  (76, .cells 258 [(u 0), (u 0), (u 0)]) ::
  (75, .cells 258 [(u 0), (u 0), (u 0)]) ::
  (74, .cells 258 [(u 0), (u 0), (u 0)]) ::
  (73, .cells 258 [(u 0), (u 0), (u 0)]) ::
  (72, .cells 258 [(u 0), (u 0), (u 0)]) ::
  (71, .cells 258 [(u 0), (u 0), (u 0)]) ::
  (70, .cells 258 [(u 0), (u 0), (u 0)]) ::
  (69, .cells 258 [(u 0), (u 0), (u 0)]) ::
  (68, .cells 258 [(u 0), (u 0), (u 0)]) ::
  (67, .cells 258 [(u 0), (u 0), (u 0)]) ::
  (66, .cells 258 [(u 0), (u 0), (u 0)]) ::
  (65, .cells 258 [(u 0), (u 0), (u 0)]) ::
  (64, .cells 258 [(u 0), (u 0), (u 0)]) ::
  (63, .cells 258 [(u 0), (u 0), (u 0)]) ::
  (62, .cells 258 [(u 0), (u 0), (u 0)]) ::
  (61, .cells 258 [(u 0), (u 0), (u 0)]) ::
  (60, .cells 258 [(u 0), (u 0), (u 0)]) ::
  (59, .cells 258 [(u 0), (u 0), (u 0)]) ::
  (58, .cells 258 [(u 0), (u 0), (u 0)]) :: h
def A1h2 (h : Heap) : Heap :=
  (57, .cells 258 [(u 0), (u 0), (u 0)]) ::
  (56, .cells 258 [(u 0), (u 0), (u 0)]) ::
  (55, .cells 258 [(u 0), (u 0), (u 0)]) ::
  (54, .cells 258 [(u 0), (u 0), (u 0)]) ::
  (53, .cells 258 [(u 0), (u 0), (u 0)]) ::
  (52, .cells 258 [(u 0), (u 0), (u 0)]) ::
  (51, .cells 258 [(u 0), (u 0), (u 0)]) ::
  (50, .cells 258 [(u 0), (u 0), (u 0)]) ::
  (49, .cells 258 [(u 0), (u 0), (u 0)]) ::
  (48, .cells 258 [(u 0), (u 0), (u 0)]) ::
  (47, .cells 258 [(u 0), (u 0), (u 0)]) ::
  (46, .cells 258 [(u 0), (u 0), (u 0)]) ::
  (45, .cells 258 [(u 0), (u 0), (u 0)]) ::
  (44, .cells 258 [(u 0), (u 0), (u 0)]) ::
  (43, .cells 258 [(u 0), (u 0), (u 0)]) ::
  (42, .cells 258 [(u 0), (u 0), (u 0)]) ::
  (41, .cells 258 [(u 0), (u 0), (u 0)]) ::
  (40, .cells 258 [(u 0), (u 0), (u 0)]) ::
  (39, .cells 258 [(u 0), (u 0), (u 0)]) ::
  (38, .cells 256 [(j 1), (.sl true 1645 1 0 1 (.o 1646 0)), .np, (j 1)]) ::
  (37, .cells 141 [(q 16), (q 17), (q 35), (q 38), (.m 36), (q 39), (q 40), (q 41), (q 42), (q 43), (q 44), (q 45), (q 46), (q 47), (q 48), (q 49), (q 50), (q 51), (q 52), (q 53), (q 54), (q 55), (q 56), (q 57), (q 58), (q 59), (q 60), (q 61), (q 62), (q 63), (q 64), (q 65), (q 66), (q 67), (q 68), (q 69), (q 70), (q 71), (q 72), (q 73), (q 74), (q 75), (q 76), (q 77), (q 78), (q 79), (q 80), (q 81), (q 82), (q 83), (q 84), (q 85), (q 86), (q 87), (q 88), (q 89), (q 90), (q 91), (q 92), (q 93), (q 94), (q 95), (q 96), (q 97), (q 98), (q 99), (q 100), (q 101), (q 102), (u 1024), (u 1)]) ::
  (36, mpi .i64 [(1, (q 1642))]) ::
  (35, .cells 246 [(.sl true 1408 2 0 1 (.o 1409 0)), (u 1), .ns, (.m 34)]) ::
  (34, mpi .u64 [(1, (q 1651))]) ::
  (17, .cells 252 [(.sl true 1374 2 0 1 (.o 1375 0)), (u 512), (.sl true 1411 2 0 1 (.o 1412 0)), (u 511), (.sl true 1413 2 0 1 (.o 1414 0)), (u 511), (.sl true 1415 2 0 0 (.zr)), (u 0), (.sl true 1430 1 0 4 (.o 1431 0))]) ::
  (16, .cells 181 [(.sl true 11 1 0 0 (.zr)), (.sl true 12 1 0 0 (.zr)), (.sl true 13 1 0 0 (.zr)), (.sl true 1368 2 0 1 (.o 1369 0)), (u 512), (.sl true 1438 2 0 1 (.o 1439 0)), (u 1), (.sl true 1433 2 0 0 (.zr)), (u 0), (.m 14), (.m 15)]) ::
  (15, mpi .u64 []) ::
  (14, mpi .u64 []) ::
  (13, .vec 22 1 [] (.c 0)) ::
  (12, .vec 4 1 [] (.c 0)) ::
  (11, .vec 22 1 [] (.c 0)) ::
  (2, .big .n) ::
  (1, .big .n) ::
  (0, .big .z) :: h
def A1h : Heap := A1h0 (A1h1 (A1h2 []))

set_option maxRecDepth 100000 in
theorem aw1_sure : (runP Tryz.prog wtA 13 Tryz.f13 [F0v, .agg [.l .i64 1, .l .i64 0, .l .u64 40, .l .u64 0, .l .i64 0, .l .u64 0, .ff, .l .i64 0, .ns, .ns]] F0h F0n tellK).sure (isRes A1v A1h A1n) = true := by kernel_rfl
end SX
end Go.Proofs.YtnjaaagiindclaaGreatDoor

/-
  awake, step 2.
-/
namespace Go.Proofs.YtnjaaagiindclaaGreatDoor
open Go.RowKit Go.Deep
namespace SX
/- A2 r: 117 objects of 1117 -/
def A2v : SV := (.agg [(u 4202496), (u 16), (j 0)])
def A2n : Nat := 4255
def A2h0 (h : Heap) : Heap :=
  (4253, .vec 210 4 [] (.c 0)) ::
  (4244, .vec 22 1 [(u 1)] (.o 4245 0)) ::
  (4237, .vec 254 1 [(q 1643), (q 4235)] (.o 4238 0)) ::
  (4235, .cells 327 [(j 2), .tt, .np]) ::
  (4234, .cells 146 [(u 4202496), (j 1), (j 1), (j 2), .tt, (j 16), (j 512), (j 1), .ff, .ff, (.l .u32 268435456), (.sl true 4244 1 0 1 (.o 4245 0)), .ns, (j 1)]) ::
  (4030, .vec 290 2 [(u 512), (u 514)] (.o 4031 0)) ::
  (4024, .vec 290 2 [] (.c 0)) ::
  (4021, .vec 304 1 [(.m 4007), (.m 4011), (.m 4015), (.m 4019)] (.o 4022 0)) ::
  (4019, mpi .u64 []) ::
  (4015, mpi .u64 []) ::
  (4011, mpi .u64 []) ::
  (4007, mpi .u64 []) ::
  (4006, .vec 290 2 [] (.c 0)) ::
  (4004, .vec 290 2 [(u 576), (u 1024)] (.o 4005 0)) ::
  (4002, .vec 290 2 [(u 576), (u 1024)] (.o 4003 0)) ::
  (1653, .vec 22 1 [(u 1)] (.o 1654 0)) ::
  (1651, .cells 356 ((j 1) :: (j 2) :: (rp_ 510 (j 0) []))) ::
  (1643, .cells 327 [(j 1), .tt, .np]) ::
  (1642, .cells 146 [(u 4194304), (j 1), (j 1), (j 5), .tt, (j 48), (j 170), (j 1), .ff, .ff, (.l .u32 89478486), (.sl true 1653 1 0 1 (.o 1654 0)), .ns, (j 1)]) ::
  (1408, .vec 290 2 [(u 1), (u 2)] (.o 1409 0)) ::
  (1374, .vec 290 2 [(u 512), (u 1024)] (.o 1375 0)) ::
  (1368, .vec 290 2 [(u 512), (u 1024)] (.o 1369 0)) ::
  (122, .vec 97 1 [(q 116), (q 120)] (.o 123 0)) ::
  (120, .cells 156 ((q 115) :: (j 1) :: (rp_ 5 (j 0) ((j 2) :: (rp_ 130 (j 0) [(u 4202496), (j 5)]))))) ::
  (116, .cells 156 ((q 115) :: (rp_ 12 (j 0) ((j 1) :: (rp_ 124 (j 0) [(u 0), (j 0)]))))) ::
  (115, .cells 195 [(q 108)]) ::
  (114, mpi .i64 []) ::
  (113, mpi .i64 []) ::
  (112, mpi .i64 []) ::
  (111, mpi .i64 []) ::
  (110, .cells 193 ((q 37) :: (rp_ 256 .ns [(.m 111), (.m 112), (.m 113), (.m 114), (.m 109)]))) ::
  (109, mpi .u64 []) ::
  (108, .cells 151 [(q 37), (q 103), (q 104), .ns, (u 0), (u 0), (u 16384), (u 0)]) ::
  (107, .cells 84 [(q 37), (q 103), (q 104), (q 108), (.sl true 122 1 0 2 (.o 123 0)), (q 110), (.m 105), (q 106), (j 100), .ff, (u 2), (u 0)]) ::
  (106, .cells 187 [(.sl true 4253 4 0 0 (.zr))]) ::
  (105, mpi .i64 []) ::
  (104, .cells 184 [.np, (j 0)]) ::
  (103, .big (.d 1 [])) ::
  (102, .cells 258 [(u 0), (u 0), (u 0)]) ::
  (101, .cells 258 [(u 0), (u 0), (u 0)]) :: h
def A2h1 (h : Heap) : Heap :=
  (100, .cells 258 [(u 0), (u 0), (u 0)]) ::
  (99, .cells 258 [(u 0), (u 0), (u 0)]) ::
  (98, .cells 258 [(u 0), (u 0), (u 0)]) ::
  (97, .cells 258 [(u 0), (u 0), (u 0)]) ::
  (96, .cells 258 [(u 0), (u 0), (u 0)]) ::
  (95, .cells 258 [(u 0), (u 0), (u 0)]) ::
  (94, .cells 258 [(u 0), (u 0), (u 0)]) ::
  (93, .cells 258 [(u 0), (u 0), (u 0)]) ::
  (92, .cells 258 [(u 0), (u 0), (u 0)]) ::
  (91, .cells 258 [(u 0), (u 0), (u 0)]) ::
  (90, .cells 258 [(u 0), (u 0), (u 0)]) ::
  (89, .cells 258 [(u 0), (u 0), (u 0)]) ::
  (88, .cells 258 [(u 0), (u 0), (u 0)]) ::
  (87, .cells 258 [(u 0), (u 0), (u 0)]) ::
  (86, .cells 258 [(u 0), (u 0), (u 0)]) ::
  (85, .cells 258 [(u 0), (u 0), (u 0)]) ::
  (84, .cells 258 [(u 0), (u 0), (u 0)]) ::
  (83, .cells 258 [(u 0), (u 0), (u 0)]) ::
  (82, .cells 258 [(u 0), (u 0), (u 0)]) ::
  (81, .cells 258 [(u 0), (u 0), (u 0)]) ::
  (80, .cells 258 [(u 0), (u 0), (u 0)]) ::
  (79, .cells 258 [(u 0), (u 0), (u 0)]) ::
  (78, .cells 258 [(u 0), (u 0), (u 0)]) ::
  (77, .cells 258 [(u 0), (u 0), (u 0)]) ::
  (76, .cells 258 [(u 0), (u 0), (u 0)]) ::
  (75, .cells 258 [(u 0), (u 0), (u 0)]) ::
  (74, .cells 258 [(u 0), (u 0), (u 0)]) ::
  (73, .cells 258 [(u 0), (u 0), (u 0)]) ::
  (72, .cells 258 [(u 0), (u 0), (u 0)]) ::
  (71, .cells 258 [(u 0), (u 0), (u 0)]) ::
  (70, .cells 258 [(u 0), (u 0), (u 0)]) ::
  (69, .cells 258 [(u 0), (u 0), (u 0)]) ::
  (68, .cells 258 [(u 0), (u 0), (u 0)]) ::
  (67, .cells 258 [(u 0), (u 0), (u 0)]) ::
  (66, .cells 258 [(u 0), (u 0), (u 0)]) ::
  (65, .cells 258 [(u 0), (u 0), (u 0)]) ::
  (64, .cells 258 [(u 0), (u 0), (u 0)]) ::
  (63, .cells 258 [(u 0), (u 0), (u 0)]) ::
  (62, .cells 258 [(u 0), (u 0), (u 0)]) ::
  (61, .cells 258 [(u 0), (u 0), (u 0)]) :: h
def A2h2 (h : Heap) : Heap :=
  (60, .cells 258 [(u 0), (u 0), (u 0)]) ::
  (59, .cells 258 [(u 0), (u 0), (u 0)]) ::
  (58, .cells 258 [(u 0), (u 0), (u 0)]) ::
  (57, .cells 258 [(u 0), (u 0), (u 0)]) ::
  (56, .cells 258 [(u 0), (u 0), (u 0)]) ::
  (55, .cells 258 [(u 0), (u 0), (u 0)]) ::
  (54, .cells 258 [(u 0), (u 0), (u 0)]) ::
  (53, .cells 258 [(u 0), (u 0), (u 0)]) ::
  (52, .cells 258 [(u 0), (u 0), (u 0)]) ::
  (51, .cells 258 [(u 0), (u 0), (u 0)]) ::
  (50, .cells 258 [(u 0), (u 0), (u 0)]) ::
  (49, .cells 258 [(u 0), (u 0), (u 0)]) ::
  (48, .cells 258 [(u 0), (u 0), (u 0)]) ::
  (47, .cells 258 [(u 0), (u 0), (u 0)]) ::
  (46, .cells 258 [(u 0), (u 0), (u 0)]) ::
  (45, .cells 258 [(u 0), (u 0), (u 0)]) ::
  (44, .cells 258 [(u 0), (u 0), (u 0)]) ::
  (43, .cells 258 [(u 0), (u 0), (u 0)]) ::
  (42, .cells 258 [(u 0), (u 0), (u 0)]) ::
  (41, .cells 258 [(u 0), (u 0), (u 0)]) ::
  (40, .cells 258 [(u 512), (u 18446744073709551612), (u 18446744073709551612)]) ::
  (39, .cells 258 [(u 0), (u 0), (u 0)]) ::
  (38, .cells 256 [(j 1), (.sl true 4237 1 0 2 (.o 4238 0)), .np, (j 2)]) ::
  (37, .cells 141 [(q 16), (q 17), (q 35), (q 38), (.m 36), (q 39), (q 40), (q 41), (q 42), (q 43), (q 44), (q 45), (q 46), (q 47), (q 48), (q 49), (q 50), (q 51), (q 52), (q 53), (q 54), (q 55), (q 56), (q 57), (q 58), (q 59), (q 60), (q 61), (q 62), (q 63), (q 64), (q 65), (q 66), (q 67), (q 68), (q 69), (q 70), (q 71), (q 72), (q 73), (q 74), (q 75), (q 76), (q 77), (q 78), (q 79), (q 80), (q 81), (q 82), (q 83), (q 84), (q 85), (q 86), (q 87), (q 88), (q 89), (q 90), (q 91), (q 92), (q 93), (q 94), (q 95), (q 96), (q 97), (q 98), (q 99), (q 100), (q 101), (q 102), (u 1024), (u 2)]) ::
  (36, mpi .i64 [(1, (q 1642)), (2, (q 4234))]) ::
  (35, .cells 246 [(.sl true 1408 2 0 1 (.o 1409 0)), (u 1), .ns, (.m 34)]) ::
  (34, mpi .u64 [(1, (q 1651))]) ::
  (17, .cells 252 [(.sl true 1374 2 0 1 (.o 1375 0)), (u 512), (.sl true 4002 2 0 1 (.o 4003 0)), (u 448), (.sl true 4004 2 0 1 (.o 4005 0)), (u 448), (.sl true 4006 2 0 0 (.zr)), (u 0), (.sl true 4021 1 0 4 (.o 4022 0))]) ::
  (16, .cells 181 [(.sl true 11 1 0 0 (.zr)), (.sl true 12 1 0 0 (.zr)), (.sl true 13 1 0 0 (.zr)), (.sl true 1368 2 0 1 (.o 1369 0)), (u 512), (.sl true 4030 2 0 1 (.o 4031 0)), (u 2), (.sl true 4024 2 0 0 (.zr)), (u 0), (.m 14), (.m 15)]) ::
  (15, mpi .u64 []) ::
  (14, mpi .u64 []) ::
  (13, .vec 22 1 [] (.c 0)) ::
  (12, .vec 4 1 [] (.c 0)) ::
  (11, .vec 22 1 [] (.c 0)) ::
  (2, .big .n) ::
  (1, .big .n) ::
  (0, .big .z) :: h
def A2h : Heap := A2h0 (A2h1 (A2h2 []))

set_option maxRecDepth 100000 in
theorem aw2_sure : (runP Tryz.prog wtA 13 Tryz.f13 [F0v, .agg [.l .i64 1, .l .i64 1, .l .u64 5, .l .u64 0, .l .i64 0, .l .u64 0, .ff, .l .i64 0, .ns, .ns]] A1h A1n tellK).sure (isRes A2v A2h A2n) = true := by kernel_rfl
end SX
end Go.Proofs.YtnjaaagiindclaaGreatDoor

/-
  awake, step 3.
-/
namespace Go.Proofs.YtnjaaagiindclaaGreatDoor
open Go.RowKit Go.Deep
namespace SX
/- A3 r: 118 objects of 281 -/
def A3v : SV := (.agg [(u 0), (u 2), (j 0)])
def A3n : Nat := 8515
def A3h0 (h : Heap) : Heap :=
  (4411, .vec 22 1 [(u 1)] (.o 4412 0)) ::
  (4253, .vec 210 4 [] (.c 0)) ::
  (4244, .vec 22 1 [(u 1)] (.o 4245 0)) ::
  (4237, .vec 254 1 [(q 1643), (q 4235)] (.o 4238 0)) ::
  (4235, .cells 327 [(j 2), .tt, .np]) ::
  (4234, .cells 146 [(u 4202496), (j 1), (j 1), (j 2), .tt, (j 16), (j 512), (j 1), .ff, .ff, (.l .u32 268435456), (.sl true 4244 1 0 1 (.o 4245 0)), (.sl true 4411 1 0 1 (.o 4412 0)), (j 1)]) ::
  (4030, .vec 290 2 [(u 512), (u 514)] (.o 4031 0)) ::
  (4024, .vec 290 2 [] (.c 0)) ::
  (4021, .vec 304 1 [(.m 4007), (.m 4011), (.m 4015), (.m 4019)] (.o 4022 0)) ::
  (4019, mpi .u64 []) ::
  (4015, mpi .u64 []) ::
  (4011, mpi .u64 []) ::
  (4007, mpi .u64 []) ::
  (4006, .vec 290 2 [] (.c 0)) ::
  (4004, .vec 290 2 [(u 576), (u 1024)] (.o 4005 0)) ::
  (4002, .vec 290 2 [(u 576), (u 1024)] (.o 4003 0)) ::
  (1653, .vec 22 1 [(u 1)] (.o 1654 0)) ::
  (1651, .cells 356 ((j 1) :: (j 2) :: (rp_ 510 (j 0) []))) ::
  (1643, .cells 327 [(j 1), .tt, .np]) ::
  (1642, .cells 146 [(u 4194304), (j 1), (j 1), (j 5), .tt, (j 48), (j 170), (j 1), .ff, .ff, (.l .u32 89478486), (.sl true 1653 1 0 1 (.o 1654 0)), .ns, (j 1)]) ::
  (1408, .vec 290 2 [(u 1), (u 2)] (.o 1409 0)) ::
  (1374, .vec 290 2 [(u 512), (u 1024)] (.o 1375 0)) ::
  (1368, .vec 290 2 [(u 512), (u 1024)] (.o 1369 0)) ::
  (122, .vec 97 1 [(q 116), (q 120)] (.o 123 0)) ::
  (120, .cells 156 ((q 115) :: (j 1) :: (rp_ 136 (j 0) [(u 0), (j 0)]))) ::
  (116, .cells 156 ((q 115) :: (rp_ 137 (j 0) [(u 0), (j 0)]))) ::
  (115, .cells 195 [(q 108)]) ::
  (114, mpi .i64 []) ::
  (113, mpi .i64 []) ::
  (112, mpi .i64 []) ::
  (111, mpi .i64 []) ::
  (110, .cells 193 ((q 37) :: (rp_ 256 .ns [(.m 111), (.m 112), (.m 113), (.m 114), (.m 109)]))) ::
  (109, mpi .u64 []) ::
  (108, .cells 151 [(q 37), (q 103), (q 104), .ns, (u 0), (u 4512606895345762320), (u 0), (u 0)]) ::
  (107, .cells 84 [(q 37), (q 103), (q 104), (q 108), (.sl true 122 1 0 2 (.o 123 0)), (q 110), (.m 105), (q 106), (j 100), .ff, (u 2), (u 1)]) ::
  (106, .cells 187 [(.sl true 4253 4 0 0 (.zr))]) ::
  (105, mpi .i64 []) ::
  (104, .cells 184 [.np, (j 0)]) ::
  (103, .big (.d 1 [[1, 4194304, 5, 1, 0, 0], [2, 4202496, 2, 1, 0, 0]])) ::
  (102, .cells 258 [(u 0), (u 0), (u 0)]) :: h
def A3h1 (h : Heap) : Heap :=
  (101, .cells 258 [(u 0), (u 0), (u 0)]) ::
  (100, .cells 258 [(u 0), (u 0), (u 0)]) ::
  (99, .cells 258 [(u 0), (u 0), (u 0)]) ::
  (98, .cells 258 [(u 0), (u 0), (u 0)]) ::
  (97, .cells 258 [(u 0), (u 0), (u 0)]) ::
  (96, .cells 258 [(u 0), (u 0), (u 0)]) ::
  (95, .cells 258 [(u 0), (u 0), (u 0)]) ::
  (94, .cells 258 [(u 0), (u 0), (u 0)]) ::
  (93, .cells 258 [(u 0), (u 0), (u 0)]) ::
  (92, .cells 258 [(u 0), (u 0), (u 0)]) ::
  (91, .cells 258 [(u 0), (u 0), (u 0)]) ::
  (90, .cells 258 [(u 0), (u 0), (u 0)]) ::
  (89, .cells 258 [(u 0), (u 0), (u 0)]) ::
  (88, .cells 258 [(u 0), (u 0), (u 0)]) ::
  (87, .cells 258 [(u 0), (u 0), (u 0)]) ::
  (86, .cells 258 [(u 0), (u 0), (u 0)]) ::
  (85, .cells 258 [(u 0), (u 0), (u 0)]) ::
  (84, .cells 258 [(u 0), (u 0), (u 0)]) ::
  (83, .cells 258 [(u 0), (u 0), (u 0)]) ::
  (82, .cells 258 [(u 0), (u 0), (u 0)]) ::
  (81, .cells 258 [(u 0), (u 0), (u 0)]) ::
  (80, .cells 258 [(u 0), (u 0), (u 0)]) ::
  (79, .cells 258 [(u 0), (u 0), (u 0)]) ::
  (78, .cells 258 [(u 0), (u 0), (u 0)]) ::
  (77, .cells 258 [(u 0), (u 0), (u 0)]) ::
  (76, .cells 258 [(u 0), (u 0), (u 0)]) ::
  (75, .cells 258 [(u 0), (u 0), (u 0)]) ::
  (74, .cells 258 [(u 0), (u 0), (u 0)]) ::
  (73, .cells 258 [(u 0), (u 0), (u 0)]) ::
  (72, .cells 258 [(u 0), (u 0), (u 0)]) ::
  (71, .cells 258 [(u 0), (u 0), (u 0)]) ::
  (70, .cells 258 [(u 0), (u 0), (u 0)]) ::
  (69, .cells 258 [(u 0), (u 0), (u 0)]) ::
  (68, .cells 258 [(u 0), (u 0), (u 0)]) ::
  (67, .cells 258 [(u 0), (u 0), (u 0)]) ::
  (66, .cells 258 [(u 0), (u 0), (u 0)]) ::
  (65, .cells 258 [(u 0), (u 0), (u 0)]) ::
  (64, .cells 258 [(u 0), (u 0), (u 0)]) ::
  (63, .cells 258 [(u 0), (u 0), (u 0)]) ::
  (62, .cells 258 [(u 0), (u 0), (u 0)]) :: h
def A3h2 (h : Heap) : Heap :=
  (61, .cells 258 [(u 0), (u 0), (u 0)]) ::
  (60, .cells 258 [(u 0), (u 0), (u 0)]) ::
  (59, .cells 258 [(u 0), (u 0), (u 0)]) ::
  (58, .cells 258 [(u 0), (u 0), (u 0)]) ::
  (57, .cells 258 [(u 0), (u 0), (u 0)]) ::
  (56, .cells 258 [(u 0), (u 0), (u 0)]) ::
  (55, .cells 258 [(u 0), (u 0), (u 0)]) ::
  (54, .cells 258 [(u 0), (u 0), (u 0)]) ::
  (53, .cells 258 [(u 0), (u 0), (u 0)]) ::
  (52, .cells 258 [(u 0), (u 0), (u 0)]) ::
  (51, .cells 258 [(u 0), (u 0), (u 0)]) ::
  (50, .cells 258 [(u 0), (u 0), (u 0)]) ::
  (49, .cells 258 [(u 0), (u 0), (u 0)]) ::
  (48, .cells 258 [(u 0), (u 0), (u 0)]) ::
  (47, .cells 258 [(u 0), (u 0), (u 0)]) ::
  (46, .cells 258 [(u 0), (u 0), (u 0)]) ::
  (45, .cells 258 [(u 0), (u 0), (u 0)]) ::
  (44, .cells 258 [(u 0), (u 0), (u 0)]) ::
  (43, .cells 258 [(u 0), (u 0), (u 0)]) ::
  (42, .cells 258 [(u 0), (u 0), (u 0)]) ::
  (41, .cells 258 [(u 0), (u 0), (u 0)]) ::
  (40, .cells 258 [(u 512), (u 18446744073709551612), (u 18446744073709551612)]) ::
  (39, .cells 258 [(u 0), (u 0), (u 0)]) ::
  (38, .cells 256 [(j 1), (.sl true 4237 1 0 2 (.o 4238 0)), .np, (j 2)]) ::
  (37, .cells 141 [(q 16), (q 17), (q 35), (q 38), (.m 36), (q 39), (q 40), (q 41), (q 42), (q 43), (q 44), (q 45), (q 46), (q 47), (q 48), (q 49), (q 50), (q 51), (q 52), (q 53), (q 54), (q 55), (q 56), (q 57), (q 58), (q 59), (q 60), (q 61), (q 62), (q 63), (q 64), (q 65), (q 66), (q 67), (q 68), (q 69), (q 70), (q 71), (q 72), (q 73), (q 74), (q 75), (q 76), (q 77), (q 78), (q 79), (q 80), (q 81), (q 82), (q 83), (q 84), (q 85), (q 86), (q 87), (q 88), (q 89), (q 90), (q 91), (q 92), (q 93), (q 94), (q 95), (q 96), (q 97), (q 98), (q 99), (q 100), (q 101), (q 102), (u 1024), (u 2)]) ::
  (36, mpi .i64 [(1, (q 1642)), (2, (q 4234))]) ::
  (35, .cells 246 [(.sl true 1408 2 0 1 (.o 1409 0)), (u 1), .ns, (.m 34)]) ::
  (34, mpi .u64 [(1, (q 1651))]) ::
  (17, .cells 252 [(.sl true 1374 2 0 1 (.o 1375 0)), (u 512), (.sl true 4002 2 0 1 (.o 4003 0)), (u 448), (.sl true 4004 2 0 1 (.o 4005 0)), (u 448), (.sl true 4006 2 0 0 (.zr)), (u 0), (.sl true 4021 1 0 4 (.o 4022 0))]) ::
  (16, .cells 181 [(.sl true 11 1 0 0 (.zr)), (.sl true 12 1 0 0 (.zr)), (.sl true 13 1 0 0 (.zr)), (.sl true 1368 2 0 1 (.o 1369 0)), (u 512), (.sl true 4030 2 0 1 (.o 4031 0)), (u 2), (.sl true 4024 2 0 0 (.zr)), (u 0), (.m 14), (.m 15)]) ::
  (15, mpi .u64 []) ::
  (14, mpi .u64 []) ::
  (13, .vec 22 1 [] (.c 0)) ::
  (12, .vec 4 1 [] (.c 0)) ::
  (11, .vec 22 1 [] (.c 0)) ::
  (2, .big .n) ::
  (1, .big .n) ::
  (0, .big .z) :: h
def A3h : Heap := A3h0 (A3h1 (A3h2 []))

set_option maxRecDepth 100000 in
theorem aw3_sure : (runP Tryz.prog wtA 13 Tryz.f13 [F0v, .agg [.l .i64 6, .l .i64 0, .l .u64 0, .l .u64 0, .l .i64 0, .l .u64 0, .ff, .l .i64 0, .ns, .sl true A2n 1 0 1 (.c 1)]] ((A2n, .vec 22 1 [.l .u64 4202500] (.c 1)) :: A2h) (A2n + 1) tellK).sure (isRes A3v A3h A3n) = true := by kernel_rfl
end SX
end Go.Proofs.YtnjaaagiindclaaGreatDoor

/-
  awake, step 4.
-/
namespace Go.Proofs.YtnjaaagiindclaaGreatDoor
open Go.RowKit Go.Deep
namespace SX
/- A4 r: 115 objects of 174 -/
def A4v : SV := (.agg [(u 0), (u 2), (j 0)])
def A4n : Nat := 8580
def A4h0 (h : Heap) : Heap :=
  (8565, .vec 304 1 [(.m 8551), (.m 8555), (.m 8559), (.m 8563)] (.o 8566 0)) ::
  (8563, mpi .u64 []) ::
  (8559, mpi .u64 []) ::
  (8555, mpi .u64 []) ::
  (8551, mpi .u64 []) ::
  (8549, .vec 290 2 [(u 512), (u 513)] (.o 8550 0)) ::
  (8543, .vec 290 2 [(u 512), (u 513), (u 576), (u 1024)] (.o 8544 0)) ::
  (4253, .vec 210 4 [] (.c 0)) ::
  (4244, .vec 22 1 [(u 1)] (.o 4245 0)) ::
  (4237, .vec 254 1 [(q 1643), (q 4235)] (.o 4238 0)) ::
  (4235, .cells 327 [(j 2), .tt, .np]) ::
  (4234, .cells 146 [(u 4202496), (j 1), (j 1), (j 2), .tt, (j 16), (j 512), (j 1), .ff, .ff, (.l .u32 268435456), (.sl true 4244 1 0 1 (.o 4245 0)), .ns, (j 0)]) ::
  (4030, .vec 290 2 [(u 512), (u 514)] (.o 4031 0)) ::
  (4024, .vec 290 2 [] (.c 0)) ::
  (4004, .vec 290 2 [(u 576), (u 1024)] (.o 4005 0)) ::
  (1651, .cells 356 ((j 0) :: (j 2) :: (rp_ 510 (j 0) []))) ::
  (1643, .cells 327 [(j 1), .ff, .np]) ::
  (1408, .vec 290 2 [(u 1), (u 2)] (.o 1409 0)) ::
  (1374, .vec 290 2 [(u 512), (u 1024)] (.o 1375 0)) ::
  (1368, .vec 290 2 [(u 512), (u 1024)] (.o 1369 0)) ::
  (122, .vec 97 1 [(q 116), (q 120)] (.o 123 0)) ::
  (120, .cells 156 ((q 115) :: (j 1) :: (rp_ 136 (j 0) [(u 0), (j 0)]))) ::
  (116, .cells 156 ((q 115) :: (rp_ 137 (j 0) [(u 0), (j 0)]))) ::
  (115, .cells 195 [(q 108)]) ::
  (114, mpi .i64 []) ::
  (113, mpi .i64 []) ::
  (112, mpi .i64 []) ::
  (111, mpi .i64 []) ::
  (110, .cells 193 ((q 37) :: (rp_ 256 .ns [(.m 111), (.m 112), (.m 113), (.m 114), (.m 109)]))) ::
  (109, mpi .u64 []) ::
  (108, .cells 151 [(q 37), (q 103), (q 104), .ns, (u 1), (u 4512606895345762320), (u 0), (u 2)]) ::
  (107, .cells 84 [(q 37), (q 103), (q 104), (q 108), (.sl true 122 1 0 2 (.o 123 0)), (q 110), (.m 105), (q 106), (j 100), .ff, (u 2), (u 1)]) ::
  (106, .cells 187 [(.sl true 4253 4 0 0 (.zr))]) ::
  (105, mpi .i64 []) ::
  (104, .cells 184 [.np, (j 0)]) ::
  (103, .big (.d 1 [[2, 4202496, 2, 1, 0, 1]])) ::
  (102, .cells 258 [(u 0), (u 0), (u 0)]) ::
  (101, .cells 258 [(u 0), (u 0), (u 0)]) ::
  (100, .cells 258 [(u 0), (u 0), (u 0)]) ::
  (99, .cells 258 [(u 0), (u 0), (u 0)]) :: h
def A4h1 (h : Heap) : Heap :=
  (98, .cells 258 [(u 0), (u 0), (u 0)]) ::
  (97, .cells 258 [(u 0), (u 0), (u 0)]) ::
  (96, .cells 258 [(u 0), (u 0), (u 0)]) ::
  (95, .cells 258 [(u 0), (u 0), (u 0)]) ::
  (94, .cells 258 [(u 0), (u 0), (u 0)]) ::
  (93, .cells 258 [(u 0), (u 0), (u 0)]) ::
  (92, .cells 258 [(u 0), (u 0), (u 0)]) ::
  (91, .cells 258 [(u 0), (u 0), (u 0)]) ::
  (90, .cells 258 [(u 0), (u 0), (u 0)]) ::
  (89, .cells 258 [(u 0), (u 0), (u 0)]) ::
  (88, .cells 258 [(u 0), (u 0), (u 0)]) ::
  (87, .cells 258 [(u 0), (u 0), (u 0)]) ::
  (86, .cells 258 [(u 0), (u 0), (u 0)]) ::
  (85, .cells 258 [(u 0), (u 0), (u 0)]) ::
  (84, .cells 258 [(u 0), (u 0), (u 0)]) ::
  (83, .cells 258 [(u 0), (u 0), (u 0)]) ::
  (82, .cells 258 [(u 0), (u 0), (u 0)]) ::
  (81, .cells 258 [(u 0), (u 0), (u 0)]) ::
  (80, .cells 258 [(u 0), (u 0), (u 0)]) ::
  (79, .cells 258 [(u 0), (u 0), (u 0)]) ::
  (78, .cells 258 [(u 0), (u 0), (u 0)]) ::
  (77, .cells 258 [(u 0), (u 0), (u 0)]) ::
  (76, .cells 258 [(u 0), (u 0), (u 0)]) ::
  (75, .cells 258 [(u 0), (u 0), (u 0)]) ::
  (74, .cells 258 [(u 0), (u 0), (u 0)]) ::
  (73, .cells 258 [(u 0), (u 0), (u 0)]) ::
  (72, .cells 258 [(u 0), (u 0), (u 0)]) ::
  (71, .cells 258 [(u 0), (u 0), (u 0)]) ::
  (70, .cells 258 [(u 0), (u 0), (u 0)]) ::
  (69, .cells 258 [(u 0), (u 0), (u 0)]) ::
  (68, .cells 258 [(u 0), (u 0), (u 0)]) ::
  (67, .cells 258 [(u 0), (u 0), (u 0)]) ::
  (66, .cells 258 [(u 0), (u 0), (u 0)]) ::
  (65, .cells 258 [(u 0), (u 0), (u 0)]) ::
  (64, .cells 258 [(u 0), (u 0), (u 0)]) ::
  (63, .cells 258 [(u 0), (u 0), (u 0)]) ::
  (62, .cells 258 [(u 0), (u 0), (u 0)]) ::
  (61, .cells 258 [(u 0), (u 0), (u 0)]) ::
  (60, .cells 258 [(u 0), (u 0), (u 0)]) ::
  (59, .cells 258 [(u 0), (u 0), (u 0)]) :: h
def A4h2 (h : Heap) : Heap :=
  (58, .cells 258 [(u 0), (u 0), (u 0)]) ::
  (57, .cells 258 [(u 0), (u 0), (u 0)]) ::
  (56, .cells 258 [(u 0), (u 0), (u 0)]) ::
  (55, .cells 258 [(u 0), (u 0), (u 0)]) ::
  (54, .cells 258 [(u 0), (u 0), (u 0)]) ::
  (53, .cells 258 [(u 0), (u 0), (u 0)]) ::
  (52, .cells 258 [(u 0), (u 0), (u 0)]) ::
  (51, .cells 258 [(u 0), (u 0), (u 0)]) ::
  (50, .cells 258 [(u 0), (u 0), (u 0)]) ::
  (49, .cells 258 [(u 0), (u 0), (u 0)]) ::
  (48, .cells 258 [(u 0), (u 0), (u 0)]) ::
  (47, .cells 258 [(u 0), (u 0), (u 0)]) ::
  (46, .cells 258 [(u 0), (u 0), (u 0)]) ::
  (45, .cells 258 [(u 0), (u 0), (u 0)]) ::
  (44, .cells 258 [(u 0), (u 0), (u 0)]) ::
  (43, .cells 258 [(u 0), (u 0), (u 0)]) ::
  (42, .cells 258 [(u 0), (u 0), (u 0)]) ::
  (41, .cells 258 [(u 0), (u 0), (u 0)]) ::
  (40, .cells 258 [(u 512), (u 18446744073709551612), (u 18446744073709551612)]) ::
  (39, .cells 258 [(u 0), (u 0), (u 0)]) ::
  (38, .cells 256 [(j 1), (.sl true 4237 1 0 2 (.o 4238 0)), (q 1643), (j 1)]) ::
  (37, .cells 141 [(q 16), (q 17), (q 35), (q 38), (.m 36), (q 39), (q 40), (q 41), (q 42), (q 43), (q 44), (q 45), (q 46), (q 47), (q 48), (q 49), (q 50), (q 51), (q 52), (q 53), (q 54), (q 55), (q 56), (q 57), (q 58), (q 59), (q 60), (q 61), (q 62), (q 63), (q 64), (q 65), (q 66), (q 67), (q 68), (q 69), (q 70), (q 71), (q 72), (q 73), (q 74), (q 75), (q 76), (q 77), (q 78), (q 79), (q 80), (q 81), (q 82), (q 83), (q 84), (q 85), (q 86), (q 87), (q 88), (q 89), (q 90), (q 91), (q 92), (q 93), (q 94), (q 95), (q 96), (q 97), (q 98), (q 99), (q 100), (q 101), (q 102), (u 1024), (u 1)]) ::
  (36, mpi .i64 [(2, (q 4234))]) ::
  (35, .cells 246 [(.sl true 1408 2 0 1 (.o 1409 0)), (u 1), .ns, (.m 34)]) ::
  (34, mpi .u64 [(1, (q 1651))]) ::
  (17, .cells 252 [(.sl true 1374 2 0 1 (.o 1375 0)), (u 512), (.sl true 8543 2 0 2 (.o 8544 0)), (u 449), (.sl true 4004 2 0 1 (.o 4005 0)), (u 448), (.sl true 8549 2 0 1 (.o 8550 0)), (u 1), (.sl true 8565 1 0 4 (.o 8566 0))]) ::
  (16, .cells 181 [(.sl true 11 1 0 0 (.zr)), (.sl true 12 1 0 0 (.zr)), (.sl true 13 1 0 0 (.zr)), (.sl true 1368 2 0 1 (.o 1369 0)), (u 512), (.sl true 4030 2 0 1 (.o 4031 0)), (u 2), (.sl true 4024 2 0 0 (.zr)), (u 0), (.m 14), (.m 15)]) ::
  (15, mpi .u64 []) ::
  (14, mpi .u64 []) ::
  (13, .vec 22 1 [] (.c 0)) ::
  (12, .vec 4 1 [] (.c 0)) ::
  (11, .vec 22 1 [] (.c 0)) ::
  (2, .big .n) ::
  (1, .big .n) ::
  (0, .big .z) :: h
def A4h : Heap := A4h0 (A4h1 (A4h2 []))

set_option maxRecDepth 100000 in
theorem aw4_sure : (runP Tryz.prog wtA 13 Tryz.f13 [F0v, .agg [.l .i64 7, .l .i64 0, .l .u64 9, .l .u64 0, .l .i64 0, .l .u64 0, .ff, .l .i64 0, .ns, .ns]] A3h A3n tellK).sure (isRes A4v A4h A4n) = true := by kernel_rfl
end SX
end Go.Proofs.YtnjaaagiindclaaGreatDoor

/-
  awake, step 5.
-/
namespace Go.Proofs.YtnjaaagiindclaaGreatDoor
open Go.RowKit Go.Deep
namespace SX
/- A5 r: 116 objects of 632 -/
def A5v : SV := (.sl true 12679 1 0 1 (.o 12680 0))
def A5n : Nat := 13193
def A5h0 (h : Heap) : Heap :=
  (12679, .vec 22 1 [(u 4202496)] (.o 12680 0)) ::
  (8565, .vec 304 1 [(.m 8551), (.m 8555), (.m 8559), (.m 8563)] (.o 8566 0)) ::
  (8563, mpi .u64 []) ::
  (8559, mpi .u64 []) ::
  (8555, mpi .u64 []) ::
  (8551, mpi .u64 []) ::
  (8549, .vec 290 2 [(u 512), (u 513)] (.o 8550 0)) ::
  (8543, .vec 290 2 [(u 512), (u 513), (u 576), (u 1024)] (.o 8544 0)) ::
  (4253, .vec 210 4 [] (.c 0)) ::
  (4244, .vec 22 1 [(u 1)] (.o 4245 0)) ::
  (4237, .vec 254 1 [(q 1643), (q 4235)] (.o 4238 0)) ::
  (4235, .cells 327 [(j 2), .tt, .np]) ::
  (4234, .cells 146 [(u 4202496), (j 1), (j 1), (j 2), .tt, (j 16), (j 512), (j 1), .ff, .ff, (.l .u32 268435456), (.sl true 4244 1 0 1 (.o 4245 0)), .ns, (j 0)]) ::
  (4030, .vec 290 2 [(u 512), (u 514)] (.o 4031 0)) ::
  (4024, .vec 290 2 [] (.c 0)) ::
  (4004, .vec 290 2 [(u 576), (u 1024)] (.o 4005 0)) ::
  (1651, .cells 356 ((j 0) :: (j 2) :: (rp_ 510 (j 0) []))) ::
  (1643, .cells 327 [(j 1), .ff, .np]) ::
  (1408, .vec 290 2 [(u 1), (u 2)] (.o 1409 0)) ::
  (1374, .vec 290 2 [(u 512), (u 1024)] (.o 1375 0)) ::
  (1368, .vec 290 2 [(u 512), (u 1024)] (.o 1369 0)) ::
  (122, .vec 97 1 [(q 116), (q 120)] (.o 123 0)) ::
  (120, .cells 156 ((q 115) :: (j 1) :: (rp_ 136 (j 0) [(u 0), (j 0)]))) ::
  (116, .cells 156 ((q 115) :: (rp_ 137 (j 0) [(u 0), (j 0)]))) ::
  (115, .cells 195 [(q 108)]) ::
  (114, mpi .i64 []) ::
  (113, mpi .i64 []) ::
  (112, mpi .i64 []) ::
  (111, mpi .i64 []) ::
  (110, .cells 193 ((q 37) :: (rp_ 256 .ns [(.m 111), (.m 112), (.m 113), (.m 114), (.m 109)]))) ::
  (109, mpi .u64 []) ::
  (108, .cells 151 [(q 37), (q 103), (q 104), .ns, (u 1), (u 4512606895345762320), (u 0), (u 2)]) ::
  (107, .cells 84 [(q 37), (q 103), (q 104), (q 108), (.sl true 122 1 0 2 (.o 123 0)), (q 110), (.m 105), (q 106), (j 100), .ff, (u 2), (u 1)]) ::
  (106, .cells 187 [(.sl true 4253 4 0 0 (.zr))]) ::
  (105, mpi .i64 []) ::
  (104, .cells 184 [.np, (j 0)]) ::
  (103, .big (.d 1 [[2, 4202496, 2, 1, 0, 1]])) ::
  (102, .cells 258 [(u 0), (u 0), (u 0)]) ::
  (101, .cells 258 [(u 0), (u 0), (u 0)]) ::
  (100, .cells 258 [(u 0), (u 0), (u 0)]) :: h
def A5h1 (h : Heap) : Heap :=
  (99, .cells 258 [(u 0), (u 0), (u 0)]) ::
  (98, .cells 258 [(u 0), (u 0), (u 0)]) ::
  (97, .cells 258 [(u 0), (u 0), (u 0)]) ::
  (96, .cells 258 [(u 0), (u 0), (u 0)]) ::
  (95, .cells 258 [(u 0), (u 0), (u 0)]) ::
  (94, .cells 258 [(u 0), (u 0), (u 0)]) ::
  (93, .cells 258 [(u 0), (u 0), (u 0)]) ::
  (92, .cells 258 [(u 0), (u 0), (u 0)]) ::
  (91, .cells 258 [(u 0), (u 0), (u 0)]) ::
  (90, .cells 258 [(u 0), (u 0), (u 0)]) ::
  (89, .cells 258 [(u 0), (u 0), (u 0)]) ::
  (88, .cells 258 [(u 0), (u 0), (u 0)]) ::
  (87, .cells 258 [(u 0), (u 0), (u 0)]) ::
  (86, .cells 258 [(u 0), (u 0), (u 0)]) ::
  (85, .cells 258 [(u 0), (u 0), (u 0)]) ::
  (84, .cells 258 [(u 0), (u 0), (u 0)]) ::
  (83, .cells 258 [(u 0), (u 0), (u 0)]) ::
  (82, .cells 258 [(u 0), (u 0), (u 0)]) ::
  (81, .cells 258 [(u 0), (u 0), (u 0)]) ::
  (80, .cells 258 [(u 0), (u 0), (u 0)]) ::
  (79, .cells 258 [(u 0), (u 0), (u 0)]) ::
  (78, .cells 258 [(u 0), (u 0), (u 0)]) ::
  (77, .cells 258 [(u 0), (u 0), (u 0)]) ::
  (76, .cells 258 [(u 0), (u 0), (u 0)]) ::
  (75, .cells 258 [(u 0), (u 0), (u 0)]) ::
  (74, .cells 258 [(u 0), (u 0), (u 0)]) ::
  (73, .cells 258 [(u 0), (u 0), (u 0)]) ::
  (72, .cells 258 [(u 0), (u 0), (u 0)]) ::
  (71, .cells 258 [(u 0), (u 0), (u 0)]) ::
  (70, .cells 258 [(u 0), (u 0), (u 0)]) ::
  (69, .cells 258 [(u 0), (u 0), (u 0)]) ::
  (68, .cells 258 [(u 0), (u 0), (u 0)]) ::
  (67, .cells 258 [(u 0), (u 0), (u 0)]) ::
  (66, .cells 258 [(u 0), (u 0), (u 0)]) ::
  (65, .cells 258 [(u 0), (u 0), (u 0)]) ::
  (64, .cells 258 [(u 0), (u 0), (u 0)]) ::
  (63, .cells 258 [(u 0), (u 0), (u 0)]) ::
  (62, .cells 258 [(u 0), (u 0), (u 0)]) ::
  (61, .cells 258 [(u 0), (u 0), (u 0)]) ::
  (60, .cells 258 [(u 0), (u 0), (u 0)]) :: h
def A5h2 (h : Heap) : Heap :=
  (59, .cells 258 [(u 0), (u 0), (u 0)]) ::
  (58, .cells 258 [(u 0), (u 0), (u 0)]) ::
  (57, .cells 258 [(u 0), (u 0), (u 0)]) ::
  (56, .cells 258 [(u 0), (u 0), (u 0)]) ::
  (55, .cells 258 [(u 0), (u 0), (u 0)]) ::
  (54, .cells 258 [(u 0), (u 0), (u 0)]) ::
  (53, .cells 258 [(u 0), (u 0), (u 0)]) ::
  (52, .cells 258 [(u 0), (u 0), (u 0)]) ::
  (51, .cells 258 [(u 0), (u 0), (u 0)]) ::
  (50, .cells 258 [(u 0), (u 0), (u 0)]) ::
  (49, .cells 258 [(u 0), (u 0), (u 0)]) ::
  (48, .cells 258 [(u 0), (u 0), (u 0)]) ::
  (47, .cells 258 [(u 0), (u 0), (u 0)]) ::
  (46, .cells 258 [(u 0), (u 0), (u 0)]) ::
  (45, .cells 258 [(u 0), (u 0), (u 0)]) ::
  (44, .cells 258 [(u 0), (u 0), (u 0)]) ::
  (43, .cells 258 [(u 0), (u 0), (u 0)]) ::
  (42, .cells 258 [(u 0), (u 0), (u 0)]) ::
  (41, .cells 258 [(u 0), (u 0), (u 0)]) ::
  (40, .cells 258 [(u 512), (u 18446744073709551612), (u 18446744073709551612)]) ::
  (39, .cells 258 [(u 0), (u 0), (u 0)]) ::
  (38, .cells 256 [(j 1), (.sl true 4237 1 0 2 (.o 4238 0)), (q 1643), (j 1)]) ::
  (37, .cells 141 [(q 16), (q 17), (q 35), (q 38), (.m 36), (q 39), (q 40), (q 41), (q 42), (q 43), (q 44), (q 45), (q 46), (q 47), (q 48), (q 49), (q 50), (q 51), (q 52), (q 53), (q 54), (q 55), (q 56), (q 57), (q 58), (q 59), (q 60), (q 61), (q 62), (q 63), (q 64), (q 65), (q 66), (q 67), (q 68), (q 69), (q 70), (q 71), (q 72), (q 73), (q 74), (q 75), (q 76), (q 77), (q 78), (q 79), (q 80), (q 81), (q 82), (q 83), (q 84), (q 85), (q 86), (q 87), (q 88), (q 89), (q 90), (q 91), (q 92), (q 93), (q 94), (q 95), (q 96), (q 97), (q 98), (q 99), (q 100), (q 101), (q 102), (u 1024), (u 1)]) ::
  (36, mpi .i64 [(2, (q 4234))]) ::
  (35, .cells 246 [(.sl true 1408 2 0 1 (.o 1409 0)), (u 1), .ns, (.m 34)]) ::
  (34, mpi .u64 [(1, (q 1651))]) ::
  (17, .cells 252 [(.sl true 1374 2 0 1 (.o 1375 0)), (u 512), (.sl true 8543 2 0 2 (.o 8544 0)), (u 449), (.sl true 4004 2 0 1 (.o 4005 0)), (u 448), (.sl true 8549 2 0 1 (.o 8550 0)), (u 1), (.sl true 8565 1 0 4 (.o 8566 0))]) ::
  (16, .cells 181 [(.sl true 11 1 0 0 (.zr)), (.sl true 12 1 0 0 (.zr)), (.sl true 13 1 0 0 (.zr)), (.sl true 1368 2 0 1 (.o 1369 0)), (u 512), (.sl true 4030 2 0 1 (.o 4031 0)), (u 2), (.sl true 4024 2 0 0 (.zr)), (u 0), (.m 14), (.m 15)]) ::
  (15, mpi .u64 []) ::
  (14, mpi .u64 []) ::
  (13, .vec 22 1 [] (.c 0)) ::
  (12, .vec 4 1 [] (.c 0)) ::
  (11, .vec 22 1 [] (.c 0)) ::
  (2, .big .n) ::
  (1, .big .n) ::
  (0, .big .z) :: h
def A5h : Heap := A5h0 (A5h1 (A5h2 []))

set_option maxRecDepth 100000 in
theorem aw5_sure : (runP Tryz.prog wtA 15 Tryz.f15 [F0v] A4h A4n tellK).sure (isRes A5v A5h A5n) = true := by kernel_rfl
end SX
end Go.Proofs.YtnjaaagiindclaaGreatDoor

/-
  awake, walked. The table of TrailingZeros64 lies.
-/
namespace Go.Proofs.YtnjaaagiindclaaGreatDoor
open Go.RowKit Go.Deep
attribute [local go_sem] Oper.semAt_some
namespace SX
/-- memory as it is written -/
noncomputable def litT (h0 : Heap) (n0 : Nat) : Heap → Nat → Tree := fun h n => .need (h = h0 ∧ n = n0) .stop
theorem Sd.lit {C : Ctx} {g N1 N2 n0 : Nat} {h0 : Heap} {w : World} (h : Sd C g N1 N2 (litT h0 n0) w) : ∃ ρ, Holds C ρ h0 w ∧ ρ.bd n0 ∧ Ids ρ g N1 N2 := by
  obtain ⟨ρ, h1, n1, hH, hbd, hI, ⟨⟨rfl, rfl⟩, _⟩⟩ := h
  exact ⟨ρ, hH, hbd, hI⟩
theorem Sd.of {C : Ctx} {g N1 N2 n0 : Nat} {h0 : Heap} {w : World} {ρ : Ren} (hH : Holds C ρ h0 w) (hbd : ρ.bd n0) (hI : Ids ρ g N1 N2) : Sd C g N1 N2 (litT h0 n0) w :=
  ⟨ρ, h0, n0, hH, hbd, hI, ⟨rfl, rfl⟩, fun _ => trivial⟩
def awL (op p n : Nat) (s : SV) : List SV := [F0v, .agg [.l .i64 (op : Int), .l .i64 (p : Int), .l .u64 (n : Int), .l .u64 0, .l .i64 0, .l .u64 0, .ff, .l .i64 0, .ns, s]]
def awV (op p n : Nat) (s : Value) : Value := .agg #[.int .i64 (op : Int), .int .i64 (p : Int), .int .u64 (n : Int), .int .u64 0, .int .i64 0, .int .u64 0, .bool false, .int .i64 0, .slice none 0 0, s]
theorem awL_rel {ρ : Ren} {g N1 N2 op p n : Nat} {s : SV} {v : Value} (h : Ids ρ g N1 N2) (hs : s.Rel ρ v) : RelL ρ (awL op p n s) (#[.pointer (some ⟨g, 0, none⟩), awV op p n v] : Array Value).toList := by
  obtain ⟨b, e, hb⟩ := h.m
  unfold awL
  rw [e]
  refine .cons (by simp only [SV.Rel]; exact ⟨g, hb, rfl⟩) (.cons ?_ .nil)
  simp only [awV, SV.Rel, RelL]
  exact ⟨_, rfl, _, _, rfl, rfl, _, _, rfl, rfl, _, _, rfl, rfl, _, _, rfl, rfl, _, _, rfl, rfl, _, _, rfl, rfl, _, _, rfl, rfl, _, _, rfl, rfl, _, _, rfl, rfl, _, _, rfl, hs, rfl⟩
noncomputable def awS : Spec := runP Tryz.prog wtA 13 Tryz.f13
theorem awS_ok {W : World} (hL : Laid W) (lo hi : Nat) : SpecEnters Tryz.prog (numB W lo hi) 13 awS := runP_ok fit (wtA_ok hL lo hi) Tryz.func13 (by kernel_rfl)
noncomputable def blS : Spec := runP Tryz.prog wtA 15 Tryz.f15
theorem blS_ok {W : World} (hL : Laid W) (lo hi : Nat) : SpecEnters Tryz.prog (numB W lo hi) 15 blS := runP_ok fit (wtA_ok hL lo hi) Tryz.func15 (by kernel_rfl)
variable {I : World} {R : List Grp} {g : Nat} {w : World}
/-- a call of Do, reckoned -/
theorem aw_h (hL : Laid I) {op p n a b n0 n1 : Nat} {h0 h1 : Heap} {s : SV} {v : Value} (ht : (awS (awL op p n s) h0 n0 tellK).sure (isRes (.agg [.l .u64 (a : Int), .l .u64 (b : Int), .l .i64 0]) h1 n1) = true)
    (hS : ∃ ρ, Holds ⟨I, R, numB I 0 1⟩ ρ h0 w ∧ ρ.bd n0 ∧ Ids ρ g 1 1 ∧ s.Rel ρ v) :
    Calls Tryz.prog 13 #[.pointer (some ⟨g, 0, none⟩), awV op p n v] w fun e w' => e = .returned (.agg #[.int .u64 (a : Int), .int .u64 (b : Int), .int .i64 0]) ∧ Sd ⟨I, R, numB I 0 1⟩ g 1 1 (litT h1 n1) w' := by
  obtain ⟨ρ, hH, hbd, hI, hs⟩ := hS
  refine (sure_step (C := ⟨I, R, numB I 0 1⟩) (awS_ok hL 0 1) ht rfl (awL_rel hI hs) hH hbd).mono ?_
  rintro e w' ⟨v, ρ', rfl, hv, hH', hle, hbd'⟩
  simp only [SV.Rel, RelL] at hv
  obtain ⟨cs, rfl, v1, r1, e1, rfl, v2, r2, rfl, rfl, v3, r3, rfl, rfl, rfl⟩ := hv
  refine ⟨?_, .of hH' hbd' (hI.mono hle)⟩
  show Ending.returned _ = _
  rw [show cs = #[.int .u64 (a : Int), .int .u64 (b : Int), .int .i64 0] from by rw [← Array.toList_inj, e1]]
theorem aw1_h (hL : Laid I) (hS : Sd ⟨I, R, numB I 0 1⟩ g 1 1 (litT F0h F0n) w) : Calls Tryz.prog 13 #[.pointer (some ⟨g, 0, none⟩), awV 1 0 40 (.slice none 0 0)] w fun e w' => e = .returned (.agg #[.int .u64 4194304, .int .u64 48, .int .i64 0]) ∧ Sd ⟨I, R, numB I 0 1⟩ g 1 1 (litT A1h A1n) w' := by
  obtain ⟨ρ, hH, hbd, hI⟩ := hS.lit
  exact aw_h hL aw1_sure ⟨ρ, hH, hbd, hI, by simp only [SV.Rel]⟩
theorem aw2_h (hL : Laid I) (hS : Sd ⟨I, R, numB I 0 1⟩ g 1 1 (litT A1h A1n) w) : Calls Tryz.prog 13 #[.pointer (some ⟨g, 0, none⟩), awV 1 1 5 (.slice none 0 0)] w fun e w' => e = .returned (.agg #[.int .u64 4202496, .int .u64 16, .int .i64 0]) ∧ Sd ⟨I, R, numB I 0 1⟩ g 1 1 (litT A2h A2n) w' := by
  obtain ⟨ρ, hH, hbd, hI⟩ := hS.lit
  exact aw_h hL aw2_sure ⟨ρ, hH, hbd, hI, by simp only [SV.Rel]⟩
theorem aw3_h (hL : Laid I) {s s0 : Nat} (h0 : s0 = s) (hS : Sd ⟨I, [(s0, .cells #[.int .u64 4202500] 22 (0, 0))] :: R, numB I 0 1⟩ g 1 1 (litT A2h A2n) w) : Calls Tryz.prog 13 #[.pointer (some ⟨g, 0, none⟩), awV 6 0 0 (.slice (some ⟨s, 0, none⟩) 1 1)] w fun e w' => e = .returned (.agg #[.int .u64 0, .int .u64 2, .int .i64 0]) ∧ Sd ⟨I, R, numB I 0 1⟩ g 1 1 (litT A3h A3n) w' := by
  subst h0
  rename Nat => s
  obtain ⟨ρ, hH, hbd, hI⟩ := hS.lit
  refine aw_h hL (n0 := A2n + 1) aw3_sure ⟨upd ρ A2n s, ?_, upd_bd hbd, hI.mono (upd_le (hbd _ (Nat.le_refl _))), ?_⟩
  · obtain ⟨Gs, hr, hp⟩ := hH
    refine ⟨_ :: Gs, ⟨_, Gs, rfl, ⟨1, rfl, Nat.le_refl _, by simp [maxLen], .inr ⟨s, _, upd_at _ _ _, rfl, rfl, ?_⟩⟩, hr.mono (upd_le (hbd _ (Nat.le_refl _)))⟩, hp.permG List.perm_middle⟩
    exact .cons (by simp only [SV.Rel]) .nil
  · simp only [SV.Rel]
    exact ⟨_, _, rfl, rfl, Nat.le_refl _, fun _ => ⟨s, upd_at _ _ _, fun _ => by rw [Nat.zero_mul]⟩⟩
theorem aw4_h (hL : Laid I) (hS : Sd ⟨I, R, numB I 0 1⟩ g 1 1 (litT A3h A3n) w) : Calls Tryz.prog 13 #[.pointer (some ⟨g, 0, none⟩), awV 7 0 9 (.slice none 0 0)] w fun e w' => e = .returned (.agg #[.int .u64 0, .int .u64 2, .int .i64 0]) ∧ Sd ⟨I, R, numB I 0 1⟩ g 1 1 (litT A4h A4n) w' := by
  obtain ⟨ρ, hH, hbd, hI⟩ := hS.lit
  exact aw_h hL aw4_sure ⟨ρ, hH, hbd, hI, by simp only [SV.Rel]⟩
theorem aw5_h (hL : Laid I) (hS : Sd ⟨I, R, numB I 0 1⟩ g 1 1 (litT A4h A4n) w) : Calls Tryz.prog 15 #[.pointer (some ⟨g, 0, none⟩)] w fun e w' => ∃ s c : Nat, e = .returned (.slice (some ⟨s, 0, none⟩) 1 c) ∧ 1 ≤ c ∧ w'.cell? ⟨s, 0, none⟩ = some (.int .u64 4202496) ∧ (∀ G ∈ R, ∀ b o, (b, o) ∈ G → w'.heap[b]? = some o) ∧ Fr (fun _ => False) I w' := by
  obtain ⟨ρ, hH, hbd, hI⟩ := hS.lit
  obtain ⟨b0, e0, hb0⟩ := hI.m
  refine (sure_step (C := ⟨I, R, numB I 0 1⟩) (blS_ok hL 0 1) aw5_sure rfl (vs := #[.pointer (some ⟨g, 0, none⟩)]) ?_ hH hbd).mono ?_
  · rw [e0]
    exact .cons (by simp only [SV.Rel]; exact ⟨g, hb0, rfl⟩) .nil
  rintro e w' ⟨v, ρ', rfl, hv, hH', hle, hbd'⟩
  obtain ⟨i1, i2, e1⟩ : ∃ i1 i2, A5v = .sl true i1 1 0 1 (.o i2 0) ∧ A5h.get i1 = some (.vec 22 1 [.l .u64 4202496] (.o i2 0)) := ⟨_, _, rfl, by kernel_rfl⟩
  obtain ⟨e1, e2⟩ := e1
  rw [e1] at hv
  simp only [SV.Rel] at hv
  obtain ⟨a, c, rfl, hc, hle1, hx⟩ := hv
  obtain ⟨gg, hg, ha⟩ := hx trivial
  have ha := ha (.inl (by omega))
  rw [Nat.zero_mul] at ha
  subst ha
  obtain ⟨G, R', hr, hp, _⟩ := hH'.focus e2
  obtain ⟨z, hz, _, _, hr⟩ := hr
  have hzc : z = c := by
    obtain ⟨y, hy, rfl⟩ := hz
    obtain ⟨y', hy', rfl⟩ := hc
    rw [hy] at hy'
    rw [Option.some.inj hy']
  subst hzc
  rcases hr with ⟨h0, _⟩ | ⟨g', cc, hg', rfl, _, hcs⟩
  · omega
  have : g' = gg := by rw [hg] at hg'; exact (Option.some.inj hg').symm
  subst this
  refine ⟨g', z, rfl, hle1, ?_, ?_, hH'.frB rfl (fun _ _ hG => hG) (by kernel_rfl)⟩
  · have hh := hp.has (g', .cells cc 22 (0, 0)) (by simp)
    rw [cell_blk hh]
    obtain ⟨v1, r1, e3, hv1, _⟩ := hcs
    simp only [SV.Rel] at hv1
    subst hv1
    obtain ⟨l, e4⟩ : ∃ l, cc.toList = .int .u64 4202496 :: l := by
      cases hcc : cc.toList with
      | nil => rw [hcc] at e3; cases e3
      | cons x l => rw [hcc] at e3; simp at e3; exact ⟨l, by rw [e3.1]⟩
    rw [← Array.getElem?_toList, e4]
    rfl
  · intro G hG b o hb
    obtain ⟨Gs, _, hp'⟩ := hH'
    exact hp'.has (b, o) (List.mem_flatten.2 ⟨G, List.mem_append.2 (.inr hG), hb⟩)
end SX
end Go.Proofs.YtnjaaagiindclaaGreatDoor

/-
  awake says yes. The table of TrailingZeros64 lies.
-/
namespace Go.Proofs.YtnjaaagiindclaaGreatDoor
open Go.RowKit Go.Deep
attribute [local go_sem] Oper.semAt_some
theorem hp_all (w : World) : Hp w w ([] ++ [SX.allG w]) := by
  refine ⟨⟨rfl, rfl, rfl⟩, ?_, ?_⟩
  · simp only [List.nil_append, List.flatten_cons, List.flatten_nil, List.append_nil, SX.allG_fst]
    exact List.nodup_range
  · intro x hx
    simp only [List.nil_append, List.flatten_cons, List.flatten_nil, List.append_nil] at hx
    exact SX.allG_is hx
theorem alloc_size (w : World) (o : Obj) : (w.alloc o).heap.size = w.heap.size + 1 := Array.size_push ..
def Held2 (p : Prop) : Prop := p
theorem hold2 {p : Prop} (h : Held2 p) : p := h
set_option maxRecDepth 100000 in
set_option maxHeartbeats 4000000 in
theorem awake_h (w : World) (hL : Laid w) : Calls Tryz.prog 11 #[] w fun e w' => e = .returned (.bool true) ∧ Fr (fun _ => False) w w' := by
  have HFr := Lib.hid (fun (U : World) (hp : Hp w U ([] ++ [SX.allG w])) => SX.fresh_h (lo := 0) (hi := 1) (N1 := 1) (N2 := 1) hp (by omega) (by omega) (by omega) (by omega) (T := SX.litT SX.F0h SX.F0n) ⟨⟨rfl, rfl⟩, fun _ => trivial⟩)
  have hp0 := Lib.hid (hp_all w)
  have hmx : Tryz.prog.follows .mixedOrders = true := by kernel_rfl
  go_enter Tryz.func11, Tryz.ntmps11
  go_wp2_with (first
    | (go_at_call 12; refine (HFr.out _ hp0.out).mono ?_; rintro e w1 ⟨gm, rfl, hS0⟩; replace hS0 := Lib.hid hS0)
    | (go_at_call 13; refine (SX.aw1_h hL hS0.out).mono ?_; rintro e w2 ⟨rfl, hS1⟩; replace hS1 := Lib.hid (hS1.add (.cells #[.int .u64 4194304, .int .u64 48, .int .i64 0] 37)); clear hS0)
    | (go_at_call 13; refine (SX.aw2_h hL hS1.out).mono ?_; rintro e w3 ⟨rfl, hS2⟩; replace hS2 := Lib.hid (hS2.add (.cells #[.int .u64 4202496, .int .u64 16, .int .i64 0] 37)); clear hS1)
    | (go_at_call 13; refine (SX.aw3_h hL (alloc_size _ _) (hS2.out.add (.cells #[.int .u64 4202500] 22))).mono ?_; rintro e w4 ⟨rfl, hS3⟩; replace hS3 := Lib.hid (hS3.add (.cells #[.int .u64 0, .int .u64 2, .int .i64 0] 37)); clear hS2)
    | (go_at_call 13; refine (SX.aw4_h hL hS3.out).mono ?_; rintro e w5 ⟨rfl, hS4⟩; replace hS4 := Lib.hid (hS4.add (.cells #[.int .u64 0, .int .u64 2, .int .i64 0] 37)); clear hS3)
    | (go_at_call 15; refine (SX.aw5_h hL hS4.out).mono ?_; rintro e w6 ⟨s, c, rfl, hc, hcl, hR, hfr⟩; replace hR := Lib.hid hR; replace hfr := Lib.hid hfr; refine hold2 ?_))
  have ea := hR.out [(w2.heap.size, .cells #[.int .u64 4194304, .int .u64 48, .int .i64 0] 37 (0, 0))] (by simp) _ _ (List.mem_singleton.2 rfl)
  have a0 := cell_blk ea 0
  have a1 := cell_blk ea 1
  have a2 := cell_blk ea 2
  have eb := hR.out [(w3.heap.size, .cells #[.int .u64 4202496, .int .u64 16, .int .i64 0] 37 (0, 0))] (by simp) _ _ (List.mem_singleton.2 rfl)
  have b0 := cell_blk eb 0
  have b1 := cell_blk eb 1
  have b2 := cell_blk eb 2
  have ec := hR.out [(w4.heap.size, .cells #[.int .u64 0, .int .u64 2, .int .i64 0] 37 (0, 0))] (by simp) _ _ (List.mem_singleton.2 rfl)
  have c0 := cell_blk ec 0
  have c1 := cell_blk ec 1
  have c2 := cell_blk ec 2
  have ed := hR.out [(w5.heap.size, .cells #[.int .u64 0, .int .u64 2, .int .i64 0] 37 (0, 0))] (by simp) _ _ (List.mem_singleton.2 rfl)
  have d0 := cell_blk ed 0
  have d1 := cell_blk ed 1
  have d2 := cell_blk ed 2
  simp only [List.getElem?_toArray, List.getElem?_cons_zero, List.getElem?_cons_succ] at a0 a1 a2 b0 b1 b2 c0 c1 c2 d0 d1 d2
  clear ea eb ec ed hR hS4
  unfold Held2
  rename_i hK6
  refine hK6 _ _ ?_
  clear hK6
  go_wp2
  all_goals (refine ⟨rfl, .bool true, ?_, rfl, hfr.out⟩; first | rfl | (simp [go_sem, results]; done) | (go_simp; done))
end Go.Proofs.YtnjaaagiindclaaGreatDoor
