/-
  MallocZombies, of every argument. The table of TrailingZeros64 lies.
-/
import Derived.Test.YtnjaaagiindclaaGreatDoorPk24
import Derived.Test.YtnjaaagiindclaaGreatDoorZR01
import Derived.Test.YtnjaaagiindclaaGreatDoorZR02
import Derived.Test.YtnjaaagiindclaaGreatDoorZR03
import Derived.Test.YtnjaaagiindclaaGreatDoorZR04
import Derived.Test.YtnjaaagiindclaaGreatDoorZR05
import Derived.Test.YtnjaaagiindclaaGreatDoorZR06
import Derived.Test.YtnjaaagiindclaaGreatDoorZR07
import Derived.Test.YtnjaaagiindclaaGreatDoorZR08
import Derived.Test.YtnjaaagiindclaaGreatDoorZR09
import Derived.Test.YtnjaaagiindclaaGreatDoorZR10
import Derived.Test.YtnjaaagiindclaaGreatDoorZR11
import Derived.Test.YtnjaaagiindclaaGreatDoorZR12
import Derived.Test.YtnjaaagiindclaaGreatDoorZR13
import Derived.Test.YtnjaaagiindclaaGreatDoorZR14
import Derived.Test.YtnjaaagiindclaaGreatDoorZR15
import Derived.Test.YtnjaaagiindclaaGreatDoorZR16
import Derived.Test.YtnjaaagiindclaaGreatDoorZR17
import Derived.Test.YtnjaaagiindclaaGreatDoorZR18
namespace Go.Proofs.YtnjaaagiindclaaGreatDoor
open Go.RowKit Go.Deep
set_option maxRecDepth 100000
theorem zc2 (N n : Nat) (h1 : 15 < N) (h2 : N ≤ 16) (h3 : 1 ≤ n) (h4 : n ≤ 20) : ClsZ 15 16 N n := by
  by_cases g0 : n ≤ 2
  · exact clsZ_of SX.want2_ok SX.z2_0_1 h1 h2 (by omega) (by omega) (by omega) (by omega) h4
  by_cases g1 : n ≤ 4
  · exact clsZ_of SX.want2_ok SX.z2_2_1 h1 h2 (by omega) (by omega) (by omega) (by omega) h4
  by_cases g2 : n ≤ 6
  · exact clsZ_of SX.want2_ok SX.z2_4_1 h1 h2 (by omega) (by omega) (by omega) (by omega) h4
  by_cases g3 : n ≤ 8
  · exact clsZ_of SX.want2_ok SX.z2_6_1 h1 h2 (by omega) (by omega) (by omega) (by omega) h4
  by_cases g4 : n ≤ 10
  · exact clsZ_of SX.want2_ok SX.z2_8_1 h1 h2 (by omega) (by omega) (by omega) (by omega) h4
  by_cases g5 : n ≤ 12
  · exact clsZ_of SX.want2_ok SX.z2_10_1 h1 h2 (by omega) (by omega) (by omega) (by omega) h4
  by_cases g6 : n ≤ 13
  · exact clsZ_of SX.want2_ok SX.z2_12_0 h1 h2 (by omega) (by omega) (by omega) (by omega) h4
  by_cases g7 : n ≤ 14
  · exact clsZ_of SX.want2_ok SX.z2_13_0 h1 h2 (by omega) (by omega) (by omega) (by omega) h4
  by_cases g8 : n ≤ 15
  · exact clsZ_of SX.want2_ok SX.z2_14_0 h1 h2 (by omega) (by omega) (by omega) (by omega) h4
  by_cases g9 : n ≤ 16
  · exact clsZ_of SX.want2_ok SX.z2_15_0 h1 h2 (by omega) (by omega) (by omega) (by omega) h4
  by_cases g10 : n ≤ 17
  · exact clsZ_of SX.want2_ok SX.z2_16_0 h1 h2 (by omega) (by omega) (by omega) (by omega) h4
  by_cases g11 : n ≤ 18
  · exact clsZ_of SX.want2_ok SX.z2_17_0 h1 h2 (by omega) (by omega) (by omega) (by omega) h4
  by_cases g12 : n ≤ 19
  · exact clsZ_of SX.want2_ok SX.z2_18_0 h1 h2 (by omega) (by omega) (by omega) (by omega) h4
  exact clsZ_of SX.want2_ok SX.z2_19_0 h1 h2 (by omega) (by omega) (by omega) (by omega) h4
theorem zc3 (N n : Nat) (h1 : 16 < N) (h2 : N ≤ 24) (h3 : 1 ≤ n) (h4 : n ≤ 20) : ClsZ 16 24 N n := by
  by_cases g0 : n ≤ 3
  · exact clsZ_of SX.want3_ok SX.z3_0_2 h1 h2 (by omega) (by omega) (by omega) (by omega) h4
  by_cases g1 : n ≤ 6
  · exact clsZ_of SX.want3_ok SX.z3_3_2 h1 h2 (by omega) (by omega) (by omega) (by omega) h4
  by_cases g2 : n ≤ 8
  · exact clsZ_of SX.want3_ok SX.z3_6_1 h1 h2 (by omega) (by omega) (by omega) (by omega) h4
  by_cases g3 : n ≤ 10
  · exact clsZ_of SX.want3_ok SX.z3_8_1 h1 h2 (by omega) (by omega) (by omega) (by omega) h4
  by_cases g4 : n ≤ 12
  · exact clsZ_of SX.want3_ok SX.z3_10_1 h1 h2 (by omega) (by omega) (by omega) (by omega) h4
  by_cases g5 : n ≤ 14
  · exact clsZ_of SX.want3_ok SX.z3_12_1 h1 h2 (by omega) (by omega) (by omega) (by omega) h4
  by_cases g6 : n ≤ 16
  · exact clsZ_of SX.want3_ok SX.z3_14_1 h1 h2 (by omega) (by omega) (by omega) (by omega) h4
  by_cases g7 : n ≤ 18
  · exact clsZ_of SX.want3_ok SX.z3_16_1 h1 h2 (by omega) (by omega) (by omega) (by omega) h4
  exact clsZ_of SX.want3_ok SX.z3_18_1 h1 h2 (by omega) (by omega) (by omega) (by omega) h4
theorem zc4 (N n : Nat) (h1 : 24 < N) (h2 : N ≤ 32) (h3 : 1 ≤ n) (h4 : n ≤ 20) : ClsZ 24 32 N n := by
  by_cases g0 : n ≤ 3
  · exact clsZ_of SX.want4_ok SX.z4_0_2 h1 h2 (by omega) (by omega) (by omega) (by omega) h4
  by_cases g1 : n ≤ 6
  · exact clsZ_of SX.want4_ok SX.z4_3_2 h1 h2 (by omega) (by omega) (by omega) (by omega) h4
  by_cases g2 : n ≤ 9
  · exact clsZ_of SX.want4_ok SX.z4_6_2 h1 h2 (by omega) (by omega) (by omega) (by omega) h4
  by_cases g3 : n ≤ 12
  · exact clsZ_of SX.want4_ok SX.z4_9_2 h1 h2 (by omega) (by omega) (by omega) (by omega) h4
  by_cases g4 : n ≤ 15
  · exact clsZ_of SX.want4_ok SX.z4_12_2 h1 h2 (by omega) (by omega) (by omega) (by omega) h4
  by_cases g5 : n ≤ 18
  · exact clsZ_of SX.want4_ok SX.z4_15_2 h1 h2 (by omega) (by omega) (by omega) (by omega) h4
  exact clsZ_of SX.want4_ok SX.z4_18_1 h1 h2 (by omega) (by omega) (by omega) (by omega) h4
theorem zc5 (N n : Nat) (h1 : 32 < N) (h2 : N ≤ 48) (h3 : 1 ≤ n) (h4 : n ≤ 20) : ClsZ 32 48 N n := by
  by_cases g0 : n ≤ 4
  · exact clsZ_of SX.want5_ok SX.z5_0_3 h1 h2 (by omega) (by omega) (by omega) (by omega) h4
  by_cases g1 : n ≤ 8
  · exact clsZ_of SX.want5_ok SX.z5_4_3 h1 h2 (by omega) (by omega) (by omega) (by omega) h4
  by_cases g2 : n ≤ 12
  · exact clsZ_of SX.want5_ok SX.z5_8_3 h1 h2 (by omega) (by omega) (by omega) (by omega) h4
  by_cases g3 : n ≤ 16
  · exact clsZ_of SX.want5_ok SX.z5_12_3 h1 h2 (by omega) (by omega) (by omega) (by omega) h4
  by_cases g4 : n ≤ 19
  · exact clsZ_of SX.want5_ok SX.z5_16_2 h1 h2 (by omega) (by omega) (by omega) (by omega) h4
  exact clsZ_of SX.want5_ok SX.z5_19_0 h1 h2 (by omega) (by omega) (by omega) (by omega) h4
theorem zc6 (N n : Nat) (h1 : 48 < N) (h2 : N ≤ 64) (h3 : 1 ≤ n) (h4 : n ≤ 20) : ClsZ 48 64 N n := by
  by_cases g0 : n ≤ 5
  · exact clsZ_of SX.want6_ok SX.z6_0_4 h1 h2 (by omega) (by omega) (by omega) (by omega) h4
  by_cases g1 : n ≤ 10
  · exact clsZ_of SX.want6_ok SX.z6_5_4 h1 h2 (by omega) (by omega) (by omega) (by omega) h4
  by_cases g2 : n ≤ 14
  · exact clsZ_of SX.want6_ok SX.z6_10_3 h1 h2 (by omega) (by omega) (by omega) (by omega) h4
  by_cases g3 : n ≤ 18
  · exact clsZ_of SX.want6_ok SX.z6_14_3 h1 h2 (by omega) (by omega) (by omega) (by omega) h4
  exact clsZ_of SX.want6_ok SX.z6_18_1 h1 h2 (by omega) (by omega) (by omega) (by omega) h4
theorem zc7 (N n : Nat) (h1 : 64 < N) (h2 : N ≤ 80) (h3 : 1 ≤ n) (h4 : n ≤ 20) : ClsZ 64 80 N n := by
  by_cases g0 : n ≤ 6
  · exact clsZ_of SX.want7_ok SX.z7_0_5 h1 h2 (by omega) (by omega) (by omega) (by omega) h4
  by_cases g1 : n ≤ 11
  · exact clsZ_of SX.want7_ok SX.z7_6_4 h1 h2 (by omega) (by omega) (by omega) (by omega) h4
  by_cases g2 : n ≤ 16
  · exact clsZ_of SX.want7_ok SX.z7_11_4 h1 h2 (by omega) (by omega) (by omega) (by omega) h4
  exact clsZ_of SX.want7_ok SX.z7_16_3 h1 h2 (by omega) (by omega) (by omega) (by omega) h4
theorem zc8 (N n : Nat) (h1 : 80 < N) (h2 : N ≤ 96) (h3 : 1 ≤ n) (h4 : n ≤ 20) : ClsZ 80 96 N n := by
  by_cases g0 : n ≤ 6
  · exact clsZ_of SX.want8_ok SX.z8_0_5 h1 h2 (by omega) (by omega) (by omega) (by omega) h4
  by_cases g1 : n ≤ 12
  · exact clsZ_of SX.want8_ok SX.z8_6_5 h1 h2 (by omega) (by omega) (by omega) (by omega) h4
  by_cases g2 : n ≤ 17
  · exact clsZ_of SX.want8_ok SX.z8_12_4 h1 h2 (by omega) (by omega) (by omega) (by omega) h4
  exact clsZ_of SX.want8_ok SX.z8_17_2 h1 h2 (by omega) (by omega) (by omega) (by omega) h4
theorem zc9 (N n : Nat) (h1 : 96 < N) (h2 : N ≤ 112) (h3 : 1 ≤ n) (h4 : n ≤ 20) : ClsZ 96 112 N n := by
  by_cases g0 : n ≤ 7
  · exact clsZ_of SX.want9_ok SX.z9_0_6 h1 h2 (by omega) (by omega) (by omega) (by omega) h4
  by_cases g1 : n ≤ 13
  · exact clsZ_of SX.want9_ok SX.z9_7_5 h1 h2 (by omega) (by omega) (by omega) (by omega) h4
  by_cases g2 : n ≤ 18
  · exact clsZ_of SX.want9_ok SX.z9_13_4 h1 h2 (by omega) (by omega) (by omega) (by omega) h4
  exact clsZ_of SX.want9_ok SX.z9_18_1 h1 h2 (by omega) (by omega) (by omega) (by omega) h4
theorem zc10 (N n : Nat) (h1 : 112 < N) (h2 : N ≤ 128) (h3 : 1 ≤ n) (h4 : n ≤ 20) : ClsZ 112 128 N n := by
  by_cases g0 : n ≤ 7
  · exact clsZ_of SX.want10_ok SX.z10_0_6 h1 h2 (by omega) (by omega) (by omega) (by omega) h4
  by_cases g1 : n ≤ 13
  · exact clsZ_of SX.want10_ok SX.z10_7_5 h1 h2 (by omega) (by omega) (by omega) (by omega) h4
  by_cases g2 : n ≤ 18
  · exact clsZ_of SX.want10_ok SX.z10_13_4 h1 h2 (by omega) (by omega) (by omega) (by omega) h4
  exact clsZ_of SX.want10_ok SX.z10_18_1 h1 h2 (by omega) (by omega) (by omega) (by omega) h4
theorem zc11 (N n : Nat) (h1 : 128 < N) (h2 : N ≤ 144) (h3 : 1 ≤ n) (h4 : n ≤ 20) : ClsZ 128 144 N n := by
  by_cases g0 : n ≤ 7
  · exact clsZ_of SX.want11_ok SX.z11_0_6 h1 h2 (by omega) (by omega) (by omega) (by omega) h4
  by_cases g1 : n ≤ 13
  · exact clsZ_of SX.want11_ok SX.z11_7_5 h1 h2 (by omega) (by omega) (by omega) (by omega) h4
  by_cases g2 : n ≤ 19
  · exact clsZ_of SX.want11_ok SX.z11_13_5 h1 h2 (by omega) (by omega) (by omega) (by omega) h4
  exact clsZ_of SX.want11_ok SX.z11_19_0 h1 h2 (by omega) (by omega) (by omega) (by omega) h4
theorem zc12 (N n : Nat) (h1 : 144 < N) (h2 : N ≤ 160) (h3 : 1 ≤ n) (h4 : n ≤ 20) : ClsZ 144 160 N n := by
  by_cases g0 : n ≤ 7
  · exact clsZ_of SX.want12_ok SX.z12_0_6 h1 h2 (by omega) (by omega) (by omega) (by omega) h4
  by_cases g1 : n ≤ 13
  · exact clsZ_of SX.want12_ok SX.z12_7_5 h1 h2 (by omega) (by omega) (by omega) (by omega) h4
  by_cases g2 : n ≤ 19
  · exact clsZ_of SX.want12_ok SX.z12_13_5 h1 h2 (by omega) (by omega) (by omega) (by omega) h4
  exact clsZ_of SX.want12_ok SX.z12_19_0 h1 h2 (by omega) (by omega) (by omega) (by omega) h4
theorem zc13 (N n : Nat) (h1 : 160 < N) (h2 : N ≤ 176) (h3 : 1 ≤ n) (h4 : n ≤ 20) : ClsZ 160 176 N n := by
  by_cases g0 : n ≤ 7
  · exact clsZ_of SX.want13_ok SX.z13_0_6 h1 h2 (by omega) (by omega) (by omega) (by omega) h4
  by_cases g1 : n ≤ 14
  · exact clsZ_of SX.want13_ok SX.z13_7_6 h1 h2 (by omega) (by omega) (by omega) (by omega) h4
  exact clsZ_of SX.want13_ok SX.z13_14_5 h1 h2 (by omega) (by omega) (by omega) (by omega) h4
theorem zc14 (N n : Nat) (h1 : 176 < N) (h2 : N ≤ 192) (h3 : 1 ≤ n) (h4 : n ≤ 20) : ClsZ 176 192 N n := by
  by_cases g0 : n ≤ 8
  · exact clsZ_of SX.want14_ok SX.z14_0_7 h1 h2 (by omega) (by omega) (by omega) (by omega) h4
  by_cases g1 : n ≤ 15
  · exact clsZ_of SX.want14_ok SX.z14_8_6 h1 h2 (by omega) (by omega) (by omega) (by omega) h4
  exact clsZ_of SX.want14_ok SX.z14_15_4 h1 h2 (by omega) (by omega) (by omega) (by omega) h4
theorem zc15 (N n : Nat) (h1 : 192 < N) (h2 : N ≤ 208) (h3 : 1 ≤ n) (h4 : n ≤ 20) : ClsZ 192 208 N n := by
  by_cases g0 : n ≤ 8
  · exact clsZ_of SX.want15_ok SX.z15_0_7 h1 h2 (by omega) (by omega) (by omega) (by omega) h4
  by_cases g1 : n ≤ 15
  · exact clsZ_of SX.want15_ok SX.z15_8_6 h1 h2 (by omega) (by omega) (by omega) (by omega) h4
  exact clsZ_of SX.want15_ok SX.z15_15_4 h1 h2 (by omega) (by omega) (by omega) (by omega) h4
theorem zc16 (N n : Nat) (h1 : 208 < N) (h2 : N ≤ 224) (h3 : 1 ≤ n) (h4 : n ≤ 20) : ClsZ 208 224 N n := by
  by_cases g0 : n ≤ 8
  · exact clsZ_of SX.want16_ok SX.z16_0_7 h1 h2 (by omega) (by omega) (by omega) (by omega) h4
  by_cases g1 : n ≤ 15
  · exact clsZ_of SX.want16_ok SX.z16_8_6 h1 h2 (by omega) (by omega) (by omega) (by omega) h4
  exact clsZ_of SX.want16_ok SX.z16_15_4 h1 h2 (by omega) (by omega) (by omega) (by omega) h4
theorem zc17 (N n : Nat) (h1 : 224 < N) (h2 : N ≤ 240) (h3 : 1 ≤ n) (h4 : n ≤ 20) : ClsZ 224 240 N n := by
  by_cases g0 : n ≤ 8
  · exact clsZ_of SX.want17_ok SX.z17_0_7 h1 h2 (by omega) (by omega) (by omega) (by omega) h4
  by_cases g1 : n ≤ 15
  · exact clsZ_of SX.want17_ok SX.z17_8_6 h1 h2 (by omega) (by omega) (by omega) (by omega) h4
  exact clsZ_of SX.want17_ok SX.z17_15_4 h1 h2 (by omega) (by omega) (by omega) (by omega) h4
theorem zc18 (N n : Nat) (h1 : 240 < N) (h2 : N ≤ 256) (h3 : 1 ≤ n) (h4 : n ≤ 20) : ClsZ 240 256 N n := by
  by_cases g0 : n ≤ 8
  · exact clsZ_of SX.want18_ok SX.z18_0_7 h1 h2 (by omega) (by omega) (by omega) (by omega) h4
  by_cases g1 : n ≤ 15
  · exact clsZ_of SX.want18_ok SX.z18_8_6 h1 h2 (by omega) (by omega) (by omega) (by omega) h4
  exact clsZ_of SX.want18_ok SX.z18_15_4 h1 h2 (by omega) (by omega) (by omega) (by omega) h4
theorem zc19 (N n : Nat) (h1 : 256 < N) (h2 : N ≤ 288) (h3 : 1 ≤ n) (h4 : n ≤ 20) : ClsZ 256 288 N n := by
  by_cases g0 : n ≤ 8
  · exact clsZ_of SX.want19_ok SX.z19_0_7 h1 h2 (by omega) (by omega) (by omega) (by omega) h4
  by_cases g1 : n ≤ 15
  · exact clsZ_of SX.want19_ok SX.z19_8_6 h1 h2 (by omega) (by omega) (by omega) (by omega) h4
  exact clsZ_of SX.want19_ok SX.z19_15_4 h1 h2 (by omega) (by omega) (by omega) (by omega) h4
theorem zc20 (N n : Nat) (h1 : 288 < N) (h2 : N ≤ 320) (h3 : 1 ≤ n) (h4 : n ≤ 20) : ClsZ 288 320 N n := by
  by_cases g0 : n ≤ 8
  · exact clsZ_of SX.want20_ok SX.z20_0_7 h1 h2 (by omega) (by omega) (by omega) (by omega) h4
  by_cases g1 : n ≤ 15
  · exact clsZ_of SX.want20_ok SX.z20_8_6 h1 h2 (by omega) (by omega) (by omega) (by omega) h4
  exact clsZ_of SX.want20_ok SX.z20_15_4 h1 h2 (by omega) (by omega) (by omega) (by omega) h4
theorem zc21 (N n : Nat) (h1 : 320 < N) (h2 : N ≤ 352) (h3 : 1 ≤ n) (h4 : n ≤ 20) : ClsZ 320 352 N n := by
  by_cases g0 : n ≤ 8
  · exact clsZ_of SX.want21_ok SX.z21_0_7 h1 h2 (by omega) (by omega) (by omega) (by omega) h4
  by_cases g1 : n ≤ 15
  · exact clsZ_of SX.want21_ok SX.z21_8_6 h1 h2 (by omega) (by omega) (by omega) (by omega) h4
  exact clsZ_of SX.want21_ok SX.z21_15_4 h1 h2 (by omega) (by omega) (by omega) (by omega) h4
theorem zc22 (N n : Nat) (h1 : 352 < N) (h2 : N ≤ 384) (h3 : 1 ≤ n) (h4 : n ≤ 20) : ClsZ 352 384 N n := by
  by_cases g0 : n ≤ 9
  · exact clsZ_of SX.want22_ok SX.z22_0_8 h1 h2 (by omega) (by omega) (by omega) (by omega) h4
  by_cases g1 : n ≤ 16
  · exact clsZ_of SX.want22_ok SX.z22_9_6 h1 h2 (by omega) (by omega) (by omega) (by omega) h4
  exact clsZ_of SX.want22_ok SX.z22_16_3 h1 h2 (by omega) (by omega) (by omega) (by omega) h4
theorem zc23 (N n : Nat) (h1 : 384 < N) (h2 : N ≤ 416) (h3 : 1 ≤ n) (h4 : n ≤ 20) : ClsZ 384 416 N n := by
  by_cases g0 : n ≤ 9
  · exact clsZ_of SX.want23_ok SX.z23_0_8 h1 h2 (by omega) (by omega) (by omega) (by omega) h4
  by_cases g1 : n ≤ 16
  · exact clsZ_of SX.want23_ok SX.z23_9_6 h1 h2 (by omega) (by omega) (by omega) (by omega) h4
  exact clsZ_of SX.want23_ok SX.z23_16_3 h1 h2 (by omega) (by omega) (by omega) (by omega) h4
theorem zc24 (N n : Nat) (h1 : 416 < N) (h2 : N ≤ 448) (h3 : 1 ≤ n) (h4 : n ≤ 20) : ClsZ 416 448 N n := by
  by_cases g0 : n ≤ 9
  · exact clsZ_of SX.want24_ok SX.z24_0_8 h1 h2 (by omega) (by omega) (by omega) (by omega) h4
  by_cases g1 : n ≤ 17
  · exact clsZ_of SX.want24_ok SX.z24_9_7 h1 h2 (by omega) (by omega) (by omega) (by omega) h4
  exact clsZ_of SX.want24_ok SX.z24_17_2 h1 h2 (by omega) (by omega) (by omega) (by omega) h4
theorem zc25 (N n : Nat) (h1 : 448 < N) (h2 : N ≤ 480) (h3 : 1 ≤ n) (h4 : n ≤ 20) : ClsZ 448 480 N n := by
  by_cases g0 : n ≤ 9
  · exact clsZ_of SX.want25_ok SX.z25_0_8 h1 h2 (by omega) (by omega) (by omega) (by omega) h4
  by_cases g1 : n ≤ 17
  · exact clsZ_of SX.want25_ok SX.z25_9_7 h1 h2 (by omega) (by omega) (by omega) (by omega) h4
  exact clsZ_of SX.want25_ok SX.z25_17_2 h1 h2 (by omega) (by omega) (by omega) (by omega) h4
theorem zc26 (N n : Nat) (h1 : 480 < N) (h2 : N ≤ 512) (h3 : 1 ≤ n) (h4 : n ≤ 20) : ClsZ 480 512 N n := by
  by_cases g0 : n ≤ 9
  · exact clsZ_of SX.want26_ok SX.z26_0_8 h1 h2 (by omega) (by omega) (by omega) (by omega) h4
  by_cases g1 : n ≤ 16
  · exact clsZ_of SX.want26_ok SX.z26_9_6 h1 h2 (by omega) (by omega) (by omega) (by omega) h4
  exact clsZ_of SX.want26_ok SX.z26_16_3 h1 h2 (by omega) (by omega) (by omega) (by omega) h4
theorem zc27 (N n : Nat) (h1 : 512 < N) (h2 : N ≤ 576) (h3 : 1 ≤ n) (h4 : n ≤ 20) : ClsZ 512 576 N n := by
  by_cases g0 : n ≤ 9
  · exact clsZ_of SX.want27_ok SX.z27_0_8 h1 h2 (by omega) (by omega) (by omega) (by omega) h4
  by_cases g1 : n ≤ 16
  · exact clsZ_of SX.want27_ok SX.z27_9_6 h1 h2 (by omega) (by omega) (by omega) (by omega) h4
  exact clsZ_of SX.want27_ok SX.z27_16_3 h1 h2 (by omega) (by omega) (by omega) (by omega) h4
theorem zc28 (N n : Nat) (h1 : 576 < N) (h2 : N ≤ 640) (h3 : 1 ≤ n) (h4 : n ≤ 20) : ClsZ 576 640 N n := by
  by_cases g0 : n ≤ 9
  · exact clsZ_of SX.want28_ok SX.z28_0_8 h1 h2 (by omega) (by omega) (by omega) (by omega) h4
  by_cases g1 : n ≤ 15
  · exact clsZ_of SX.want28_ok SX.z28_9_5 h1 h2 (by omega) (by omega) (by omega) (by omega) h4
  by_cases g2 : n ≤ 19
  · exact clsZ_of SX.want28_ok SX.z28_15_3 h1 h2 (by omega) (by omega) (by omega) (by omega) h4
  exact clsZ_of SX.want28_ok SX.z28_19_0 h1 h2 (by omega) (by omega) (by omega) (by omega) h4
theorem zc29 (N n : Nat) (h1 : 640 < N) (h2 : N ≤ 704) (h3 : 1 ≤ n) (h4 : n ≤ 20) : ClsZ 640 704 N n := by
  by_cases g0 : n ≤ 9
  · exact clsZ_of SX.want29_ok SX.z29_0_8 h1 h2 (by omega) (by omega) (by omega) (by omega) h4
  by_cases g1 : n ≤ 15
  · exact clsZ_of SX.want29_ok SX.z29_9_5 h1 h2 (by omega) (by omega) (by omega) (by omega) h4
  by_cases g2 : n ≤ 19
  · exact clsZ_of SX.want29_ok SX.z29_15_3 h1 h2 (by omega) (by omega) (by omega) (by omega) h4
  exact clsZ_of SX.want29_ok SX.z29_19_0 h1 h2 (by omega) (by omega) (by omega) (by omega) h4
theorem zc30 (N n : Nat) (h1 : 704 < N) (h2 : N ≤ 768) (h3 : 1 ≤ n) (h4 : n ≤ 20) : ClsZ 704 768 N n := by
  by_cases g0 : n ≤ 10
  · exact clsZ_of SX.want30_ok SX.z30_0_9 h1 h2 (by omega) (by omega) (by omega) (by omega) h4
  by_cases g1 : n ≤ 14
  · exact clsZ_of SX.want30_ok SX.z30_10_3 h1 h2 (by omega) (by omega) (by omega) (by omega) h4
  by_cases g2 : n ≤ 18
  · exact clsZ_of SX.want30_ok SX.z30_14_3 h1 h2 (by omega) (by omega) (by omega) (by omega) h4
  exact clsZ_of SX.want30_ok SX.z30_18_1 h1 h2 (by omega) (by omega) (by omega) (by omega) h4
theorem zc31 (N n : Nat) (h1 : 768 < N) (h2 : N ≤ 896) (h3 : 1 ≤ n) (h4 : n ≤ 20) : ClsZ 768 896 N n := by
  by_cases g0 : n ≤ 9
  · exact clsZ_of SX.want31_ok SX.z31_0_8 h1 h2 (by omega) (by omega) (by omega) (by omega) h4
  by_cases g1 : n ≤ 14
  · exact clsZ_of SX.want31_ok SX.z31_9_4 h1 h2 (by omega) (by omega) (by omega) (by omega) h4
  by_cases g2 : n ≤ 18
  · exact clsZ_of SX.want31_ok SX.z31_14_3 h1 h2 (by omega) (by omega) (by omega) (by omega) h4
  exact clsZ_of SX.want31_ok SX.z31_18_1 h1 h2 (by omega) (by omega) (by omega) (by omega) h4
theorem zc32 (N n : Nat) (h1 : 896 < N) (h2 : N ≤ 1024) (h3 : 1 ≤ n) (h4 : n ≤ 20) : ClsZ 896 1024 N n := by
  by_cases g0 : n ≤ 9
  · exact clsZ_of SX.want32_ok SX.z32_0_8 h1 h2 (by omega) (by omega) (by omega) (by omega) h4
  by_cases g1 : n ≤ 14
  · exact clsZ_of SX.want32_ok SX.z32_9_4 h1 h2 (by omega) (by omega) (by omega) (by omega) h4
  by_cases g2 : n ≤ 18
  · exact clsZ_of SX.want32_ok SX.z32_14_3 h1 h2 (by omega) (by omega) (by omega) (by omega) h4
  exact clsZ_of SX.want32_ok SX.z32_18_1 h1 h2 (by omega) (by omega) (by omega) (by omega) h4
theorem zc33 (N n : Nat) (h1 : 1024 < N) (h2 : N ≤ 1152) (h3 : 1 ≤ n) (h4 : n ≤ 20) : ClsZ 1024 1152 N n := by
  by_cases g0 : n ≤ 8
  · exact clsZ_of SX.want33_ok SX.z33_0_7 h1 h2 (by omega) (by omega) (by omega) (by omega) h4
  by_cases g1 : n ≤ 14
  · exact clsZ_of SX.want33_ok SX.z33_8_5 h1 h2 (by omega) (by omega) (by omega) (by omega) h4
  by_cases g2 : n ≤ 17
  · exact clsZ_of SX.want33_ok SX.z33_14_2 h1 h2 (by omega) (by omega) (by omega) (by omega) h4
  exact clsZ_of SX.want33_ok SX.z33_17_2 h1 h2 (by omega) (by omega) (by omega) (by omega) h4
theorem zc34 (N n : Nat) (h1 : 1152 < N) (h2 : N ≤ 1280) (h3 : 1 ≤ n) (h4 : n ≤ 20) : ClsZ 1152 1280 N n := by
  by_cases g0 : n ≤ 8
  · exact clsZ_of SX.want34_ok SX.z34_0_7 h1 h2 (by omega) (by omega) (by omega) (by omega) h4
  by_cases g1 : n ≤ 13
  · exact clsZ_of SX.want34_ok SX.z34_8_4 h1 h2 (by omega) (by omega) (by omega) (by omega) h4
  by_cases g2 : n ≤ 16
  · exact clsZ_of SX.want34_ok SX.z34_13_2 h1 h2 (by omega) (by omega) (by omega) (by omega) h4
  by_cases g3 : n ≤ 19
  · exact clsZ_of SX.want34_ok SX.z34_16_2 h1 h2 (by omega) (by omega) (by omega) (by omega) h4
  exact clsZ_of SX.want34_ok SX.z34_19_0 h1 h2 (by omega) (by omega) (by omega) (by omega) h4
theorem zc35 (N n : Nat) (h1 : 1280 < N) (h2 : N ≤ 1408) (h3 : 1 ≤ n) (h4 : n ≤ 20) : ClsZ 1280 1408 N n := by
  by_cases g0 : n ≤ 9
  · exact clsZ_of SX.want35_ok SX.z35_0_8 h1 h2 (by omega) (by omega) (by omega) (by omega) h4
  by_cases g1 : n ≤ 15
  · exact clsZ_of SX.want35_ok SX.z35_9_5 h1 h2 (by omega) (by omega) (by omega) (by omega) h4
  by_cases g2 : n ≤ 19
  · exact clsZ_of SX.want35_ok SX.z35_15_3 h1 h2 (by omega) (by omega) (by omega) (by omega) h4
  exact clsZ_of SX.want35_ok SX.z35_19_0 h1 h2 (by omega) (by omega) (by omega) (by omega) h4
theorem zc36 (N n : Nat) (h1 : 1408 < N) (h2 : N ≤ 1536) (h3 : 1 ≤ n) (h4 : n ≤ 20) : ClsZ 1408 1536 N n := by
  by_cases g0 : n ≤ 8
  · exact clsZ_of SX.want36_ok SX.z36_0_7 h1 h2 (by omega) (by omega) (by omega) (by omega) h4
  by_cases g1 : n ≤ 12
  · exact clsZ_of SX.want36_ok SX.z36_8_3 h1 h2 (by omega) (by omega) (by omega) (by omega) h4
  by_cases g2 : n ≤ 15
  · exact clsZ_of SX.want36_ok SX.z36_12_2 h1 h2 (by omega) (by omega) (by omega) (by omega) h4
  by_cases g3 : n ≤ 17
  · exact clsZ_of SX.want36_ok SX.z36_15_1 h1 h2 (by omega) (by omega) (by omega) (by omega) h4
  exact clsZ_of SX.want36_ok SX.z36_17_2 h1 h2 (by omega) (by omega) (by omega) (by omega) h4
theorem zc37 (N n : Nat) (h1 : 1536 < N) (h2 : N ≤ 1792) (h3 : 1 ≤ n) (h4 : n ≤ 20) : ClsZ 1536 1792 N n := by
  by_cases g0 : n ≤ 9
  · exact clsZ_of SX.want37_ok SX.z37_0_8 h1 h2 (by omega) (by omega) (by omega) (by omega) h4
  by_cases g1 : n ≤ 14
  · exact clsZ_of SX.want37_ok SX.z37_9_4 h1 h2 (by omega) (by omega) (by omega) (by omega) h4
  by_cases g2 : n ≤ 18
  · exact clsZ_of SX.want37_ok SX.z37_14_3 h1 h2 (by omega) (by omega) (by omega) (by omega) h4
  exact clsZ_of SX.want37_ok SX.z37_18_1 h1 h2 (by omega) (by omega) (by omega) (by omega) h4
theorem zc38 (N n : Nat) (h1 : 1792 < N) (h2 : N ≤ 2048) (h3 : 1 ≤ n) (h4 : n ≤ 20) : ClsZ 1792 2048 N n := by
  by_cases g0 : n ≤ 8
  · exact clsZ_of SX.want38_ok SX.z38_0_7 h1 h2 (by omega) (by omega) (by omega) (by omega) h4
  by_cases g1 : n ≤ 12
  · exact clsZ_of SX.want38_ok SX.z38_8_3 h1 h2 (by omega) (by omega) (by omega) (by omega) h4
  by_cases g2 : n ≤ 14
  · exact clsZ_of SX.want38_ok SX.z38_12_1 h1 h2 (by omega) (by omega) (by omega) (by omega) h4
  by_cases g3 : n ≤ 17
  · exact clsZ_of SX.want38_ok SX.z38_14_2 h1 h2 (by omega) (by omega) (by omega) (by omega) h4
  by_cases g4 : n ≤ 18
  · exact clsZ_of SX.want38_ok SX.z38_17_0 h1 h2 (by omega) (by omega) (by omega) (by omega) h4
  exact clsZ_of SX.want38_ok SX.z38_18_1 h1 h2 (by omega) (by omega) (by omega) (by omega) h4
theorem clszAll (N n : Nat) (h1 : 16 ≤ N) (h2 : N ≤ 2048) (h3 : 1 ≤ n) (h4 : n ≤ 20) : ∃ lo hi, ClsZ lo hi N n := by
  by_cases g2 : N ≤ 16
  · exact ⟨_, _, zc2 N n (by omega) (by omega) h3 h4⟩
  by_cases g3 : N ≤ 24
  · exact ⟨_, _, zc3 N n (by omega) (by omega) h3 h4⟩
  by_cases g4 : N ≤ 32
  · exact ⟨_, _, zc4 N n (by omega) (by omega) h3 h4⟩
  by_cases g5 : N ≤ 48
  · exact ⟨_, _, zc5 N n (by omega) (by omega) h3 h4⟩
  by_cases g6 : N ≤ 64
  · exact ⟨_, _, zc6 N n (by omega) (by omega) h3 h4⟩
  by_cases g7 : N ≤ 80
  · exact ⟨_, _, zc7 N n (by omega) (by omega) h3 h4⟩
  by_cases g8 : N ≤ 96
  · exact ⟨_, _, zc8 N n (by omega) (by omega) h3 h4⟩
  by_cases g9 : N ≤ 112
  · exact ⟨_, _, zc9 N n (by omega) (by omega) h3 h4⟩
  by_cases g10 : N ≤ 128
  · exact ⟨_, _, zc10 N n (by omega) (by omega) h3 h4⟩
  by_cases g11 : N ≤ 144
  · exact ⟨_, _, zc11 N n (by omega) (by omega) h3 h4⟩
  by_cases g12 : N ≤ 160
  · exact ⟨_, _, zc12 N n (by omega) (by omega) h3 h4⟩
  by_cases g13 : N ≤ 176
  · exact ⟨_, _, zc13 N n (by omega) (by omega) h3 h4⟩
  by_cases g14 : N ≤ 192
  · exact ⟨_, _, zc14 N n (by omega) (by omega) h3 h4⟩
  by_cases g15 : N ≤ 208
  · exact ⟨_, _, zc15 N n (by omega) (by omega) h3 h4⟩
  by_cases g16 : N ≤ 224
  · exact ⟨_, _, zc16 N n (by omega) (by omega) h3 h4⟩
  by_cases g17 : N ≤ 240
  · exact ⟨_, _, zc17 N n (by omega) (by omega) h3 h4⟩
  by_cases g18 : N ≤ 256
  · exact ⟨_, _, zc18 N n (by omega) (by omega) h3 h4⟩
  by_cases g19 : N ≤ 288
  · exact ⟨_, _, zc19 N n (by omega) (by omega) h3 h4⟩
  by_cases g20 : N ≤ 320
  · exact ⟨_, _, zc20 N n (by omega) (by omega) h3 h4⟩
  by_cases g21 : N ≤ 352
  · exact ⟨_, _, zc21 N n (by omega) (by omega) h3 h4⟩
  by_cases g22 : N ≤ 384
  · exact ⟨_, _, zc22 N n (by omega) (by omega) h3 h4⟩
  by_cases g23 : N ≤ 416
  · exact ⟨_, _, zc23 N n (by omega) (by omega) h3 h4⟩
  by_cases g24 : N ≤ 448
  · exact ⟨_, _, zc24 N n (by omega) (by omega) h3 h4⟩
  by_cases g25 : N ≤ 480
  · exact ⟨_, _, zc25 N n (by omega) (by omega) h3 h4⟩
  by_cases g26 : N ≤ 512
  · exact ⟨_, _, zc26 N n (by omega) (by omega) h3 h4⟩
  by_cases g27 : N ≤ 576
  · exact ⟨_, _, zc27 N n (by omega) (by omega) h3 h4⟩
  by_cases g28 : N ≤ 640
  · exact ⟨_, _, zc28 N n (by omega) (by omega) h3 h4⟩
  by_cases g29 : N ≤ 704
  · exact ⟨_, _, zc29 N n (by omega) (by omega) h3 h4⟩
  by_cases g30 : N ≤ 768
  · exact ⟨_, _, zc30 N n (by omega) (by omega) h3 h4⟩
  by_cases g31 : N ≤ 896
  · exact ⟨_, _, zc31 N n (by omega) (by omega) h3 h4⟩
  by_cases g32 : N ≤ 1024
  · exact ⟨_, _, zc32 N n (by omega) (by omega) h3 h4⟩
  by_cases g33 : N ≤ 1152
  · exact ⟨_, _, zc33 N n (by omega) (by omega) h3 h4⟩
  by_cases g34 : N ≤ 1280
  · exact ⟨_, _, zc34 N n (by omega) (by omega) h3 h4⟩
  by_cases g35 : N ≤ 1408
  · exact ⟨_, _, zc35 N n (by omega) (by omega) h3 h4⟩
  by_cases g36 : N ≤ 1536
  · exact ⟨_, _, zc36 N n (by omega) (by omega) h3 h4⟩
  by_cases g37 : N ≤ 1792
  · exact ⟨_, _, zc37 N n (by omega) (by omega) h3 h4⟩
  exact ⟨_, _, zc38 N n (by omega) (by omega) h3 h4⟩
theorem law_zh (n : Int) (N : Nat) (c : Int) (w : World) (hL : Laid w) :
    Calls Tryz.prog 5 #[.int .i64 n, .int .u64 (N : Int), .int .i64 c] w fun e w' => e = .returned (.bool true) ∧ Fr (fun _ => False) w w' := law_z clszAll n N c w hL
end Go.Proofs.YtnjaaagiindclaaGreatDoor
