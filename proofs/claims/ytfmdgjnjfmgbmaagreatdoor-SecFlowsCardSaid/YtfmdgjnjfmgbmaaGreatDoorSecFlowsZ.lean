/-
  SecFlows: all cases put together.
-/
import Derived.Test.YtfmdgjnjfmgbmaaGreatDoorSecFlowsC1
import Derived.Test.YtfmdgjnjfmgbmaaGreatDoorSecFlowsC2
import Derived.Test.YtfmdgjnjfmgbmaaGreatDoorSecFlowsC3
import Derived.Test.YtfmdgjnjfmgbmaaGreatDoorSecFlowsC4
import Derived.Test.YtfmdgjnjfmgbmaaGreatDoorSecFlowsC5
import Derived.Test.YtfmdgjnjfmgbmaaGreatDoorSecFlowsC6
import Derived.Test.YtfmdgjnjfmgbmaaGreatDoorSecFlowsC7
import Derived.Test.YtfmdgjnjfmgbmaaGreatDoorSecFlowsC8
import Derived.Test.YtfmdgjnjfmgbmaaGreatDoorSecFlowsC9
import Derived.Test.YtfmdgjnjfmgbmaaGreatDoorSecFlowsC10
import Derived.Test.YtfmdgjnjfmgbmaaGreatDoorSecFlowsC11
import Derived.Test.YtfmdgjnjfmgbmaaGreatDoorSecFlowsC12
import Derived.Test.YtfmdgjnjfmgbmaaGreatDoorSecFlowsC13
import Derived.Test.YtfmdgjnjfmgbmaaGreatDoorSecFlowsC14
import Derived.Test.YtfmdgjnjfmgbmaaGreatDoorSecFlowsC15
import Derived.Test.YtfmdgjnjfmgbmaaGreatDoorSecFlowsC16
import Derived.Test.YtfmdgjnjfmgbmaaGreatDoorSecFlowsC17
import Derived.Test.YtfmdgjnjfmgbmaaGreatDoorSecFlowsC18
import Derived.Test.YtfmdgjnjfmgbmaaGreatDoorSecFlowsC19
import Derived.Test.YtfmdgjnjfmgbmaaGreatDoorSecFlowsC20
import Derived.Test.YtfmdgjnjfmgbmaaGreatDoorSecFlowsC21
import Derived.Test.YtfmdgjnjfmgbmaaGreatDoorSecFlowsC22
import Derived.Test.YtfmdgjnjfmgbmaaGreatDoorSecFlowsC23
import Derived.Test.YtfmdgjnjfmgbmaaGreatDoorSecFlowsC24
namespace Go.Abs.SeatC
open Go Go.Abs Go.Proofs
set_option maxRecDepth 100000
set_option linter.unusedSectionVars false
variable [Syms]
theorem flows_n (j : Nat) (h : j < 20) : PureSpec Tryz.prog gl 4 (tabF [(flowN j, .bool true)]) := by
  rcases (by omega : j = 0 ∨ j = 1 ∨ j = 2 ∨ j = 3 ∨ j = 4 ∨ j = 5 ∨ j = 6 ∨ j = 7 ∨ j = 8 ∨ j = 9 ∨ j = 10 ∨ j = 11 ∨ j = 12 ∨ j = 13 ∨ j = 14 ∨ j = 15 ∨ j = 16 ∨ j = 17 ∨ j = 18 ∨ j = 19) with rfl | rfl | rfl | rfl | rfl | rfl | rfl | rfl | rfl | rfl | rfl | rfl | rfl | rfl | rfl | rfl | rfl | rfl | rfl | rfl
  · exact flow_case fr_1_n fl_1_n
  · exact flow_case fr_2_n fl_2_n
  · exact flow_case fr_3_n fl_3_n
  · exact flow_case fr_4_n fl_4_n
  · exact flow_case fr_5_n fl_5_n
  · exact flow_case fr_6_n fl_6_n
  · exact flow_case fr_7_n fl_7_n
  · exact flow_case fr_8_n fl_8_n
  · exact flow_case fr_9_n fl_9_n
  · exact flow_case fr_10_n fl_10_n
  · exact flow_case fr_11_n fl_11_n
  · exact flow_case fr_12_n fl_12_n
  · exact flow_case fr_13_n fl_13_n
  · exact flow_case fr_14_n fl_14_n
  · exact flow_case fr_15_n fl_15_n
  · exact flow_case fr_16_n fl_16_n
  · exact flow_case fr_17_n fl_17_n
  · exact flow_case fr_18_n fl_18_n
  · exact flow_case fr_19_n fl_19_n
  · exact flow_case fr_20_n fl_20_n
theorem flows_1 (a : Nat) (h : a < 1) : PureSpec Tryz.prog gl 4 (tabF [(flowT 0 a, .bool true)]) := by
  obtain rfl : a = 0 := by omega
  exact flow_case fr_1_0 fl_1_0
theorem flows_2 (a : Nat) (h : a < 2) : PureSpec Tryz.prog gl 4 (tabF [(flowT 1 a, .bool true)]) := by
  rcases (by omega : a = 0 ∨ a = 1) with rfl | rfl
  · exact flow_case fr_2_0 fl_2_0
  · exact flow_case fr_2_1 fl_2_1
theorem flows_3 (a : Nat) (h : a < 3) : PureSpec Tryz.prog gl 4 (tabF [(flowT 2 a, .bool true)]) := by
  rcases (by omega : a = 0 ∨ a = 1 ∨ a = 2) with rfl | rfl | rfl
  · exact flow_case fr_3_0 fl_3_0
  · exact flow_case fr_3_1 fl_3_1
  · exact flow_case fr_3_2 fl_3_2
theorem flows_4 (a : Nat) (h : a < 4) : PureSpec Tryz.prog gl 4 (tabF [(flowT 3 a, .bool true)]) := by
  rcases (by omega : a = 0 ∨ a = 1 ∨ a = 2 ∨ a = 3) with rfl | rfl | rfl | rfl
  · exact flow_case fr_4_0 fl_4_0
  · exact flow_case fr_4_1 fl_4_1
  · exact flow_case fr_4_2 fl_4_2
  · exact flow_case fr_4_3 fl_4_3
theorem flows_5 (a : Nat) (h : a < 5) : PureSpec Tryz.prog gl 4 (tabF [(flowT 4 a, .bool true)]) := by
  rcases (by omega : a = 0 ∨ a = 1 ∨ a = 2 ∨ a = 3 ∨ a = 4) with rfl | rfl | rfl | rfl | rfl
  · exact flow_case fr_5_0 fl_5_0
  · exact flow_case fr_5_1 fl_5_1
  · exact flow_case fr_5_2 fl_5_2
  · exact flow_case fr_5_3 fl_5_3
  · exact flow_case fr_5_4 fl_5_4
theorem flows_6 (a : Nat) (h : a < 6) : PureSpec Tryz.prog gl 4 (tabF [(flowT 5 a, .bool true)]) := by
  rcases (by omega : a = 0 ∨ a = 1 ∨ a = 2 ∨ a = 3 ∨ a = 4 ∨ a = 5) with rfl | rfl | rfl | rfl | rfl | rfl
  · exact flow_case fr_6_0 fl_6_0
  · exact flow_case fr_6_1 fl_6_1
  · exact flow_case fr_6_2 fl_6_2
  · exact flow_case fr_6_3 fl_6_3
  · exact flow_case fr_6_4 fl_6_4
  · exact flow_case fr_6_5 fl_6_5
theorem flows_7 (a : Nat) (h : a < 7) : PureSpec Tryz.prog gl 4 (tabF [(flowT 6 a, .bool true)]) := by
  rcases (by omega : a = 0 ∨ a = 1 ∨ a = 2 ∨ a = 3 ∨ a = 4 ∨ a = 5 ∨ a = 6) with rfl | rfl | rfl | rfl | rfl | rfl | rfl
  · exact flow_case fr_7_0 fl_7_0
  · exact flow_case fr_7_1 fl_7_1
  · exact flow_case fr_7_2 fl_7_2
  · exact flow_case fr_7_3 fl_7_3
  · exact flow_case fr_7_4 fl_7_4
  · exact flow_case fr_7_5 fl_7_5
  · exact flow_case fr_7_6 fl_7_6
theorem flows_8 (a : Nat) (h : a < 8) : PureSpec Tryz.prog gl 4 (tabF [(flowT 7 a, .bool true)]) := by
  rcases (by omega : a = 0 ∨ a = 1 ∨ a = 2 ∨ a = 3 ∨ a = 4 ∨ a = 5 ∨ a = 6 ∨ a = 7) with rfl | rfl | rfl | rfl | rfl | rfl | rfl | rfl
  · exact flow_case fr_8_0 fl_8_0
  · exact flow_case fr_8_1 fl_8_1
  · exact flow_case fr_8_2 fl_8_2
  · exact flow_case fr_8_3 fl_8_3
  · exact flow_case fr_8_4 fl_8_4
  · exact flow_case fr_8_5 fl_8_5
  · exact flow_case fr_8_6 fl_8_6
  · exact flow_case fr_8_7 fl_8_7
theorem flows_9 (a : Nat) (h : a < 9) : PureSpec Tryz.prog gl 4 (tabF [(flowT 8 a, .bool true)]) := by
  rcases (by omega : a = 0 ∨ a = 1 ∨ a = 2 ∨ a = 3 ∨ a = 4 ∨ a = 5 ∨ a = 6 ∨ a = 7 ∨ a = 8) with rfl | rfl | rfl | rfl | rfl | rfl | rfl | rfl | rfl
  · exact flow_case fr_9_0 fl_9_0
  · exact flow_case fr_9_1 fl_9_1
  · exact flow_case fr_9_2 fl_9_2
  · exact flow_case fr_9_3 fl_9_3
  · exact flow_case fr_9_4 fl_9_4
  · exact flow_case fr_9_5 fl_9_5
  · exact flow_case fr_9_6 fl_9_6
  · exact flow_case fr_9_7 fl_9_7
  · exact flow_case fr_9_8 fl_9_8
theorem flows_10 (a : Nat) (h : a < 10) : PureSpec Tryz.prog gl 4 (tabF [(flowT 9 a, .bool true)]) := by
  rcases (by omega : a = 0 ∨ a = 1 ∨ a = 2 ∨ a = 3 ∨ a = 4 ∨ a = 5 ∨ a = 6 ∨ a = 7 ∨ a = 8 ∨ a = 9) with rfl | rfl | rfl | rfl | rfl | rfl | rfl | rfl | rfl | rfl
  · exact flow_case fr_10_0 fl_10_0
  · exact flow_case fr_10_1 fl_10_1
  · exact flow_case fr_10_2 fl_10_2
  · exact flow_case fr_10_3 fl_10_3
  · exact flow_case fr_10_4 fl_10_4
  · exact flow_case fr_10_5 fl_10_5
  · exact flow_case fr_10_6 fl_10_6
  · exact flow_case fr_10_7 fl_10_7
  · exact flow_case fr_10_8 fl_10_8
  · exact flow_case fr_10_9 fl_10_9
theorem flows_11 (a : Nat) (h : a < 11) : PureSpec Tryz.prog gl 4 (tabF [(flowT 10 a, .bool true)]) := by
  rcases (by omega : a = 0 ∨ a = 1 ∨ a = 2 ∨ a = 3 ∨ a = 4 ∨ a = 5 ∨ a = 6 ∨ a = 7 ∨ a = 8 ∨ a = 9 ∨ a = 10) with rfl | rfl | rfl | rfl | rfl | rfl | rfl | rfl | rfl | rfl | rfl
  · exact flow_case fr_11_0 fl_11_0
  · exact flow_case fr_11_1 fl_11_1
  · exact flow_case fr_11_2 fl_11_2
  · exact flow_case fr_11_3 fl_11_3
  · exact flow_case fr_11_4 fl_11_4
  · exact flow_case fr_11_5 fl_11_5
  · exact flow_case fr_11_6 fl_11_6
  · exact flow_case fr_11_7 fl_11_7
  · exact flow_case fr_11_8 fl_11_8
  · exact flow_case fr_11_9 fl_11_9
  · exact flow_case fr_11_10 fl_11_10
theorem flows_12 (a : Nat) (h : a < 12) : PureSpec Tryz.prog gl 4 (tabF [(flowT 11 a, .bool true)]) := by
  rcases (by omega : a = 0 ∨ a = 1 ∨ a = 2 ∨ a = 3 ∨ a = 4 ∨ a = 5 ∨ a = 6 ∨ a = 7 ∨ a = 8 ∨ a = 9 ∨ a = 10 ∨ a = 11) with rfl | rfl | rfl | rfl | rfl | rfl | rfl | rfl | rfl | rfl | rfl | rfl
  · exact flow_case fr_12_0 fl_12_0
  · exact flow_case fr_12_1 fl_12_1
  · exact flow_case fr_12_2 fl_12_2
  · exact flow_case fr_12_3 fl_12_3
  · exact flow_case fr_12_4 fl_12_4
  · exact flow_case fr_12_5 fl_12_5
  · exact flow_case fr_12_6 fl_12_6
  · exact flow_case fr_12_7 fl_12_7
  · exact flow_case fr_12_8 fl_12_8
  · exact flow_case fr_12_9 fl_12_9
  · exact flow_case fr_12_10 fl_12_10
  · exact flow_case fr_12_11 fl_12_11
theorem flows_13 (a : Nat) (h : a < 13) : PureSpec Tryz.prog gl 4 (tabF [(flowT 12 a, .bool true)]) := by
  rcases (by omega : a = 0 ∨ a = 1 ∨ a = 2 ∨ a = 3 ∨ a = 4 ∨ a = 5 ∨ a = 6 ∨ a = 7 ∨ a = 8 ∨ a = 9 ∨ a = 10 ∨ a = 11 ∨ a = 12) with rfl | rfl | rfl | rfl | rfl | rfl | rfl | rfl | rfl | rfl | rfl | rfl | rfl
  · exact flow_case fr_13_0 fl_13_0
  · exact flow_case fr_13_1 fl_13_1
  · exact flow_case fr_13_2 fl_13_2
  · exact flow_case fr_13_3 fl_13_3
  · exact flow_case fr_13_4 fl_13_4
  · exact flow_case fr_13_5 fl_13_5
  · exact flow_case fr_13_6 fl_13_6
  · exact flow_case fr_13_7 fl_13_7
  · exact flow_case fr_13_8 fl_13_8
  · exact flow_case fr_13_9 fl_13_9
  · exact flow_case fr_13_10 fl_13_10
  · exact flow_case fr_13_11 fl_13_11
  · exact flow_case fr_13_12 fl_13_12
theorem flows_14 (a : Nat) (h : a < 14) : PureSpec Tryz.prog gl 4 (tabF [(flowT 13 a, .bool true)]) := by
  rcases (by omega : a = 0 ∨ a = 1 ∨ a = 2 ∨ a = 3 ∨ a = 4 ∨ a = 5 ∨ a = 6 ∨ a = 7 ∨ a = 8 ∨ a = 9 ∨ a = 10 ∨ a = 11 ∨ a = 12 ∨ a = 13) with rfl | rfl | rfl | rfl | rfl | rfl | rfl | rfl | rfl | rfl | rfl | rfl | rfl | rfl
  · exact flow_case fr_14_0 fl_14_0
  · exact flow_case fr_14_1 fl_14_1
  · exact flow_case fr_14_2 fl_14_2
  · exact flow_case fr_14_3 fl_14_3
  · exact flow_case fr_14_4 fl_14_4
  · exact flow_case fr_14_5 fl_14_5
  · exact flow_case fr_14_6 fl_14_6
  · exact flow_case fr_14_7 fl_14_7
  · exact flow_case fr_14_8 fl_14_8
  · exact flow_case fr_14_9 fl_14_9
  · exact flow_case fr_14_10 fl_14_10
  · exact flow_case fr_14_11 fl_14_11
  · exact flow_case fr_14_12 fl_14_12
  · exact flow_case fr_14_13 fl_14_13
theorem flows_15 (a : Nat) (h : a < 15) : PureSpec Tryz.prog gl 4 (tabF [(flowT 14 a, .bool true)]) := by
  rcases (by omega : a = 0 ∨ a = 1 ∨ a = 2 ∨ a = 3 ∨ a = 4 ∨ a = 5 ∨ a = 6 ∨ a = 7 ∨ a = 8 ∨ a = 9 ∨ a = 10 ∨ a = 11 ∨ a = 12 ∨ a = 13 ∨ a = 14) with rfl | rfl | rfl | rfl | rfl | rfl | rfl | rfl | rfl | rfl | rfl | rfl | rfl | rfl | rfl
  · exact flow_case fr_15_0 fl_15_0
  · exact flow_case fr_15_1 fl_15_1
  · exact flow_case fr_15_2 fl_15_2
  · exact flow_case fr_15_3 fl_15_3
  · exact flow_case fr_15_4 fl_15_4
  · exact flow_case fr_15_5 fl_15_5
  · exact flow_case fr_15_6 fl_15_6
  · exact flow_case fr_15_7 fl_15_7
  · exact flow_case fr_15_8 fl_15_8
  · exact flow_case fr_15_9 fl_15_9
  · exact flow_case fr_15_10 fl_15_10
  · exact flow_case fr_15_11 fl_15_11
  · exact flow_case fr_15_12 fl_15_12
  · exact flow_case fr_15_13 fl_15_13
  · exact flow_case fr_15_14 fl_15_14
theorem flows_16 (a : Nat) (h : a < 16) : PureSpec Tryz.prog gl 4 (tabF [(flowT 15 a, .bool true)]) := by
  rcases (by omega : a = 0 ∨ a = 1 ∨ a = 2 ∨ a = 3 ∨ a = 4 ∨ a = 5 ∨ a = 6 ∨ a = 7 ∨ a = 8 ∨ a = 9 ∨ a = 10 ∨ a = 11 ∨ a = 12 ∨ a = 13 ∨ a = 14 ∨ a = 15) with rfl | rfl | rfl | rfl | rfl | rfl | rfl | rfl | rfl | rfl | rfl | rfl | rfl | rfl | rfl | rfl
  · exact flow_case fr_16_0 fl_16_0
  · exact flow_case fr_16_1 fl_16_1
  · exact flow_case fr_16_2 fl_16_2
  · exact flow_case fr_16_3 fl_16_3
  · exact flow_case fr_16_4 fl_16_4
  · exact flow_case fr_16_5 fl_16_5
  · exact flow_case fr_16_6 fl_16_6
  · exact flow_case fr_16_7 fl_16_7
  · exact flow_case fr_16_8 fl_16_8
  · exact flow_case fr_16_9 fl_16_9
  · exact flow_case fr_16_10 fl_16_10
  · exact flow_case fr_16_11 fl_16_11
  · exact flow_case fr_16_12 fl_16_12
  · exact flow_case fr_16_13 fl_16_13
  · exact flow_case fr_16_14 fl_16_14
  · exact flow_case fr_16_15 fl_16_15
theorem flows_17 (a : Nat) (h : a < 17) : PureSpec Tryz.prog gl 4 (tabF [(flowT 16 a, .bool true)]) := by
  rcases (by omega : a = 0 ∨ a = 1 ∨ a = 2 ∨ a = 3 ∨ a = 4 ∨ a = 5 ∨ a = 6 ∨ a = 7 ∨ a = 8 ∨ a = 9 ∨ a = 10 ∨ a = 11 ∨ a = 12 ∨ a = 13 ∨ a = 14 ∨ a = 15 ∨ a = 16) with rfl | rfl | rfl | rfl | rfl | rfl | rfl | rfl | rfl | rfl | rfl | rfl | rfl | rfl | rfl | rfl | rfl
  · exact flow_case fr_17_0 fl_17_0
  · exact flow_case fr_17_1 fl_17_1
  · exact flow_case fr_17_2 fl_17_2
  · exact flow_case fr_17_3 fl_17_3
  · exact flow_case fr_17_4 fl_17_4
  · exact flow_case fr_17_5 fl_17_5
  · exact flow_case fr_17_6 fl_17_6
  · exact flow_case fr_17_7 fl_17_7
  · exact flow_case fr_17_8 fl_17_8
  · exact flow_case fr_17_9 fl_17_9
  · exact flow_case fr_17_10 fl_17_10
  · exact flow_case fr_17_11 fl_17_11
  · exact flow_case fr_17_12 fl_17_12
  · exact flow_case fr_17_13 fl_17_13
  · exact flow_case fr_17_14 fl_17_14
  · exact flow_case fr_17_15 fl_17_15
  · exact flow_case fr_17_16 fl_17_16
theorem flows_18 (a : Nat) (h : a < 18) : PureSpec Tryz.prog gl 4 (tabF [(flowT 17 a, .bool true)]) := by
  rcases (by omega : a = 0 ∨ a = 1 ∨ a = 2 ∨ a = 3 ∨ a = 4 ∨ a = 5 ∨ a = 6 ∨ a = 7 ∨ a = 8 ∨ a = 9 ∨ a = 10 ∨ a = 11 ∨ a = 12 ∨ a = 13 ∨ a = 14 ∨ a = 15 ∨ a = 16 ∨ a = 17) with rfl | rfl | rfl | rfl | rfl | rfl | rfl | rfl | rfl | rfl | rfl | rfl | rfl | rfl | rfl | rfl | rfl | rfl
  · exact flow_case fr_18_0 fl_18_0
  · exact flow_case fr_18_1 fl_18_1
  · exact flow_case fr_18_2 fl_18_2
  · exact flow_case fr_18_3 fl_18_3
  · exact flow_case fr_18_4 fl_18_4
  · exact flow_case fr_18_5 fl_18_5
  · exact flow_case fr_18_6 fl_18_6
  · exact flow_case fr_18_7 fl_18_7
  · exact flow_case fr_18_8 fl_18_8
  · exact flow_case fr_18_9 fl_18_9
  · exact flow_case fr_18_10 fl_18_10
  · exact flow_case fr_18_11 fl_18_11
  · exact flow_case fr_18_12 fl_18_12
  · exact flow_case fr_18_13 fl_18_13
  · exact flow_case fr_18_14 fl_18_14
  · exact flow_case fr_18_15 fl_18_15
  · exact flow_case fr_18_16 fl_18_16
  · exact flow_case fr_18_17 fl_18_17
theorem flows_19 (a : Nat) (h : a < 19) : PureSpec Tryz.prog gl 4 (tabF [(flowT 18 a, .bool true)]) := by
  rcases (by omega : a = 0 ∨ a = 1 ∨ a = 2 ∨ a = 3 ∨ a = 4 ∨ a = 5 ∨ a = 6 ∨ a = 7 ∨ a = 8 ∨ a = 9 ∨ a = 10 ∨ a = 11 ∨ a = 12 ∨ a = 13 ∨ a = 14 ∨ a = 15 ∨ a = 16 ∨ a = 17 ∨ a = 18) with rfl | rfl | rfl | rfl | rfl | rfl | rfl | rfl | rfl | rfl | rfl | rfl | rfl | rfl | rfl | rfl | rfl | rfl | rfl
  · exact flow_case fr_19_0 fl_19_0
  · exact flow_case fr_19_1 fl_19_1
  · exact flow_case fr_19_2 fl_19_2
  · exact flow_case fr_19_3 fl_19_3
  · exact flow_case fr_19_4 fl_19_4
  · exact flow_case fr_19_5 fl_19_5
  · exact flow_case fr_19_6 fl_19_6
  · exact flow_case fr_19_7 fl_19_7
  · exact flow_case fr_19_8 fl_19_8
  · exact flow_case fr_19_9 fl_19_9
  · exact flow_case fr_19_10 fl_19_10
  · exact flow_case fr_19_11 fl_19_11
  · exact flow_case fr_19_12 fl_19_12
  · exact flow_case fr_19_13 fl_19_13
  · exact flow_case fr_19_14 fl_19_14
  · exact flow_case fr_19_15 fl_19_15
  · exact flow_case fr_19_16 fl_19_16
  · exact flow_case fr_19_17 fl_19_17
  · exact flow_case fr_19_18 fl_19_18
theorem flows_20 (a : Nat) (h : a < 20) : PureSpec Tryz.prog gl 4 (tabF [(flowT 19 a, .bool true)]) := by
  rcases (by omega : a = 0 ∨ a = 1 ∨ a = 2 ∨ a = 3 ∨ a = 4 ∨ a = 5 ∨ a = 6 ∨ a = 7 ∨ a = 8 ∨ a = 9 ∨ a = 10 ∨ a = 11 ∨ a = 12 ∨ a = 13 ∨ a = 14 ∨ a = 15 ∨ a = 16 ∨ a = 17 ∨ a = 18 ∨ a = 19) with rfl | rfl | rfl | rfl | rfl | rfl | rfl | rfl | rfl | rfl | rfl | rfl | rfl | rfl | rfl | rfl | rfl | rfl | rfl | rfl
  · exact flow_case fr_20_0 fl_20_0
  · exact flow_case fr_20_1 fl_20_1
  · exact flow_case fr_20_2 fl_20_2
  · exact flow_case fr_20_3 fl_20_3
  · exact flow_case fr_20_4 fl_20_4
  · exact flow_case fr_20_5 fl_20_5
  · exact flow_case fr_20_6 fl_20_6
  · exact flow_case fr_20_7 fl_20_7
  · exact flow_case fr_20_8 fl_20_8
  · exact flow_case fr_20_9 fl_20_9
  · exact flow_case fr_20_10 fl_20_10
  · exact flow_case fr_20_11 fl_20_11
  · exact flow_case fr_20_12 fl_20_12
  · exact flow_case fr_20_13 fl_20_13
  · exact flow_case fr_20_14 fl_20_14
  · exact flow_case fr_20_15 fl_20_15
  · exact flow_case fr_20_16 fl_20_16
  · exact flow_case fr_20_17 fl_20_17
  · exact flow_case fr_20_18 fl_20_18
  · exact flow_case fr_20_19 fl_20_19
theorem flows_t (j a : Nat) (h : j < 20) (ha : a < j + 1) : PureSpec Tryz.prog gl 4 (tabF [(flowT j a, .bool true)]) := by
  rcases (by omega : j = 0 ∨ j = 1 ∨ j = 2 ∨ j = 3 ∨ j = 4 ∨ j = 5 ∨ j = 6 ∨ j = 7 ∨ j = 8 ∨ j = 9 ∨ j = 10 ∨ j = 11 ∨ j = 12 ∨ j = 13 ∨ j = 14 ∨ j = 15 ∨ j = 16 ∨ j = 17 ∨ j = 18 ∨ j = 19) with rfl | rfl | rfl | rfl | rfl | rfl | rfl | rfl | rfl | rfl | rfl | rfl | rfl | rfl | rfl | rfl | rfl | rfl | rfl | rfl
  · exact flows_1 a ha
  · exact flows_2 a ha
  · exact flows_3 a ha
  · exact flows_4 a ha
  · exact flows_5 a ha
  · exact flows_6 a ha
  · exact flows_7 a ha
  · exact flows_8 a ha
  · exact flows_9 a ha
  · exact flows_10 a ha
  · exact flows_11 a ha
  · exact flows_12 a ha
  · exact flows_13 a ha
  · exact flows_14 a ha
  · exact flows_15 a ha
  · exact flows_16 a ha
  · exact flows_17 a ha
  · exact flows_18 a ha
  · exact flows_19 a ha
  · exact flows_20 a ha
end Go.Abs.SeatC
