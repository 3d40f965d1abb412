/-
  AES at one key: the words, and what it answers at known blocks, reckoned round by round by the kernel. No condition.
-/
import Derived.Test.YtommgcebjhkneaaDoorAes3
namespace Go.Proofs.YtommgcebjhkneaaDoor
open Go Go.RowKit
set_option maxRecDepth 100000
def vzkey : List Int := [0, 0, 0, 0, 0, 0, 0, 0, 0, 0, 0, 0, 0, 0, 0, 0]
def vzws : List Int := [0, 0, 0, 0, 0, 0, 0, 0, 0, 0, 0, 0, 0, 0, 0, 0, 98, 99, 99, 99, 98, 99, 99, 99, 98, 99, 99, 99, 98, 99, 99, 99, 155, 152, 152, 201, 249, 251, 251, 170, 155, 152, 152, 201, 249, 251, 251, 170, 144, 151, 52, 80, 105, 108, 207, 250, 242, 244, 87, 51, 11, 15, 172, 153, 238, 6, 218, 123, 135, 106, 21, 129, 117, 158, 66, 178, 126, 145, 238, 43, 127, 46, 43, 136, 248, 68, 62, 9, 141, 218, 124, 187, 243, 75, 146, 144, 236, 97, 75, 133, 20, 37, 117, 140, 153, 255, 9, 55, 106, 180, 155, 167, 33, 117, 23, 135, 53, 80, 98, 11, 172, 175, 107, 60, 198, 27, 240, 155, 14, 249, 3, 51, 59, 169, 97, 56, 151, 6, 10, 4, 81, 29, 250, 159, 177, 212, 216, 226, 138, 125, 185, 218, 29, 123, 179, 222, 76, 102, 73, 65, 180, 239, 91, 203, 62, 146, 226, 17, 35, 233, 81, 207, 111, 143, 24, 142]
theorem vzwords : wordsI vzkey 4 = vzws := by kernel_rfl
def vzin0 : List Int := [0, 0, 0, 0, 0, 0, 0, 0, 0, 0, 0, 0, 0, 0, 0, 0]
def vzs0_0 : List Int := [0, 0, 0, 0, 0, 0, 0, 0, 0, 0, 0, 0, 0, 0, 0, 0]
def vzs0_1 : List Int := [1, 0, 0, 0, 1, 0, 0, 0, 1, 0, 0, 0, 1, 0, 0, 0]
def vzs0_2 : List Int := [198, 228, 228, 139, 164, 135, 135, 232, 198, 228, 228, 139, 164, 135, 135, 232]
def vzs0_3 : List Int := [40, 45, 243, 196, 106, 243, 134, 37, 74, 78, 144, 167, 8, 144, 229, 70]
def vzs0_4 : List Int := [171, 210, 205, 254, 55, 90, 181, 73, 80, 160, 175, 192, 117, 154, 106, 95]
def vzs0_5 : List Int := [212, 111, 79, 108, 85, 184, 150, 51, 126, 5, 187, 61, 121, 121, 222, 35]
def vzs0_6 : List Int := [4, 242, 202, 151, 7, 120, 40, 69, 226, 47, 1, 150, 73, 197, 215, 16]
def vzs0_7 : List Int := [183, 170, 228, 197, 29, 37, 45, 79, 108, 146, 15, 129, 148, 229, 129, 80]
def vzs0_8 : List Int := [35, 231, 140, 60, 19, 33, 99, 219, 170, 192, 198, 87, 46, 3, 203, 149]
def vzs0_9 : List Int := [127, 254, 14, 149, 81, 165, 102, 53, 14, 52, 124, 71, 41, 41, 236, 203]
def vzs0_10 : List Int := [102, 233, 75, 212, 239, 138, 44, 59, 136, 76, 250, 89, 202, 52, 43, 46]
theorem vzt0_0 : encTo vzws 10 vzs0_0 0 = vzs0_0 := rfl
theorem vzr0_1 : encRound vzws 10 1 vzs0_0 = vzs0_1 := by kernel_rfl
theorem vzt0_1 : encTo vzws 10 vzs0_0 1 = vzs0_1 := by
  rw [show encTo vzws 10 vzs0_0 1 = encRound vzws 10 1 (encTo vzws 10 vzs0_0 0) from rfl, vzt0_0, vzr0_1]
theorem vzr0_2 : encRound vzws 10 2 vzs0_1 = vzs0_2 := by kernel_rfl
theorem vzt0_2 : encTo vzws 10 vzs0_0 2 = vzs0_2 := by
  rw [show encTo vzws 10 vzs0_0 2 = encRound vzws 10 2 (encTo vzws 10 vzs0_0 1) from rfl, vzt0_1, vzr0_2]
theorem vzr0_3 : encRound vzws 10 3 vzs0_2 = vzs0_3 := by kernel_rfl
theorem vzt0_3 : encTo vzws 10 vzs0_0 3 = vzs0_3 := by
  rw [show encTo vzws 10 vzs0_0 3 = encRound vzws 10 3 (encTo vzws 10 vzs0_0 2) from rfl, vzt0_2, vzr0_3]
theorem vzr0_4 : encRound vzws 10 4 vzs0_3 = vzs0_4 := by kernel_rfl
theorem vzt0_4 : encTo vzws 10 vzs0_0 4 = vzs0_4 := by
  rw [show encTo vzws 10 vzs0_0 4 = encRound vzws 10 4 (encTo vzws 10 vzs0_0 3) from rfl, vzt0_3, vzr0_4]
theorem vzr0_5 : encRound vzws 10 5 vzs0_4 = vzs0_5 := by kernel_rfl
theorem vzt0_5 : encTo vzws 10 vzs0_0 5 = vzs0_5 := by
  rw [show encTo vzws 10 vzs0_0 5 = encRound vzws 10 5 (encTo vzws 10 vzs0_0 4) from rfl, vzt0_4, vzr0_5]
theorem vzr0_6 : encRound vzws 10 6 vzs0_5 = vzs0_6 := by kernel_rfl
theorem vzt0_6 : encTo vzws 10 vzs0_0 6 = vzs0_6 := by
  rw [show encTo vzws 10 vzs0_0 6 = encRound vzws 10 6 (encTo vzws 10 vzs0_0 5) from rfl, vzt0_5, vzr0_6]
theorem vzr0_7 : encRound vzws 10 7 vzs0_6 = vzs0_7 := by kernel_rfl
theorem vzt0_7 : encTo vzws 10 vzs0_0 7 = vzs0_7 := by
  rw [show encTo vzws 10 vzs0_0 7 = encRound vzws 10 7 (encTo vzws 10 vzs0_0 6) from rfl, vzt0_6, vzr0_7]
theorem vzr0_8 : encRound vzws 10 8 vzs0_7 = vzs0_8 := by kernel_rfl
theorem vzt0_8 : encTo vzws 10 vzs0_0 8 = vzs0_8 := by
  rw [show encTo vzws 10 vzs0_0 8 = encRound vzws 10 8 (encTo vzws 10 vzs0_0 7) from rfl, vzt0_7, vzr0_8]
theorem vzr0_9 : encRound vzws 10 9 vzs0_8 = vzs0_9 := by kernel_rfl
theorem vzt0_9 : encTo vzws 10 vzs0_0 9 = vzs0_9 := by
  rw [show encTo vzws 10 vzs0_0 9 = encRound vzws 10 9 (encTo vzws 10 vzs0_0 8) from rfl, vzt0_8, vzr0_9]
theorem vzr0_10 : encRound vzws 10 10 vzs0_9 = vzs0_10 := by kernel_rfl
theorem vzt0_10 : encTo vzws 10 vzs0_0 10 = vzs0_10 := by
  rw [show encTo vzws 10 vzs0_0 10 = encRound vzws 10 10 (encTo vzws 10 vzs0_0 9) from rfl, vzt0_9, vzr0_10]
theorem vzw0 : withTo vzin0 vzws 0 16 = vzs0_0 := by kernel_rfl
theorem vzval0 : encI vzkey 4 vzin0 = vzs0_10 := by
  unfold encI
  rw [vzwords, vzw0]
  exact vzt0_10
def vzin1 : List Int := [102, 233, 75, 212, 239, 138, 44, 59, 136, 76, 250, 89, 202, 52, 43, 46]
def vzs1_0 : List Int := [102, 233, 75, 212, 239, 138, 44, 59, 136, 76, 250, 89, 202, 52, 43, 46]
def vzs1_1 : List Int := [154, 234, 39, 7, 5, 174, 180, 81, 136, 187, 255, 64, 18, 115, 173, 29]
def vzs1_2 : List Int := [117, 109, 31, 187, 90, 62, 31, 249, 159, 199, 56, 100, 102, 162, 175, 242]
def vzs1_3 : List Int := [242, 245, 149, 80, 204, 36, 96, 83, 72, 153, 157, 150, 170, 92, 253, 182]
def vzs1_4 : List Int := [173, 79, 11, 15, 63, 73, 237, 64, 200, 203, 34, 229, 76, 17, 180, 201]
def vzs1_5 : List Int := [77, 190, 196, 37, 200, 245, 207, 232, 249, 89, 91, 35, 186, 87, 229, 147]
def vzs1_6 : List Int := [229, 194, 67, 199, 127, 15, 190, 195, 218, 111, 69, 237, 220, 164, 164, 200]
def vzs1_7 : List Int := [148, 26, 71, 36, 230, 212, 219, 16, 237, 106, 51, 202, 69, 107, 235, 43]
def vzs1_8 : List Int := [160, 228, 252, 39, 229, 53, 126, 54, 214, 156, 62, 171, 189, 136, 195, 222]
def vzs1_9 : List Int := [100, 211, 246, 199, 184, 189, 173, 217, 8, 208, 245, 161, 146, 162, 1, 145]
def vzs1_10 : List Int := [247, 149, 189, 74, 82, 226, 158, 215, 19, 211, 19, 250, 32, 233, 141, 188]
theorem vzt1_0 : encTo vzws 10 vzs1_0 0 = vzs1_0 := rfl
theorem vzr1_1 : encRound vzws 10 1 vzs1_0 = vzs1_1 := by kernel_rfl
theorem vzt1_1 : encTo vzws 10 vzs1_0 1 = vzs1_1 := by
  rw [show encTo vzws 10 vzs1_0 1 = encRound vzws 10 1 (encTo vzws 10 vzs1_0 0) from rfl, vzt1_0, vzr1_1]
theorem vzr1_2 : encRound vzws 10 2 vzs1_1 = vzs1_2 := by kernel_rfl
theorem vzt1_2 : encTo vzws 10 vzs1_0 2 = vzs1_2 := by
  rw [show encTo vzws 10 vzs1_0 2 = encRound vzws 10 2 (encTo vzws 10 vzs1_0 1) from rfl, vzt1_1, vzr1_2]
theorem vzr1_3 : encRound vzws 10 3 vzs1_2 = vzs1_3 := by kernel_rfl
theorem vzt1_3 : encTo vzws 10 vzs1_0 3 = vzs1_3 := by
  rw [show encTo vzws 10 vzs1_0 3 = encRound vzws 10 3 (encTo vzws 10 vzs1_0 2) from rfl, vzt1_2, vzr1_3]
theorem vzr1_4 : encRound vzws 10 4 vzs1_3 = vzs1_4 := by kernel_rfl
theorem vzt1_4 : encTo vzws 10 vzs1_0 4 = vzs1_4 := by
  rw [show encTo vzws 10 vzs1_0 4 = encRound vzws 10 4 (encTo vzws 10 vzs1_0 3) from rfl, vzt1_3, vzr1_4]
theorem vzr1_5 : encRound vzws 10 5 vzs1_4 = vzs1_5 := by kernel_rfl
theorem vzt1_5 : encTo vzws 10 vzs1_0 5 = vzs1_5 := by
  rw [show encTo vzws 10 vzs1_0 5 = encRound vzws 10 5 (encTo vzws 10 vzs1_0 4) from rfl, vzt1_4, vzr1_5]
theorem vzr1_6 : encRound vzws 10 6 vzs1_5 = vzs1_6 := by kernel_rfl
theorem vzt1_6 : encTo vzws 10 vzs1_0 6 = vzs1_6 := by
  rw [show encTo vzws 10 vzs1_0 6 = encRound vzws 10 6 (encTo vzws 10 vzs1_0 5) from rfl, vzt1_5, vzr1_6]
theorem vzr1_7 : encRound vzws 10 7 vzs1_6 = vzs1_7 := by kernel_rfl
theorem vzt1_7 : encTo vzws 10 vzs1_0 7 = vzs1_7 := by
  rw [show encTo vzws 10 vzs1_0 7 = encRound vzws 10 7 (encTo vzws 10 vzs1_0 6) from rfl, vzt1_6, vzr1_7]
theorem vzr1_8 : encRound vzws 10 8 vzs1_7 = vzs1_8 := by kernel_rfl
theorem vzt1_8 : encTo vzws 10 vzs1_0 8 = vzs1_8 := by
  rw [show encTo vzws 10 vzs1_0 8 = encRound vzws 10 8 (encTo vzws 10 vzs1_0 7) from rfl, vzt1_7, vzr1_8]
theorem vzr1_9 : encRound vzws 10 9 vzs1_8 = vzs1_9 := by kernel_rfl
theorem vzt1_9 : encTo vzws 10 vzs1_0 9 = vzs1_9 := by
  rw [show encTo vzws 10 vzs1_0 9 = encRound vzws 10 9 (encTo vzws 10 vzs1_0 8) from rfl, vzt1_8, vzr1_9]
theorem vzr1_10 : encRound vzws 10 10 vzs1_9 = vzs1_10 := by kernel_rfl
theorem vzt1_10 : encTo vzws 10 vzs1_0 10 = vzs1_10 := by
  rw [show encTo vzws 10 vzs1_0 10 = encRound vzws 10 10 (encTo vzws 10 vzs1_0 9) from rfl, vzt1_9, vzr1_10]
theorem vzw1 : withTo vzin1 vzws 0 16 = vzs1_0 := by kernel_rfl
theorem vzval1 : encI vzkey 4 vzin1 = vzs1_10 := by
  unfold encI
  rw [vzwords, vzw1]
  exact vzt1_10
end Go.Proofs.YtommgcebjhkneaaDoor
