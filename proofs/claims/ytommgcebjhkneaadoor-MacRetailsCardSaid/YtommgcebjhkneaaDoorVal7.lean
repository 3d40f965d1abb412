/-
  AES at one key: the words, and what it answers at known blocks, reckoned round by round by the kernel. No condition.
-/
import Derived.Test.YtommgcebjhkneaaDoorAes3
namespace Go.Proofs.YtommgcebjhkneaaDoor
open Go Go.RowKit
set_option maxRecDepth 100000
def vkkey : List Int := [43, 126, 21, 22, 40, 174, 210, 166, 171, 247, 21, 136, 9, 207, 79, 60]
def vkws : List Int := [43, 126, 21, 22, 40, 174, 210, 166, 171, 247, 21, 136, 9, 207, 79, 60, 160, 250, 254, 23, 136, 84, 44, 177, 35, 163, 57, 57, 42, 108, 118, 5, 242, 194, 149, 242, 122, 150, 185, 67, 89, 53, 128, 122, 115, 89, 246, 127, 61, 128, 71, 125, 71, 22, 254, 62, 30, 35, 126, 68, 109, 122, 136, 59, 239, 68, 165, 65, 168, 82, 91, 127, 182, 113, 37, 59, 219, 11, 173, 0, 212, 209, 198, 248, 124, 131, 157, 135, 202, 242, 184, 188, 17, 249, 21, 188, 109, 136, 163, 122, 17, 11, 62, 253, 219, 249, 134, 65, 202, 0, 147, 253, 78, 84, 247, 14, 95, 95, 201, 243, 132, 166, 79, 178, 78, 166, 220, 79, 234, 210, 115, 33, 181, 141, 186, 210, 49, 43, 245, 96, 127, 141, 41, 47, 172, 119, 102, 243, 25, 250, 220, 33, 40, 209, 41, 65, 87, 92, 0, 110, 208, 20, 249, 168, 201, 238, 37, 137, 225, 63, 12, 200, 182, 99, 12, 166]
theorem vkwords : wordsI vkkey 4 = vkws := by kernel_rfl
def vkin0 : List Int := [0, 0, 0, 0, 0, 0, 0, 0, 0, 0, 0, 0, 0, 0, 0, 0]
def vks0_0 : List Int := [43, 126, 21, 22, 40, 174, 210, 166, 171, 247, 21, 136, 9, 207, 79, 60]
def vks0_1 : List Int := [220, 216, 127, 111, 155, 96, 170, 143, 31, 1, 15, 4, 87, 144, 162, 211]
def vks0_2 : List Int := [158, 3, 133, 9, 68, 156, 70, 114, 195, 43, 10, 117, 56, 221, 130, 160]
def vks0_3 : List Int := [213, 101, 103, 2, 107, 192, 49, 243, 205, 118, 100, 224, 41, 248, 252, 50]
def vks0_4 : List Int := [92, 206, 255, 251, 217, 225, 254, 152, 156, 215, 223, 57, 123, 135, 232, 167]
def vks0_5 : List Int := [145, 149, 183, 248, 144, 19, 154, 83, 4, 126, 151, 72, 124, 17, 228, 203]
def vks0_6 : List Int := [100, 111, 117, 41, 247, 108, 188, 69, 253, 25, 147, 166, 126, 197, 52, 251]
def vks0_7 : List Int := [235, 199, 86, 89, 85, 9, 177, 214, 46, 119, 46, 169, 17, 149, 33, 196]
def vks0_8 : List Int := [13, 118, 221, 9, 100, 87, 20, 72, 106, 112, 150, 95, 42, 8, 136, 1]
def vks0_9 : List Int := [24, 193, 85, 162, 169, 77, 94, 115, 239, 185, 116, 18, 251, 19, 120, 29]
def vks0_10 : List Int := [125, 247, 107, 12, 26, 184, 153, 179, 62, 66, 240, 71, 185, 27, 84, 111]
theorem vkt0_0 : encTo vkws 10 vks0_0 0 = vks0_0 := rfl
theorem vkr0_1 : encRound vkws 10 1 vks0_0 = vks0_1 := by kernel_rfl
theorem vkt0_1 : encTo vkws 10 vks0_0 1 = vks0_1 := by
  rw [show encTo vkws 10 vks0_0 1 = encRound vkws 10 1 (encTo vkws 10 vks0_0 0) from rfl, vkt0_0, vkr0_1]
theorem vkr0_2 : encRound vkws 10 2 vks0_1 = vks0_2 := by kernel_rfl
theorem vkt0_2 : encTo vkws 10 vks0_0 2 = vks0_2 := by
  rw [show encTo vkws 10 vks0_0 2 = encRound vkws 10 2 (encTo vkws 10 vks0_0 1) from rfl, vkt0_1, vkr0_2]
theorem vkr0_3 : encRound vkws 10 3 vks0_2 = vks0_3 := by kernel_rfl
theorem vkt0_3 : encTo vkws 10 vks0_0 3 = vks0_3 := by
  rw [show encTo vkws 10 vks0_0 3 = encRound vkws 10 3 (encTo vkws 10 vks0_0 2) from rfl, vkt0_2, vkr0_3]
theorem vkr0_4 : encRound vkws 10 4 vks0_3 = vks0_4 := by kernel_rfl
theorem vkt0_4 : encTo vkws 10 vks0_0 4 = vks0_4 := by
  rw [show encTo vkws 10 vks0_0 4 = encRound vkws 10 4 (encTo vkws 10 vks0_0 3) from rfl, vkt0_3, vkr0_4]
theorem vkr0_5 : encRound vkws 10 5 vks0_4 = vks0_5 := by kernel_rfl
theorem vkt0_5 : encTo vkws 10 vks0_0 5 = vks0_5 := by
  rw [show encTo vkws 10 vks0_0 5 = encRound vkws 10 5 (encTo vkws 10 vks0_0 4) from rfl, vkt0_4, vkr0_5]
theorem vkr0_6 : encRound vkws 10 6 vks0_5 = vks0_6 := by kernel_rfl
theorem vkt0_6 : encTo vkws 10 vks0_0 6 = vks0_6 := by
  rw [show encTo vkws 10 vks0_0 6 = encRound vkws 10 6 (encTo vkws 10 vks0_0 5) from rfl, vkt0_5, vkr0_6]
theorem vkr0_7 : encRound vkws 10 7 vks0_6 = vks0_7 := by kernel_rfl
theorem vkt0_7 : encTo vkws 10 vks0_0 7 = vks0_7 := by
  rw [show encTo vkws 10 vks0_0 7 = encRound vkws 10 7 (encTo vkws 10 vks0_0 6) from rfl, vkt0_6, vkr0_7]
theorem vkr0_8 : encRound vkws 10 8 vks0_7 = vks0_8 := by kernel_rfl
theorem vkt0_8 : encTo vkws 10 vks0_0 8 = vks0_8 := by
  rw [show encTo vkws 10 vks0_0 8 = encRound vkws 10 8 (encTo vkws 10 vks0_0 7) from rfl, vkt0_7, vkr0_8]
theorem vkr0_9 : encRound vkws 10 9 vks0_8 = vks0_9 := by kernel_rfl
theorem vkt0_9 : encTo vkws 10 vks0_0 9 = vks0_9 := by
  rw [show encTo vkws 10 vks0_0 9 = encRound vkws 10 9 (encTo vkws 10 vks0_0 8) from rfl, vkt0_8, vkr0_9]
theorem vkr0_10 : encRound vkws 10 10 vks0_9 = vks0_10 := by kernel_rfl
theorem vkt0_10 : encTo vkws 10 vks0_0 10 = vks0_10 := by
  rw [show encTo vkws 10 vks0_0 10 = encRound vkws 10 10 (encTo vkws 10 vks0_0 9) from rfl, vkt0_9, vkr0_10]
theorem vkw0 : withTo vkin0 vkws 0 16 = vks0_0 := by kernel_rfl
theorem vkval0 : encI vkkey 4 vkin0 = vks0_10 := by
  unfold encI
  rw [vkwords, vkw0]
  exact vkt0_10
def vkin1 : List Int := [119, 221, 172, 48, 106, 226, 102, 204, 249, 11, 193, 30, 228, 109, 81, 59]
def vks1_0 : List Int := [92, 163, 185, 38, 66, 76, 180, 106, 82, 252, 212, 150, 237, 162, 30, 7]
def vks1_1 : List Int := [194, 255, 89, 57, 158, 98, 86, 242, 57, 47, 169, 81, 131, 49, 131, 70]
def vks1_2 : List Int := [212, 156, 73, 80, 173, 138, 82, 131, 109, 125, 88, 73, 234, 128, 29, 78]
def vks1_3 : List Int := [106, 165, 212, 239, 155, 194, 50, 103, 253, 63, 214, 53, 58, 97, 156, 1]
def vks1_4 : List Int := [14, 113, 241, 108, 30, 10, 231, 77, 249, 189, 154, 113, 127, 116, 204, 137]
def vks1_5 : List Int := [47, 192, 147, 148, 13, 136, 243, 128, 12, 79, 212, 226, 103, 114, 169, 187]
def vks1_6 : List Int := [178, 60, 199, 6, 194, 131, 182, 140, 237, 53, 215, 69, 155, 101, 5, 245]
def vks1_7 : List Int := [231, 84, 1, 98, 176, 159, 29, 191, 91, 92, 108, 14, 96, 195, 13, 10]
def vks1_8 : List Int := [152, 124, 53, 195, 195, 54, 71, 50, 69, 194, 2, 105, 171, 65, 108, 141]
def vks1_9 : List Int := [5, 255, 44, 241, 84, 64, 5, 122, 223, 32, 150, 160, 250, 28, 57, 145]
def vks1_10 : List Int := [187, 29, 105, 41, 233, 89, 55, 40, 127, 163, 125, 18, 155, 117, 103, 70]
theorem vkt1_0 : encTo vkws 10 vks1_0 0 = vks1_0 := rfl
theorem vkr1_1 : encRound vkws 10 1 vks1_0 = vks1_1 := by kernel_rfl
theorem vkt1_1 : encTo vkws 10 vks1_0 1 = vks1_1 := by
  rw [show encTo vkws 10 vks1_0 1 = encRound vkws 10 1 (encTo vkws 10 vks1_0 0) from rfl, vkt1_0, vkr1_1]
theorem vkr1_2 : encRound vkws 10 2 vks1_1 = vks1_2 := by kernel_rfl
theorem vkt1_2 : encTo vkws 10 vks1_0 2 = vks1_2 := by
  rw [show encTo vkws 10 vks1_0 2 = encRound vkws 10 2 (encTo vkws 10 vks1_0 1) from rfl, vkt1_1, vkr1_2]
theorem vkr1_3 : encRound vkws 10 3 vks1_2 = vks1_3 := by kernel_rfl
theorem vkt1_3 : encTo vkws 10 vks1_0 3 = vks1_3 := by
  rw [show encTo vkws 10 vks1_0 3 = encRound vkws 10 3 (encTo vkws 10 vks1_0 2) from rfl, vkt1_2, vkr1_3]
theorem vkr1_4 : encRound vkws 10 4 vks1_3 = vks1_4 := by kernel_rfl
theorem vkt1_4 : encTo vkws 10 vks1_0 4 = vks1_4 := by
  rw [show encTo vkws 10 vks1_0 4 = encRound vkws 10 4 (encTo vkws 10 vks1_0 3) from rfl, vkt1_3, vkr1_4]
theorem vkr1_5 : encRound vkws 10 5 vks1_4 = vks1_5 := by kernel_rfl
theorem vkt1_5 : encTo vkws 10 vks1_0 5 = vks1_5 := by
  rw [show encTo vkws 10 vks1_0 5 = encRound vkws 10 5 (encTo vkws 10 vks1_0 4) from rfl, vkt1_4, vkr1_5]
theorem vkr1_6 : encRound vkws 10 6 vks1_5 = vks1_6 := by kernel_rfl
theorem vkt1_6 : encTo vkws 10 vks1_0 6 = vks1_6 := by
  rw [show encTo vkws 10 vks1_0 6 = encRound vkws 10 6 (encTo vkws 10 vks1_0 5) from rfl, vkt1_5, vkr1_6]
theorem vkr1_7 : encRound vkws 10 7 vks1_6 = vks1_7 := by kernel_rfl
theorem vkt1_7 : encTo vkws 10 vks1_0 7 = vks1_7 := by
  rw [show encTo vkws 10 vks1_0 7 = encRound vkws 10 7 (encTo vkws 10 vks1_0 6) from rfl, vkt1_6, vkr1_7]
theorem vkr1_8 : encRound vkws 10 8 vks1_7 = vks1_8 := by kernel_rfl
theorem vkt1_8 : encTo vkws 10 vks1_0 8 = vks1_8 := by
  rw [show encTo vkws 10 vks1_0 8 = encRound vkws 10 8 (encTo vkws 10 vks1_0 7) from rfl, vkt1_7, vkr1_8]
theorem vkr1_9 : encRound vkws 10 9 vks1_8 = vks1_9 := by kernel_rfl
theorem vkt1_9 : encTo vkws 10 vks1_0 9 = vks1_9 := by
  rw [show encTo vkws 10 vks1_0 9 = encRound vkws 10 9 (encTo vkws 10 vks1_0 8) from rfl, vkt1_8, vkr1_9]
theorem vkr1_10 : encRound vkws 10 10 vks1_9 = vks1_10 := by kernel_rfl
theorem vkt1_10 : encTo vkws 10 vks1_0 10 = vks1_10 := by
  rw [show encTo vkws 10 vks1_0 10 = encRound vkws 10 10 (encTo vkws 10 vks1_0 9) from rfl, vkt1_9, vkr1_10]
theorem vkw1 : withTo vkin1 vkws 0 16 = vks1_0 := by kernel_rfl
theorem vkval1 : encI vkkey 4 vkin1 = vks1_10 := by
  unfold encI
  rw [vkwords, vkw1]
  exact vkt1_10
end Go.Proofs.YtommgcebjhkneaaDoor
