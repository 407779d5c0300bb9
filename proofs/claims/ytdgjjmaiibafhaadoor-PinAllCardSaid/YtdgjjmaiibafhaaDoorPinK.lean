/-
  pins: the hashes of two PINs, reckoned step by step.
-/
import Derived.Test.YtdgjjmaiibafhaaDoorPinB
namespace Go.Proofs.YtdgjjmaiibafhaaDoor
set_option maxRecDepth 100000
open Go.RowKit

def pin1 : List UInt8 := [49, 50, 51, 52]
def pin9 : List UInt8 := [57, 57, 57, 57]
def dK1 : List UInt8 := [163, 231, 119, 109, 209, 252, 104, 13, 131, 176, 149, 81, 210, 177, 23, 122, 92, 129, 11, 219, 219, 97, 176, 35, 144, 156, 111, 10, 66, 194, 210, 4]
def dV1 : List UInt8 := [197, 96, 156, 230, 204, 27, 175, 214, 140, 65, 12, 182, 114, 69, 248, 10, 180, 71, 137, 197, 26, 155, 48, 11, 222, 15, 181, 157, 30, 21, 88, 50]
def dV2 : List UInt8 := [180, 66, 153, 144, 126, 78, 66, 170, 79, 222, 213, 214, 21, 62, 139, 172, 63, 53, 152, 123, 190, 95, 160, 136, 101, 196, 83, 57, 33, 71, 132, 162]
def dS : List UInt8 := [180, 66, 153, 144, 126, 78, 66, 170, 79, 222, 213, 214, 21, 62, 139, 172]
theorem e_K1 : hm (zs 32) (List.replicate 32 1 ++ [0] ++ []) = dK1 := by decide +kernel
theorem e_V1 : hm dK1 (List.replicate 32 1) = dV1 := by decide +kernel
theorem e_V2 : hm dK1 dV1 = dV2 := by decide +kernel
def u10 : List UInt8 := [92, 188, 103, 7, 58, 50, 98, 17, 70, 53, 235, 5, 81, 180, 165, 120, 237, 228, 191, 224, 247, 13, 78, 12, 201, 41, 38, 236, 65, 50, 57, 226]
def u11 : List UInt8 := [58, 112, 68, 99, 132, 212, 104, 182, 241, 37, 170, 147, 250, 116, 246, 29, 242, 171, 127, 162, 82, 27, 158, 20, 74, 187, 22, 189, 34, 135, 204, 118]
def u12 : List UInt8 := [90, 162, 68, 37, 170, 155, 24, 21, 149, 145, 54, 183, 9, 44, 90, 8, 179, 245, 156, 8, 6, 156, 90, 64, 17, 75, 26, 111, 102, 160, 116, 24]
def u13 : List UInt8 := [155, 195, 179, 30, 120, 128, 103, 196, 15, 122, 251, 209, 135, 251, 135, 142, 156, 102, 220, 164, 81, 227, 170, 227, 242, 89, 134, 97, 74, 249, 230, 135]
def u14 : List UInt8 := [125, 242, 100, 242, 34, 37, 144, 167, 153, 183, 75, 243, 50, 107, 200, 169, 233, 163, 225, 186, 22, 164, 167, 33, 159, 216, 54, 79, 148, 175, 252, 221]
def u15 : List UInt8 := [76, 23, 27, 206, 63, 128, 168, 144, 249, 112, 244, 140, 70, 40, 233, 143, 24, 246, 249, 73, 10, 86, 218, 229, 154, 112, 242, 208, 40, 193, 193, 249]
def u16 : List UInt8 := [94, 36, 132, 192, 165, 180, 134, 124, 230, 155, 93, 220, 224, 36, 53, 250, 196, 126, 165, 142, 241, 86, 123, 137, 200, 225, 40, 10, 66, 85, 11, 129]
def u17 : List UInt8 := [139, 206, 234, 149, 206, 176, 47, 30, 192, 193, 17, 162, 136, 69, 38, 207, 89, 68, 201, 18, 106, 250, 176, 52, 113, 152, 17, 161, 3, 144, 238, 252]
def t1 : List UInt8 := [67, 162, 197, 54, 26, 92, 228, 35, 107, 102, 127, 241, 57, 53, 188, 240, 92, 179, 244, 129, 117, 55, 150, 194, 220, 81, 81, 107, 178, 71, 191, 82]
theorem e_u10 : uS 3 pin1 (dS ++ num4 (((0 : Nat) : Int) + 1)) 0 = u10 := by decide +kernel
theorem e_u11 : uS 3 pin1 (dS ++ num4 (((0 : Nat) : Int) + 1)) 1 = u11 := by
  have h : uS 3 pin1 (dS ++ num4 (((0 : Nat) : Int) + 1)) (0 + 1) = rhmac 3 pin1 (uS 3 pin1 (dS ++ num4 (((0 : Nat) : Int) + 1)) 0) := rfl
  rw [show 1 = 0 + 1 from rfl, h, e_u10]
  decide +kernel
theorem e_u12 : uS 3 pin1 (dS ++ num4 (((0 : Nat) : Int) + 1)) 2 = u12 := by
  have h : uS 3 pin1 (dS ++ num4 (((0 : Nat) : Int) + 1)) (1 + 1) = rhmac 3 pin1 (uS 3 pin1 (dS ++ num4 (((0 : Nat) : Int) + 1)) 1) := rfl
  rw [show 2 = 1 + 1 from rfl, h, e_u11]
  decide +kernel
theorem e_u13 : uS 3 pin1 (dS ++ num4 (((0 : Nat) : Int) + 1)) 3 = u13 := by
  have h : uS 3 pin1 (dS ++ num4 (((0 : Nat) : Int) + 1)) (2 + 1) = rhmac 3 pin1 (uS 3 pin1 (dS ++ num4 (((0 : Nat) : Int) + 1)) 2) := rfl
  rw [show 3 = 2 + 1 from rfl, h, e_u12]
  decide +kernel
theorem e_u14 : uS 3 pin1 (dS ++ num4 (((0 : Nat) : Int) + 1)) 4 = u14 := by
  have h : uS 3 pin1 (dS ++ num4 (((0 : Nat) : Int) + 1)) (3 + 1) = rhmac 3 pin1 (uS 3 pin1 (dS ++ num4 (((0 : Nat) : Int) + 1)) 3) := rfl
  rw [show 4 = 3 + 1 from rfl, h, e_u13]
  decide +kernel
theorem e_u15 : uS 3 pin1 (dS ++ num4 (((0 : Nat) : Int) + 1)) 5 = u15 := by
  have h : uS 3 pin1 (dS ++ num4 (((0 : Nat) : Int) + 1)) (4 + 1) = rhmac 3 pin1 (uS 3 pin1 (dS ++ num4 (((0 : Nat) : Int) + 1)) 4) := rfl
  rw [show 5 = 4 + 1 from rfl, h, e_u14]
  decide +kernel
theorem e_u16 : uS 3 pin1 (dS ++ num4 (((0 : Nat) : Int) + 1)) 6 = u16 := by
  have h : uS 3 pin1 (dS ++ num4 (((0 : Nat) : Int) + 1)) (5 + 1) = rhmac 3 pin1 (uS 3 pin1 (dS ++ num4 (((0 : Nat) : Int) + 1)) 5) := rfl
  rw [show 6 = 5 + 1 from rfl, h, e_u15]
  decide +kernel
theorem e_u17 : uS 3 pin1 (dS ++ num4 (((0 : Nat) : Int) + 1)) 7 = u17 := by
  have h : uS 3 pin1 (dS ++ num4 (((0 : Nat) : Int) + 1)) (6 + 1) = rhmac 3 pin1 (uS 3 pin1 (dS ++ num4 (((0 : Nat) : Int) + 1)) 6) := rfl
  rw [show 7 = 6 + 1 from rfl, h, e_u16]
  decide +kernel
def t10 : List UInt8 := [92, 188, 103, 7, 58, 50, 98, 17, 70, 53, 235, 5, 81, 180, 165, 120, 237, 228, 191, 224, 247, 13, 78, 12, 201, 41, 38, 236, 65, 50, 57, 226]
def t11 : List UInt8 := [102, 204, 35, 100, 190, 230, 10, 167, 183, 16, 65, 150, 171, 192, 83, 101, 31, 79, 192, 66, 165, 22, 208, 24, 131, 146, 48, 81, 99, 181, 245, 148]
def t12 : List UInt8 := [60, 110, 103, 65, 20, 125, 18, 178, 34, 129, 119, 33, 162, 236, 9, 109, 172, 186, 92, 74, 163, 138, 138, 88, 146, 217, 42, 62, 5, 21, 129, 140]
def t13 : List UInt8 := [167, 173, 212, 95, 108, 253, 117, 118, 45, 251, 140, 240, 37, 23, 142, 227, 48, 220, 128, 238, 242, 105, 32, 187, 96, 128, 172, 95, 79, 236, 103, 11]
def t14 : List UInt8 := [218, 95, 176, 173, 78, 216, 229, 209, 180, 76, 199, 3, 23, 124, 70, 74, 217, 127, 97, 84, 228, 205, 135, 154, 255, 88, 154, 16, 219, 67, 155, 214]
def t15 : List UInt8 := [150, 72, 171, 99, 113, 88, 77, 65, 77, 60, 51, 143, 81, 84, 175, 197, 193, 137, 152, 29, 238, 155, 93, 127, 101, 40, 104, 192, 243, 130, 90, 47]
def t16 : List UInt8 := [200, 108, 47, 163, 212, 236, 203, 61, 171, 167, 110, 83, 177, 112, 154, 63, 5, 247, 61, 147, 31, 205, 38, 246, 173, 201, 64, 202, 177, 215, 81, 174]
def t17 : List UInt8 := [67, 162, 197, 54, 26, 92, 228, 35, 107, 102, 127, 241, 57, 53, 188, 240, 92, 179, 244, 129, 117, 55, 150, 194, 220, 81, 81, 107, 178, 71, 191, 82]
theorem e_t10 : tS 3 pin1 (dS ++ num4 (((0 : Nat) : Int) + 1)) 0 = t10 := by
  have h : tS 3 pin1 (dS ++ num4 (((0 : Nat) : Int) + 1)) 0 = uS 3 pin1 (dS ++ num4 (((0 : Nat) : Int) + 1)) 0 := rfl
  rw [h, e_u10]
  decide +kernel
theorem e_t11 : tS 3 pin1 (dS ++ num4 (((0 : Nat) : Int) + 1)) 1 = t11 := by
  have h : tS 3 pin1 (dS ++ num4 (((0 : Nat) : Int) + 1)) (0 + 1) = xorL (tS 3 pin1 (dS ++ num4 (((0 : Nat) : Int) + 1)) 0) (uS 3 pin1 (dS ++ num4 (((0 : Nat) : Int) + 1)) (0 + 1)) := rfl
  rw [show 1 = 0 + 1 from rfl, h, e_t10, show 0 + 1 = 1 from rfl, e_u11]
  decide +kernel
theorem e_t12 : tS 3 pin1 (dS ++ num4 (((0 : Nat) : Int) + 1)) 2 = t12 := by
  have h : tS 3 pin1 (dS ++ num4 (((0 : Nat) : Int) + 1)) (1 + 1) = xorL (tS 3 pin1 (dS ++ num4 (((0 : Nat) : Int) + 1)) 1) (uS 3 pin1 (dS ++ num4 (((0 : Nat) : Int) + 1)) (1 + 1)) := rfl
  rw [show 2 = 1 + 1 from rfl, h, e_t11, show 1 + 1 = 2 from rfl, e_u12]
  decide +kernel
theorem e_t13 : tS 3 pin1 (dS ++ num4 (((0 : Nat) : Int) + 1)) 3 = t13 := by
  have h : tS 3 pin1 (dS ++ num4 (((0 : Nat) : Int) + 1)) (2 + 1) = xorL (tS 3 pin1 (dS ++ num4 (((0 : Nat) : Int) + 1)) 2) (uS 3 pin1 (dS ++ num4 (((0 : Nat) : Int) + 1)) (2 + 1)) := rfl
  rw [show 3 = 2 + 1 from rfl, h, e_t12, show 2 + 1 = 3 from rfl, e_u13]
  decide +kernel
theorem e_t14 : tS 3 pin1 (dS ++ num4 (((0 : Nat) : Int) + 1)) 4 = t14 := by
  have h : tS 3 pin1 (dS ++ num4 (((0 : Nat) : Int) + 1)) (3 + 1) = xorL (tS 3 pin1 (dS ++ num4 (((0 : Nat) : Int) + 1)) 3) (uS 3 pin1 (dS ++ num4 (((0 : Nat) : Int) + 1)) (3 + 1)) := rfl
  rw [show 4 = 3 + 1 from rfl, h, e_t13, show 3 + 1 = 4 from rfl, e_u14]
  decide +kernel
theorem e_t15 : tS 3 pin1 (dS ++ num4 (((0 : Nat) : Int) + 1)) 5 = t15 := by
  have h : tS 3 pin1 (dS ++ num4 (((0 : Nat) : Int) + 1)) (4 + 1) = xorL (tS 3 pin1 (dS ++ num4 (((0 : Nat) : Int) + 1)) 4) (uS 3 pin1 (dS ++ num4 (((0 : Nat) : Int) + 1)) (4 + 1)) := rfl
  rw [show 5 = 4 + 1 from rfl, h, e_t14, show 4 + 1 = 5 from rfl, e_u15]
  decide +kernel
theorem e_t16 : tS 3 pin1 (dS ++ num4 (((0 : Nat) : Int) + 1)) 6 = t16 := by
  have h : tS 3 pin1 (dS ++ num4 (((0 : Nat) : Int) + 1)) (5 + 1) = xorL (tS 3 pin1 (dS ++ num4 (((0 : Nat) : Int) + 1)) 5) (uS 3 pin1 (dS ++ num4 (((0 : Nat) : Int) + 1)) (5 + 1)) := rfl
  rw [show 6 = 5 + 1 from rfl, h, e_t15, show 5 + 1 = 6 from rfl, e_u16]
  decide +kernel
theorem e_t17 : tS 3 pin1 (dS ++ num4 (((0 : Nat) : Int) + 1)) 7 = t17 := by
  have h : tS 3 pin1 (dS ++ num4 (((0 : Nat) : Int) + 1)) (6 + 1) = xorL (tS 3 pin1 (dS ++ num4 (((0 : Nat) : Int) + 1)) 6) (uS 3 pin1 (dS ++ num4 (((0 : Nat) : Int) + 1)) (6 + 1)) := rfl
  rw [show 7 = 6 + 1 from rfl, h, e_t16, show 6 + 1 = 7 from rfl, e_u17]
  decide +kernel
theorem e_p1 : pinH pin1 dS = t17 := by
  unfold pinH pkeyAll
  rw [if_pos (by decide)]
  have hl : (pbk 3 pin1 dS 8 1).length = 32 := by
    rw [pbk_len 3 (by omega) pin1 dS (by decide) (by decide)]
    decide
  rw [show (32 : Int).toNat = 32 from rfl, show (8 : Int).toNat = 8 from rfl, pkey_of 3 pin1 dS 8 32 1 (by omega) (by rw [hl]; omega)]
  have h : pbk 3 pin1 dS 8 1 = [] ++ tS 3 pin1 (dS ++ num4 (((0 : Nat) : Int) + 1)) 7 := rfl
  rw [h, e_t17]
  decide
def u90 : List UInt8 := [10, 123, 221, 212, 19, 4, 248, 64, 96, 247, 126, 64, 194, 106, 140, 104, 137, 120, 163, 89, 29, 146, 81, 111, 30, 106, 212, 100, 10, 201, 190, 179]
def u91 : List UInt8 := [171, 0, 187, 53, 212, 204, 78, 77, 127, 166, 157, 248, 93, 128, 57, 62, 48, 77, 43, 173, 127, 204, 27, 153, 247, 189, 35, 108, 253, 135, 185, 23]
def u92 : List UInt8 := [220, 224, 195, 206, 234, 101, 254, 121, 146, 90, 41, 35, 170, 2, 21, 21, 160, 239, 125, 0, 152, 238, 109, 147, 186, 29, 24, 218, 224, 160, 38, 238]
def u93 : List UInt8 := [32, 150, 180, 14, 25, 134, 104, 237, 175, 246, 127, 186, 227, 97, 151, 248, 197, 102, 228, 87, 112, 253, 236, 30, 192, 169, 47, 94, 168, 235, 181, 61]
def u94 : List UInt8 := [79, 115, 13, 224, 26, 105, 109, 63, 242, 89, 155, 88, 40, 76, 199, 52, 151, 81, 15, 39, 42, 138, 244, 73, 169, 78, 48, 181, 1, 28, 105, 171]
def u95 : List UInt8 := [231, 102, 248, 168, 58, 187, 191, 215, 127, 187, 231, 228, 196, 247, 183, 30, 103, 110, 195, 6, 160, 8, 146, 45, 31, 21, 215, 250, 207, 202, 156, 129]
def u96 : List UInt8 := [176, 225, 131, 115, 35, 146, 170, 193, 189, 195, 201, 178, 222, 179, 218, 47, 93, 46, 181, 176, 88, 171, 17, 52, 147, 159, 45, 201, 68, 30, 158, 24]
def u97 : List UInt8 := [198, 73, 118, 151, 108, 208, 24, 89, 145, 118, 204, 97, 94, 64, 96, 73, 110, 110, 91, 155, 67, 110, 2, 8, 222, 183, 16, 15, 6, 14, 22, 113]
def t9 : List UInt8 := [131, 176, 17, 141, 91, 187, 64, 233, 131, 170, 204, 78, 186, 193, 253, 247, 31, 195, 51, 169, 27, 10, 190, 35, 104, 16, 26, 5, 51, 195, 233, 52]
theorem e_u90 : uS 3 pin9 (dS ++ num4 (((0 : Nat) : Int) + 1)) 0 = u90 := by decide +kernel
theorem e_u91 : uS 3 pin9 (dS ++ num4 (((0 : Nat) : Int) + 1)) 1 = u91 := by
  have h : uS 3 pin9 (dS ++ num4 (((0 : Nat) : Int) + 1)) (0 + 1) = rhmac 3 pin9 (uS 3 pin9 (dS ++ num4 (((0 : Nat) : Int) + 1)) 0) := rfl
  rw [show 1 = 0 + 1 from rfl, h, e_u90]
  decide +kernel
theorem e_u92 : uS 3 pin9 (dS ++ num4 (((0 : Nat) : Int) + 1)) 2 = u92 := by
  have h : uS 3 pin9 (dS ++ num4 (((0 : Nat) : Int) + 1)) (1 + 1) = rhmac 3 pin9 (uS 3 pin9 (dS ++ num4 (((0 : Nat) : Int) + 1)) 1) := rfl
  rw [show 2 = 1 + 1 from rfl, h, e_u91]
  decide +kernel
theorem e_u93 : uS 3 pin9 (dS ++ num4 (((0 : Nat) : Int) + 1)) 3 = u93 := by
  have h : uS 3 pin9 (dS ++ num4 (((0 : Nat) : Int) + 1)) (2 + 1) = rhmac 3 pin9 (uS 3 pin9 (dS ++ num4 (((0 : Nat) : Int) + 1)) 2) := rfl
  rw [show 3 = 2 + 1 from rfl, h, e_u92]
  decide +kernel
theorem e_u94 : uS 3 pin9 (dS ++ num4 (((0 : Nat) : Int) + 1)) 4 = u94 := by
  have h : uS 3 pin9 (dS ++ num4 (((0 : Nat) : Int) + 1)) (3 + 1) = rhmac 3 pin9 (uS 3 pin9 (dS ++ num4 (((0 : Nat) : Int) + 1)) 3) := rfl
  rw [show 4 = 3 + 1 from rfl, h, e_u93]
  decide +kernel
theorem e_u95 : uS 3 pin9 (dS ++ num4 (((0 : Nat) : Int) + 1)) 5 = u95 := by
  have h : uS 3 pin9 (dS ++ num4 (((0 : Nat) : Int) + 1)) (4 + 1) = rhmac 3 pin9 (uS 3 pin9 (dS ++ num4 (((0 : Nat) : Int) + 1)) 4) := rfl
  rw [show 5 = 4 + 1 from rfl, h, e_u94]
  decide +kernel
theorem e_u96 : uS 3 pin9 (dS ++ num4 (((0 : Nat) : Int) + 1)) 6 = u96 := by
  have h : uS 3 pin9 (dS ++ num4 (((0 : Nat) : Int) + 1)) (5 + 1) = rhmac 3 pin9 (uS 3 pin9 (dS ++ num4 (((0 : Nat) : Int) + 1)) 5) := rfl
  rw [show 6 = 5 + 1 from rfl, h, e_u95]
  decide +kernel
theorem e_u97 : uS 3 pin9 (dS ++ num4 (((0 : Nat) : Int) + 1)) 7 = u97 := by
  have h : uS 3 pin9 (dS ++ num4 (((0 : Nat) : Int) + 1)) (6 + 1) = rhmac 3 pin9 (uS 3 pin9 (dS ++ num4 (((0 : Nat) : Int) + 1)) 6) := rfl
  rw [show 7 = 6 + 1 from rfl, h, e_u96]
  decide +kernel
def t90 : List UInt8 := [10, 123, 221, 212, 19, 4, 248, 64, 96, 247, 126, 64, 194, 106, 140, 104, 137, 120, 163, 89, 29, 146, 81, 111, 30, 106, 212, 100, 10, 201, 190, 179]
def t91 : List UInt8 := [161, 123, 102, 225, 199, 200, 182, 13, 31, 81, 227, 184, 159, 234, 181, 86, 185, 53, 136, 244, 98, 94, 74, 246, 233, 215, 247, 8, 247, 78, 7, 164]
def t92 : List UInt8 := [125, 155, 165, 47, 45, 173, 72, 116, 141, 11, 202, 155, 53, 232, 160, 67, 25, 218, 245, 244, 250, 176, 39, 101, 83, 202, 239, 210, 23, 238, 33, 74]
def t93 : List UInt8 := [93, 13, 17, 33, 52, 43, 32, 153, 34, 253, 181, 33, 214, 137, 55, 187, 220, 188, 17, 163, 138, 77, 203, 123, 147, 99, 192, 140, 191, 5, 148, 119]
def t94 : List UInt8 := [18, 126, 28, 193, 46, 66, 77, 166, 208, 164, 46, 121, 254, 197, 240, 143, 75, 237, 30, 132, 160, 199, 63, 50, 58, 45, 240, 57, 190, 25, 253, 220]
def t95 : List UInt8 := [245, 24, 228, 105, 20, 249, 242, 113, 175, 31, 201, 157, 58, 50, 71, 145, 44, 131, 221, 130, 0, 207, 173, 31, 37, 56, 39, 195, 113, 211, 97, 93]
def t96 : List UInt8 := [69, 249, 103, 26, 55, 107, 88, 176, 18, 220, 0, 47, 228, 129, 157, 190, 113, 173, 104, 50, 88, 100, 188, 43, 182, 167, 10, 10, 53, 205, 255, 69]
def t97 : List UInt8 := [131, 176, 17, 141, 91, 187, 64, 233, 131, 170, 204, 78, 186, 193, 253, 247, 31, 195, 51, 169, 27, 10, 190, 35, 104, 16, 26, 5, 51, 195, 233, 52]
theorem e_t90 : tS 3 pin9 (dS ++ num4 (((0 : Nat) : Int) + 1)) 0 = t90 := by
  have h : tS 3 pin9 (dS ++ num4 (((0 : Nat) : Int) + 1)) 0 = uS 3 pin9 (dS ++ num4 (((0 : Nat) : Int) + 1)) 0 := rfl
  rw [h, e_u90]
  decide +kernel
theorem e_t91 : tS 3 pin9 (dS ++ num4 (((0 : Nat) : Int) + 1)) 1 = t91 := by
  have h : tS 3 pin9 (dS ++ num4 (((0 : Nat) : Int) + 1)) (0 + 1) = xorL (tS 3 pin9 (dS ++ num4 (((0 : Nat) : Int) + 1)) 0) (uS 3 pin9 (dS ++ num4 (((0 : Nat) : Int) + 1)) (0 + 1)) := rfl
  rw [show 1 = 0 + 1 from rfl, h, e_t90, show 0 + 1 = 1 from rfl, e_u91]
  decide +kernel
theorem e_t92 : tS 3 pin9 (dS ++ num4 (((0 : Nat) : Int) + 1)) 2 = t92 := by
  have h : tS 3 pin9 (dS ++ num4 (((0 : Nat) : Int) + 1)) (1 + 1) = xorL (tS 3 pin9 (dS ++ num4 (((0 : Nat) : Int) + 1)) 1) (uS 3 pin9 (dS ++ num4 (((0 : Nat) : Int) + 1)) (1 + 1)) := rfl
  rw [show 2 = 1 + 1 from rfl, h, e_t91, show 1 + 1 = 2 from rfl, e_u92]
  decide +kernel
theorem e_t93 : tS 3 pin9 (dS ++ num4 (((0 : Nat) : Int) + 1)) 3 = t93 := by
  have h : tS 3 pin9 (dS ++ num4 (((0 : Nat) : Int) + 1)) (2 + 1) = xorL (tS 3 pin9 (dS ++ num4 (((0 : Nat) : Int) + 1)) 2) (uS 3 pin9 (dS ++ num4 (((0 : Nat) : Int) + 1)) (2 + 1)) := rfl
  rw [show 3 = 2 + 1 from rfl, h, e_t92, show 2 + 1 = 3 from rfl, e_u93]
  decide +kernel
theorem e_t94 : tS 3 pin9 (dS ++ num4 (((0 : Nat) : Int) + 1)) 4 = t94 := by
  have h : tS 3 pin9 (dS ++ num4 (((0 : Nat) : Int) + 1)) (3 + 1) = xorL (tS 3 pin9 (dS ++ num4 (((0 : Nat) : Int) + 1)) 3) (uS 3 pin9 (dS ++ num4 (((0 : Nat) : Int) + 1)) (3 + 1)) := rfl
  rw [show 4 = 3 + 1 from rfl, h, e_t93, show 3 + 1 = 4 from rfl, e_u94]
  decide +kernel
theorem e_t95 : tS 3 pin9 (dS ++ num4 (((0 : Nat) : Int) + 1)) 5 = t95 := by
  have h : tS 3 pin9 (dS ++ num4 (((0 : Nat) : Int) + 1)) (4 + 1) = xorL (tS 3 pin9 (dS ++ num4 (((0 : Nat) : Int) + 1)) 4) (uS 3 pin9 (dS ++ num4 (((0 : Nat) : Int) + 1)) (4 + 1)) := rfl
  rw [show 5 = 4 + 1 from rfl, h, e_t94, show 4 + 1 = 5 from rfl, e_u95]
  decide +kernel
theorem e_t96 : tS 3 pin9 (dS ++ num4 (((0 : Nat) : Int) + 1)) 6 = t96 := by
  have h : tS 3 pin9 (dS ++ num4 (((0 : Nat) : Int) + 1)) (5 + 1) = xorL (tS 3 pin9 (dS ++ num4 (((0 : Nat) : Int) + 1)) 5) (uS 3 pin9 (dS ++ num4 (((0 : Nat) : Int) + 1)) (5 + 1)) := rfl
  rw [show 6 = 5 + 1 from rfl, h, e_t95, show 5 + 1 = 6 from rfl, e_u96]
  decide +kernel
theorem e_t97 : tS 3 pin9 (dS ++ num4 (((0 : Nat) : Int) + 1)) 7 = t97 := by
  have h : tS 3 pin9 (dS ++ num4 (((0 : Nat) : Int) + 1)) (6 + 1) = xorL (tS 3 pin9 (dS ++ num4 (((0 : Nat) : Int) + 1)) 6) (uS 3 pin9 (dS ++ num4 (((0 : Nat) : Int) + 1)) (6 + 1)) := rfl
  rw [show 7 = 6 + 1 from rfl, h, e_t96, show 6 + 1 = 7 from rfl, e_u97]
  decide +kernel
theorem e_p9 : pinH pin9 dS = t97 := by
  unfold pinH pkeyAll
  rw [if_pos (by decide)]
  have hl : (pbk 3 pin9 dS 8 1).length = 32 := by
    rw [pbk_len 3 (by omega) pin9 dS (by decide) (by decide)]
    decide
  rw [show (32 : Int).toNat = 32 from rfl, show (8 : Int).toNat = 8 from rfl, pkey_of 3 pin9 dS 8 32 1 (by omega) (by rw [hl]; omega)]
  have h : pbk 3 pin9 dS 8 1 = [] ++ tS 3 pin9 (dS ++ num4 (((0 : Nat) : Int) + 1)) 7 := rfl
  rw [h, e_t97]
  decide
theorem e_new : DS.new [] = ⟨dK1, dV1⟩ := by
  unfold DS.new DS.upd
  rw [if_pos (show ([] : List UInt8).length = 0 from rfl)]
  unfold DS.half
  simp only
  rw [e_K1, e_V1]
theorem e_salt : ((DS.new []).bytes 16).1 = dS := by
  rw [e_new]
  have h : ((⟨dK1, dV1⟩ : DS).bytes 16).1 = (([] : List UInt8) ++ hm dK1 dV1).take 16 := rfl
  rw [h, e_V2]
  decide
theorem pin_ne : (decide (pinH pin9 ((DS.new []).bytes 16).1 = pinH pin1 ((DS.new []).bytes 16).1)) = false := by
  rw [e_salt, e_p1, e_p9]
  decide
end Go.Proofs.YtdgjjmaiibafhaaDoor
