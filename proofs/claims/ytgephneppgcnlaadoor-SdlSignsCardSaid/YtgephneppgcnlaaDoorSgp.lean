/- Declarations, in plain Lean: a sign ahead of the first name changes nothing (SdlSigns). -/
import Derived.Test.YtgephneppgcnlaaDoorSdP
import Derived.KernelRfl
namespace Go.Proofs.YtgephneppgcnlaaDoor
set_option linter.unusedVariables false
set_option linter.unusedSimpArgs false

def joinT (c : UInt8) : Nat → List UInt8
  | 0 => []
  | i + 1 => joinT c i ++ (if 0 < i then [32, c, 32] else []) ++ [84, UInt8.ofNat (97 + i)]
def namT : Nat → List (List UInt8)
  | 0 => []
  | i + 1 => namT i ++ [[84, UInt8.ofNat (97 + i)]]
def signD (k : Nat) : List TD := [⟨3, [85], [], namT k⟩, ⟨1, [86], [⟨[102], [], .nm [73, 110, 116] false, false, VT.zero⟩], namT k⟩]
def sgA1 : List UInt8 := [117, 110, 105, 111, 110, 32, 85, 32, 61, 32]
def sgB1 : List UInt8 := [32, 116, 121, 112, 101, 32, 86, 32, 105, 109, 112, 108, 101, 109, 101, 110, 116, 115, 32]
def sgE : List UInt8 := [32, 123, 32, 102, 58, 32, 73, 110, 116, 32, 125]
def sgA2 : List UInt8 := [117, 110, 105, 111, 110, 32, 85, 32, 61, 32, 124, 32]
def sgB2 : List UInt8 := [32, 116, 121, 112, 101, 32, 86, 32, 105, 109, 112, 108, 101, 109, 101, 110, 116, 115, 32, 38, 32]
def signT1 (k : Nat) : List UInt8 := sgA1 ++ joinT 124 k ++ sgB1 ++ joinT 38 k ++ sgE
def signT2 (k : Nat) : List UInt8 := sgA2 ++ joinT 124 k ++ sgB2 ++ joinT 38 k ++ sgE
theorem joinT_len (c : UInt8) : ∀ k, (joinT c k).length ≤ 5 * k
  | 0 => by simp [joinT]
  | k + 1 => by
    have := joinT_len c k
    rw [joinT]
    split <;> simp <;> omega
theorem namT_len : ∀ k, (namT k).length = k
  | 0 => rfl
  | k + 1 => by rw [namT, List.length_append, namT_len k]; rfl
set_option maxRecDepth 100000 in
theorem sign_one : ∀ k, k < 20 → tysP (signT1 (k + 1)) = .ok (signD (k + 1)) ∧ tysP (signT2 (k + 1)) = .ok (signD (k + 1))
  | 0, _ => ⟨by kernel_rfl, by kernel_rfl⟩
  | 1, _ => ⟨by kernel_rfl, by kernel_rfl⟩
  | 2, _ => ⟨by kernel_rfl, by kernel_rfl⟩
  | 3, _ => ⟨by kernel_rfl, by kernel_rfl⟩
  | 4, _ => ⟨by kernel_rfl, by kernel_rfl⟩
  | 5, _ => ⟨by kernel_rfl, by kernel_rfl⟩
  | 6, _ => ⟨by kernel_rfl, by kernel_rfl⟩
  | 7, _ => ⟨by kernel_rfl, by kernel_rfl⟩
  | 8, _ => ⟨by kernel_rfl, by kernel_rfl⟩
  | 9, _ => ⟨by kernel_rfl, by kernel_rfl⟩
  | 10, _ => ⟨by kernel_rfl, by kernel_rfl⟩
  | 11, _ => ⟨by kernel_rfl, by kernel_rfl⟩
  | 12, _ => ⟨by kernel_rfl, by kernel_rfl⟩
  | 13, _ => ⟨by kernel_rfl, by kernel_rfl⟩
  | 14, _ => ⟨by kernel_rfl, by kernel_rfl⟩
  | 15, _ => ⟨by kernel_rfl, by kernel_rfl⟩
  | 16, _ => ⟨by kernel_rfl, by kernel_rfl⟩
  | 17, _ => ⟨by kernel_rfl, by kernel_rfl⟩
  | 18, _ => ⟨by kernel_rfl, by kernel_rfl⟩
  | 19, _ => ⟨by kernel_rfl, by kernel_rfl⟩
  | n + 20, h => absurd h (by omega)
end Go.Proofs.YtgephneppgcnlaaDoor
