/- Documents, in plain Lean: the law's example; things within one another; words as names. -/
import Derived.Test.YtgephneppgcnlaaDoorPrA
import Derived.Lib.Hide
namespace Go.Proofs.YtgephneppgcnlaaDoor
set_option linter.unusedVariables false
set_option linter.unusedSimpArgs false

/-- {a:b(c:[1])...F} -/
def awkT : List UInt8 := [123, 97, 58, 98, 40, 99, 58, 91, 49, 93, 41, 46, 46, 46, 70, 125]
def awkD : DC := ⟨[⟨false, [], [], [.mk 1 [97] [98] [] [⟨[99], .mk 5 0 [] [] [.mk 1 1 [] [] []]⟩] [] [], .mk 2 [] [70] [] [] [] []]⟩], []⟩
theorem awk_doc : docP awkT = .ok awkD := by rfl
def rep (s : List UInt8) : Nat → List UInt8
  | 0 => []
  | n + 1 => rep s n ++ s
def deepT (k : Nat) (list : Bool) : List UInt8 := if list then [123, 97, 40, 98, 58] ++ rep [91] k ++ rep [93] k ++ [41, 125] else rep [123, 97] k ++ rep [125] k
def deepB (k : Nat) (list : Bool) : Bool :=
  match docP (deepT k list) with
  | .ok _ => if list then decide (k ≤ 23) else decide (k ≤ 24)
  | .bad a e => decide (e = 5) && (if list then decide (23 < k) && decide (a = 28) else decide (24 < k) && decide (a = 48))
set_option maxRecDepth 100000 in
theorem deep_all : (List.range 31).all (fun k => k == 0 || (deepB k true && deepB k false)) = true := by decide +kernel
theorem deep_one {k : Nat} (h1 : 1 ≤ k) (h2 : k ≤ 30) (list : Bool) : deepB k list = true := by
  have := List.all_eq_true.1 deep_all k (List.mem_range.2 (by omega))
  have h0 : (k == 0) = false := by simp; omega
  rw [h0, Bool.false_or, Bool.and_eq_true] at this
  cases list with
  | true => exact this.1
  | false => exact this.2
def wordsL : List (List UInt8) := [[113, 117, 101, 114, 121], [109, 117, 116, 97, 116, 105, 111, 110], [102, 114, 97, 103, 109, 101, 110, 116], [111, 110], [116, 114, 117, 101], [110, 117, 108, 108], [116, 121, 112, 101], [120]]
def wordT (a b : List UInt8) : List UInt8 :=
  [113, 117, 101, 114, 121, 32] ++ a ++ [40, 36] ++ b ++ [58, 32] ++ a ++ [41, 32, 123, 32] ++ a ++ [58, 32] ++ b ++ [40] ++ a ++ [58, 32] ++ b ++ [41, 32, 46, 46, 46, 32, 111, 110, 32] ++ b ++ [32, 123, 32] ++ a ++ [32, 125, 32, 46, 46, 46] ++ b ++ [32, 64] ++ a ++ [32, 125, 32, 102, 114, 97, 103, 109, 101, 110, 116, 32] ++ b ++ [32, 111, 110, 32] ++ a ++ [32, 123, 32] ++ b ++ [32, 125]
def wordC (a b : List UInt8) : DR1 → Bool
  | .bad x e => decide (b = [111, 110]) && decide (e = 4)
  | .ok ⟨[⟨_, n0, [⟨n1, _, _, _⟩], [.mk _ n2 n3 _ _ _ _, .mk _ _ _ n4 _ _ _, .mk _ _ n5 _ _ _ _]⟩], [⟨n6, n7, _⟩]⟩ => !decide (b = [111, 110]) && decide (n0 = a) && decide (n1 = b) && decide (n2 = a) && decide (n3 = b) && decide (n4 = b) && decide (n5 = b) && decide (n6 = b) && decide (n7 = a)
  | _ => false
set_option maxRecDepth 100000 in
theorem word_all : wordsL.all (fun a => wordsL.all fun b => wordC a b (docP (wordT a b))) = true := by decide +kernel
theorem word_one {a b : List UInt8} (ha : a ∈ wordsL) (hb : b ∈ wordsL) : wordC a b (docP (wordT a b)) = true := List.all_eq_true.1 (List.all_eq_true.1 word_all a ha) b hb
theorem word_on {a b : List UInt8} (ha : a ∈ wordsL) (hb : b ∈ wordsL) (h : b = [111, 110]) : ∃ x, docP (wordT a b) = .bad x 4 := by
  have := word_one ha hb
  cases hd : docP (wordT a b) with
  | bad x e => rw [hd] at this; unfold wordC at this; simp at this; exact ⟨x, by rw [this.2]⟩
  | ok d =>
    rw [hd] at this
    unfold wordC at this
    split at this
    · cases (by assumption : DR1.ok d = .bad _ _)
    · simp [h] at this
    · cases this
theorem word_ok {a b : List UInt8} (ha : a ∈ wordsL) (hb : b ∈ wordsL) (h : b ≠ [111, 110]) : ∃ m t hs v k1 o1 g1 d1 s1 k2 a2 n2 g2 d2 s2 k3 a3 o3 g3 d3 s3 s4, docP (wordT a b) = .ok ⟨[⟨m, a, [⟨b, t, hs, v⟩], [.mk k1 a b o1 g1 d1 s1, .mk k2 a2 n2 b g2 d2 s2, .mk k3 a3 b o3 g3 d3 s3]⟩], [⟨b, a, s4⟩]⟩ := by
  have := word_one ha hb
  cases hd : docP (wordT a b) with
  | bad x e => rw [hd] at this; unfold wordC at this; simp [h] at this
  | ok d =>
    rw [hd] at this
    unfold wordC at this
    split at this
    · cases (by assumption : DR1.ok d = .bad _ _)
    · rename_i he
      injection he with he
      subst he
      simp only [Bool.and_eq_true, decide_eq_true_eq] at this
      obtain ⟨⟨⟨⟨⟨⟨⟨⟨-, e0⟩, e1⟩, e2⟩, e3⟩, e4⟩, e5⟩, e6⟩, e7⟩ := this
      subst e0; subst e1
      rw [e2, e3, e4, e5, e6, e7]
      exact ⟨_, _, _, _, _, _, _, _, _, _, _, _, _, _, _, _, _, _, _, _, _, _, rfl⟩
    · cases this
end Go.Proofs.YtgephneppgcnlaaDoor
