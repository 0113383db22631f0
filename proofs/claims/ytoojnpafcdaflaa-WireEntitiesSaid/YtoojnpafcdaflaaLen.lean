/- How long a value's bytes are, if it is of the form and not too great: plain. -/
import Derived.Test.YtoojnpafcdaflaaDec
namespace Go.Proofs.Ytoojnpafcdaflaa
open Go Go.RowKit
set_option linter.unusedVariables false
set_option linter.unusedSimpArgs false

theorem encT_le {s : List UInt8} {n : Nat} (h : s.length ≤ n) (hn : n < 16384) : (encT s).length ≤ n + 2 := by
  unfold encT
  rw [List.length_append]
  have := encU_len (k := 1) (n := s.length) (by omega)
  omega
theorem cntVs_mono : ∀ (vs : List VT) (d : Nat) (m c : Int), c ≤ cntVs vs d m c
  | [], _, _, _ => by simp only [cntVs]; exact Int.le_refl _
  | v :: vs, d, m, c => by
    simp only [cntVs]
    split
    · rename_i h
      have h1 := cntV_le v (d + 1) (m - c) (by omega)
      have h2 := cntVs_mono vs d m (c + cntV v (d + 1) (m - c))
      omega
    · exact Int.le_refl _
mutual
theorem enc_len : ∀ (t : VT) (d : Nat) (m : Int), SmallV t → 0 ≤ m → formV t d = true → cntV t d m ≤ m → ((encV t).length : Int) + 40 ≤ 300 * cntV t d m
  | .mk k n s ks vs, d, m, hs, hm, hf, hc => by
    simp only [SmallV] at hs
    obtain ⟨⟨h1, h2, h3, h4, h5, h6, h7, h8, h9⟩, hvs⟩ := formV_mk hf
    simp only [cntV] at hc ⊢
    rw [if_neg (by omega)] at hc ⊢
    split at hc
    · omega
    · rename_i hn
      rw [if_neg hn]
      have hrec := encs_len (decide (k = 6)) ks vs d m 1 hs.2 (by omega) hvs hc
      have hk : (encU k).length = 1 := by rw [encU_small (by omega)]; rfl
      have hmono := cntVs_mono vs d m 1
      simp only [encV, List.length_append, hk]
      split
      · have := encU_len10 (zig_lt hs.1.1 hs.1.2)
        omega
      · split
        · have := encT_le h4 (by decide)
          omega
        · split
          · have := encU_len (k := 1) (n := vs.length) (by omega)
            rw [List.length_append]
            omega
          · simp
            omega
theorem encs_len : ∀ (o : Bool) (ks : List (List UInt8)) (vs : List VT) (d : Nat) (m c : Int), SmallVs vs → 1 ≤ c → formVs o ks vs (d + 1) = true → cntVs vs d m c ≤ m → ((encVs o ks vs).length : Int) + 300 * c ≤ 300 * cntVs vs d m c
  | _, _, [], _, _, _, _, _, _, _ => by simp only [cntVs, encVs]; simp
  | o, ks, v :: vs, d, m, c, hs, h1, hf, hc => by
    obtain ⟨g1, g2, g3⟩ := formVs_cons hf
    simp only [cntVs] at hc ⊢
    split at hc
    · rename_i hcm
      rw [if_pos hcm]
      have hm := cntVs_mono vs d m (c + cntV v (d + 1) (m - c))
      have hr := encs_len o ks.tail vs d m (c + cntV v (d + 1) (m - c)) hs.2 (by have := cntV_le v (d + 1) (m - c) (by omega); omega) g3 hc
      have hv := enc_len v (d + 1) (m - c) hs.1 (by omega) g2 (by omega)
      simp only [encVs, List.length_append]
      have hk : (if o then encT (ks.headD []) else []).length ≤ 34 := by
        cases o
        · simp
        · simp only [if_true]; exact encT_le (g1 rfl) (by decide)
      omega
    · omega
end
theorem form_len {t : VT} (hs : SmallV t) (hg : greatV t = false) (hf : formV t 0 = true) : (encV t).length ≤ 900000 := by
  have hc : cntV t 0 3000 ≤ 3000 := by simpa [greatV] using hg
  have := enc_len t 0 3000 hs (by decide) hf hc
  omega
end Go.Proofs.Ytoojnpafcdaflaa
