/- Declarations, in plain Lean: each word declares its kind, no other declares any (SdlKinds). -/
import Derived.Test.YtgephneppgcnlaaDoorPns
namespace Go.Proofs.YtgephneppgcnlaaDoor
set_option linter.unusedVariables false
set_option linter.unusedSimpArgs false

def kwL : List (List UInt8) := [wType, wInterface, wUnion, wEnum, wInput, [115, 99, 97, 108, 97, 114]]
def krL : List (List UInt8) := [[123, 32, 97, 58, 32, 73, 110, 116, 32, 125], [123, 32, 97, 40, 98, 58, 32, 73, 110, 116, 41, 58, 32, 73, 110, 116, 32, 125], [61, 32, 65], [123, 32, 65, 32, 66, 32, 125], [123, 32, 97, 58, 32, 73, 110, 116, 32, 61, 32, 49, 32, 125], []]
def kindT (i : Nat) (n : List UInt8) : List UInt8 := kwL.getD i [] ++ [32] ++ n ++ [32] ++ krL.getD i []
def tInt : TR := .nm [73, 110, 116] false
def kindD (i : Nat) (n : List UInt8) : TD :=
  if i = 0 then ⟨1, n, [⟨[97], [], tInt, false, VT.zero⟩], []⟩
  else if i = 1 then ⟨2, n, [⟨[97], [⟨[98], tInt, false, VT.zero⟩], tInt, false, VT.zero⟩], []⟩
  else if i = 2 then ⟨3, n, [], [[65]]⟩
  else if i = 3 then ⟨4, n, [], [[65], [66]]⟩
  else ⟨5, n, [⟨[97], [], tInt, true, .mk 1 1 [] [] []⟩], []⟩
theorem numS_one : numS 1 = [49] := by
  show digS 1 = [49]
  rw [digS_lt (by decide)]; rfl
theorem kind_ren (i : Nat) (hi : i < 5) (n : List UInt8) : ren (tysI [kindD i n]) = kindT i n := by
  match i, hi with
  | 0, _ => simp [kindD, kindT, kwL, krL, tysI, sepI, tdI, brI, fdI, inpI, parI, tInt, typI, bangI, ren, It.src, nmI, sgI, wType]
  | 1, _ => simp [kindD, kindT, kwL, krL, tysI, sepI, tdI, brI, fdI, inI, inpI, parI, tInt, typI, bangI, ren, It.src, nmI, sgI, wInterface]
  | 2, _ => simp [kindD, kindT, kwL, krL, tysI, sepI, tdI, namI, ren, It.src, nmI, sgI, wUnion]
  | 3, _ => simp [kindD, kindT, kwL, krL, tysI, sepI, tdI, namI, ren, It.src, nmI, sgI, wEnum]
  | 4, _ => simp [kindD, kindT, kwL, krL, tysI, sepI, tdI, brI, fdI, inpI, parI, tInt, typI, bangI, valI, nuI, numS_one, ren, It.src, nmI, sgI, wInput]
theorem kind_good (i : Nat) (n : List UInt8) (h : NameOk n) : GoodTd (kindD i n) := by
  have hA : ∀ c ∈ ([[65], [66], [97], [98], [73, 110, 116]] : List (List UInt8)), NameOk c := fun c hc => nameOk_of (by revert c; decide)
  have hI : GoodT 24 tInt := hA _ (by simp)
  unfold kindD
  split
  · refine ⟨h, .inr (.inr (.inr ⟨.inl rfl, by simp, by simp, ?_⟩))⟩
    intro f hf
    rw [List.mem_singleton] at hf
    subst hf
    exact ⟨⟨⟨hA _ (by simp), hI, .inr ⟨rfl, rfl⟩⟩, by simp⟩, rfl⟩
  · split
    · refine ⟨h, .inr (.inr (.inr ⟨.inr ⟨rfl, rfl⟩, by simp, by simp, ?_⟩))⟩
      intro f hf
      rw [List.mem_singleton] at hf
      subst hf
      refine ⟨⟨⟨hA _ (by simp), hI, .inr ⟨rfl, rfl⟩⟩, ?_⟩, rfl⟩
      intro i hi
      rw [List.mem_singleton] at hi
      subst hi
      exact ⟨hA _ (by simp), hI, .inr ⟨rfl, rfl⟩⟩
    · split
      · refine ⟨h, .inl ⟨rfl, by simp, ?_, rfl⟩⟩
        intro s hs
        rw [List.mem_singleton] at hs
        subst hs
        exact hA _ (by simp)
      · split
        · refine ⟨h, .inr (.inl ⟨rfl, by simp, ?_, rfl⟩)⟩
          intro s hs
          have hs : s ∈ ([[65], [66]] : List (List UInt8)) := hs
          refine ⟨hA _ (by revert hs; simp; rintro (rfl | rfl) <;> simp), ?_, ?_, ?_⟩ <;> (intro e; subst e; revert hs; decide)
        · refine ⟨h, .inr (.inr (.inl ⟨rfl, rfl, by simp, ?_⟩))⟩
          intro f hf
          rw [List.mem_singleton] at hf
          subst hf
          exact ⟨⟨⟨hA _ (by simp), hI, .inl ⟨rfl, .inl ⟨rfl, by unfold NumOk; decide, rfl, rfl, rfl⟩⟩⟩, by simp⟩, rfl⟩
theorem kindT_len (i : Nat) (hi : i < 6) {n : List UInt8} (h : NameOk n) : (kindT i n).length ≤ 100 := by
  have := h.len
  match i, hi with
  | 0, _ | 1, _ | 2, _ | 3, _ | 4, _ | 5, _ => simp [kindT, kwL, krL, wType, wInterface, wUnion, wEnum, wInput]; omega
theorem kinds_ok (i : Nat) (hi : i < 5) {n : List UInt8} (h : NameOk n) : tysP (kindT i n) = .ok [kindD i n] := by
  obtain ⟨ts, h1, r, h2⟩ := tys_again (l := [kindD i n]) (by intro t ht; rw [List.mem_singleton] at ht; subst ht; exact kind_good i n h) (by simp)
  rw [kind_ren i hi] at h1
  have hl := kindT_len i (by omega) h
  unfold tysP
  rw [toks_short (by omega), h1]
  show (match tysF (ts.length + 1) [] ts with | .ok d _ => TR1.ok d | .bad a e => .bad a e) = _
  rw [h2]
theorem kinds_bad {n : List UInt8} (h : NameOk n) : tysP (kindT 5 n) = .bad 0 4 := by
  have hl := kindT_len 5 (by omega) h
  have hr : kindT 5 n = ren [nmI [115, 99, 97, 108, 97, 114], .sp 32, nmI n, .sp 32] := by simp [kindT, kwL, krL, ren, It.src, nmI]
  have hsc : NameOk [115, 99, 97, 108, 97, 114] := nameOk_of (by decide)
  have hok : OkF [nmI [115, 99, 97, 108, 97, 114], .sp 32, nmI n, .sp 32] [] := (OkS.nm hsc (OkS.sp (by decide) (OkS.nm h (OkS.sp (by decide) OkS.nil) (SepI.sp (by decide)))) (SepI.sp (by decide))) [] Sep.nil
  obtain ⟨ts, h1, h2⟩ := toks_ren [.sp 32, nmI n, .sp 32] 6 hok.2
  have h3 : toksA 0 (kindT 5 n) = .ok (⟨1, [115, 99, 97, 108, 97, 114], 0, 0⟩ :: (ts ++ [⟨0, [], 0, 6 + (ren [.sp 32, nmI n, .sp 32]).length⟩])) := by
    obtain ⟨c, s', e, hb, hr2, ho⟩ := hok.1
    injection e with e1 e2; subst e1; subst e2
    rw [List.append_nil] at ho
    rw [hr, ren_cons]
    exact (toksA_one 0 hb hr2 ho).trans (by
      show (match toksA (0 + 6) (ren [.sp 32, nmI n, .sp 32]) with | .ok ts => _ | .bad a e => _) = _
      rw [Nat.zero_add, h1])
  unfold tysP
  rw [toks_short (by omega), h3]
  rfl
end Go.Proofs.YtgephneppgcnlaaDoor
