/- . -/
import Derived.Test.YtnkpoddbbdmipaaGreatDoorTTyPpu
import Derived.Test.YtnkpoddbbdmipaaGreatDoorTTyPpd
import Derived.Test.YtnkpoddbbdmipaaGreatDoorTTyPns
import Derived.Test.YtnkpoddbbdmipaaGreatDoorTTyPrs
namespace Go.Proofs.YtnkpoddbbdmipaaGreatDoor
open Go Go.RowKit
set_option linter.unusedVariables false
set_option linter.unusedSimpArgs false
theorem nz_4 {α : Type} (a : Nat) : NZ (.bad a 4 : PR α) := by show (4 : Nat) ≠ 0; decide
theorem nz_in (r : List Tok) : NZ (inP r) := nz_bind (nz_name _) fun _ _ => nz_bind (nz_want _ _) fun _ _ => nz_bind (nz_typ _ _) fun _ _ => nz_if (nz_bind (nz_value _ _ _) fun _ _ => trivial) trivial
theorem nz_fd (r : List Tok) : NZ (fdP r) := nz_bind (nz_name _) fun _ _ => nz_bind (nz_if (nz_many nz_in _ _ _ _) trivial) fun _ _ => nz_bind (nz_want _ _) fun _ _ => nz_bind (nz_typ _ _) fun _ _ => trivial
theorem nz_plain (r : List Tok) : NZ (plainP r) := nz_if (nz_4 _) (nz_name _)
theorem nz_more (c : List UInt8) : ∀ (n : Nat) (acc : List (List UInt8)) (r : List Tok), NZ (moreP c n acc r)
 | 0, _, _ => nz_4 _
 | n + 1, acc, r => by rw [moreP]; exact nz_if (nz_bind (nz_name _) fun _ _ => nz_more c n _ _) trivial
theorem nz_names (c : List UInt8) (r : List Tok) : NZ (namesP c r) := nz_bind (nz_name _) fun _ _ => nz_more c _ _ _
theorem nz_obj (k : Nat) (s : List UInt8) (l : List (List UInt8)) (r : List Tok) : NZ (objP k s l r) := nz_bind (nz_want _ _) fun _ _ => nz_bind (nz_many nz_fd _ _ _ _) fun _ _ => trivial
theorem nz_body (k : Nat) (s : List UInt8) (r : List Tok) : NZ (bodyP k s r) := by
 unfold bodyP; exact nz_if (nz_bind (nz_want _ _) fun _ _ => nz_bind (nz_names _ _) fun _ _ => trivial) (nz_if (nz_bind (nz_want _ _) fun _ _ => nz_bind (nz_many nz_plain _ _ _ _) fun _ _ => trivial) (nz_if (nz_bind (nz_want _ _) fun _ _ => nz_bind (nz_many nz_in _ _ _ _) fun _ _ => trivial) (nz_if (nz_bind (nz_names _ _) fun _ _ => nz_obj _ _ _ _) (nz_obj _ _ _ _))))
theorem nz_td (r : List Tok) : NZ (tdP r) := nz_if (nz_4 _) (nz_bind (nz_name _) fun _ _ => nz_body _ _ _)
theorem nz_tys : ∀ (n : Nat) (d : List TD) (r : List Tok), NZ (tysF n d r)
 | 0, _, _ => nz_4 _
 | n + 1, d, r => by rw [tysF]; exact nz_bind (nz_td r) fun _ _ => nz_if trivial (nz_tys n _ _)
theorem tysP_bad {s : List UInt8} {a e : Nat} (h : tysP s = .bad a e) : e ≠ 0 := by
 unfold tysP at h
 cases ht : toks s with
 | bad x c =>
  rw [ht] at h; have h : TR1.bad x c = .bad a e := h
  injection h with _ h; subst h; exact toks_bad ht
 | ok ts =>
  rw [ht] at h; have h : (match tysF (ts.length + 1) [] ts with | .ok d _ => TR1.ok d | .bad a e => .bad a e) = .bad a e := h; have hn := nz_tys (ts.length + 1) [] ts
  cases hd : tysF (ts.length + 1) [] ts with
  | ok d r => rw [hd] at h; cases h
  | bad x c => rw [hd] at h hn; injection h with _ h; subst h; exact hn
theorem goodI_well {n : List UInt8} {t : TR} {has : Bool} {v : VT} (h : GoodI n t has v) : has = true → WellV v := fun hh => by
 rcases h.2.2 with ⟨_, h⟩ | ⟨h, _⟩
 ·exact goodV_wellP true 24 v h
 ·rw [h] at hh; cases hh
theorem goodFd_well {f : FD} (h : GoodFd f) : WellF f := ⟨goodI_well h.1, fun i hi => goodI_well (h.2 i hi)⟩
theorem goodTd_well {t : TD} (h : GoodTd t) : WellT t := by
 rcases h.2 with ⟨hk, _, _, hf⟩ | ⟨hk, _, _, hf⟩ | ⟨hk, hn, _, hf⟩ | ⟨hk, _, _, hf⟩
 ·exact ⟨.inr (.inr (.inl hk)), by rw [hf]; simp⟩
 ·exact ⟨.inr (.inr (.inr (.inl hk))), by rw [hf]; simp⟩
 ·exact ⟨.inr (.inr (.inr (.inr ⟨hk, hn⟩))), fun f hff => goodFd_well (hf f hff).1⟩
 ·refine ⟨?_, fun f hff => goodFd_well (hf f hff).1⟩
  rcases hk with hk | hk
  ·exact .inl hk
  ·exact .inr (.inl hk)
theorem goodFd_wellQ {f : FD} (h : GoodFd f) : WellFQ f := ⟨goodI_wellQ h.1, fun i hi => goodI_wellQ (h.2 i hi)⟩
theorem goodTd_wellQ {t : TD} (h : GoodTd t) : WellTQ t := by
 rcases h.2 with ⟨hk, _, _, hf⟩ | ⟨hk, _, _, hf⟩ | ⟨hk, hn, hne, hf⟩ | ⟨hk, _, hne, hf⟩
 ·exact ⟨.inr (.inr (.inl hk)), by rw [hf]; simp⟩
 ·exact ⟨.inr (.inr (.inr (.inl hk))), by rw [hf]; simp⟩
 ·exact ⟨.inr (.inr (.inr (.inr ⟨hk, hn, hne⟩))), fun f hff => goodFd_wellQ (hf f hff).1⟩
 ·refine ⟨?_, fun f hff => goodFd_wellQ (hf f hff).1⟩
  rcases hk with hk | hk
  ·exact .inl ⟨hk, hne⟩
  ·exact .inr (.inl ⟨hk.1, hk.2, hne⟩)
end Go.Proofs.YtnkpoddbbdmipaaGreatDoor
