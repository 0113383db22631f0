/- . -/
import Derived.Test.YtnkpoddbbdmipaaGreatDoorTTyPnt
namespace Go.Proofs.YtnkpoddbbdmipaaGreatDoor
set_option linter.unusedVariables false
set_option linter.unusedSimpArgs false
def objQ (k : Nat) (s : List UInt8) (l : List (List UInt8)) (r : List Tok) : PR TD := (wantP [123] r).bind fun _ r1 => (manyP fdP [125] (r1.length + 1) [] r1).bind fun fs r2 => .ok ⟨k, s, fs, l⟩ r2
def td1 (r : List Tok) : PR TD := (nameP r).bind fun s r1 => if isT wImplements r1 then (namesP [38] r1.tail).bind fun l r2 => objQ 1 s l r2 else objQ 1 s [] r1
def td2 (r : List Tok) : PR TD := (nameP r).bind fun s r1 => objQ 2 s [] r1
def td3 (r : List Tok) : PR TD := (nameP r).bind fun s r1 => (wantP [61] r1).bind fun _ r2 => (namesP [124] r2).bind fun l r3 => .ok ⟨3, s, [], l⟩ r3
def td4 (r : List Tok) : PR TD := (nameP r).bind fun s r1 => (wantP [123] r1).bind fun _ r2 => (manyP plainP [125] (r2.length + 1) [] r2).bind fun l r3 => .ok ⟨4, s, [], l⟩ r3
def td5 (r : List Tok) : PR TD := (nameP r).bind fun s r1 => (wantP [123] r1).bind fun _ r2 => (manyP inP [125] (r2.length + 1) [] r2).bind fun l r3 => .ok ⟨5, s, l.map FD.of, []⟩ r3
def wordK (j : Nat) : List UInt8 := if j = 0 then wType else if j = 1 then wInterface else if j = 2 then wUnion else if j = 3 then wEnum else wInput
def tdK (j : Nat) : List Tok → PR TD := if j = 0 then td1 else if j = 1 then td2 else if j = 2 then td3 else if j = 3 then td4 else td5
theorem td_yes {r : List Tok} {j : Nat} (hj : j < 5) (h : ∀ i, i < j → isT (wordK i) r = false) (hb : isT (wordK j) r = true) : tdP r = tdK j r.tail := by
 have hk : kindN r = j + 1 := by
  unfold kindN; have h0 := h 0; have h1 := h 1; have h2 := h 2; have h3 := h 3; obtain rfl | rfl | rfl | rfl | rfl : j = 0 ∨ j = 1 ∨ j = 2 ∨ j = 3 ∨ j = 4 := by omega
  ·rw [if_pos (show isT wType r = true from hb)]
  ·rw [if_neg (by rw [show isT wType r = false from h0 (by omega)]; decide), if_pos (show isT wInterface r = true from hb)]
  ·rw [if_neg (by rw [show isT wType r = false from h0 (by omega)]; decide), if_neg (by rw [show isT wInterface r = false from h1 (by omega)]; decide), if_pos (show isT wUnion r = true from hb)]
  ·rw [if_neg (by rw [show isT wType r = false from h0 (by omega)]; decide), if_neg (by rw [show isT wInterface r = false from h1 (by omega)]; decide), if_neg (by rw [show isT wUnion r = false from h2 (by omega)]; decide), if_pos (show isT wEnum r = true from hb)]
  ·rw [if_neg (by rw [show isT wType r = false from h0 (by omega)]; decide), if_neg (by rw [show isT wInterface r = false from h1 (by omega)]; decide), if_neg (by rw [show isT wUnion r = false from h2 (by omega)]; decide), if_neg (by rw [show isT wEnum r = false from h3 (by omega)]; decide), if_pos (show isT wInput r = true from hb)]
 unfold tdP; rw [hk, if_neg (by omega)]; obtain rfl | rfl | rfl | rfl | rfl : j = 0 ∨ j = 1 ∨ j = 2 ∨ j = 3 ∨ j = 4 := by omega
 all_goals rfl
theorem td_no {r : List Tok} (h : ∀ i, i < 5 → isT (wordK i) r = false) : tdP r = .bad (atT r) 4 := by
 have hk : kindN r = 0 := by
  unfold kindN; rw [show isT wType r = false from h 0 (by omega), show isT wInterface r = false from h 1 (by omega), show isT wUnion r = false from h 2 (by omega), show isT wEnum r = false from h 3 (by omega), show isT wInput r = false from h 4 (by omega)]
  rfl
 unfold tdP; rw [if_pos hk]
end Go.Proofs.YtnkpoddbbdmipaaGreatDoor
