/- . -/
import Derived.Test.YtnkpoddbbdmipaaGreatDoorTApOwC
import Derived.Test.YtnkpoddbbdmipaaGreatDoorProg
import Derived.Test.YtnkpoddbbdmipaaGreatDoorTApPnt
import Derived.Lib.Bytealg
import Derived.Laws.Externs
import Derived.Deep.CutRange
import Derived.Deep.CutBlock
namespace Go.Proofs.YtnkpoddbbdmipaaGreatDoor
open Go Go.RowKit
open Go.Lib (hid)
set_option linter.unusedVariables false
set_option linter.unusedSimpArgs false
def Tests (f : FuncId) (b : UInt8 → Bool) : Prop := ∀ (u : UInt8) (w : World), Calls Tryz.prog f #[.int .u8 (u.toNat : Int)] w fun e w' => e = .returned (.bool (b u)) ∧ w' = w
theorem u8_lt (u : UInt8) : (u.toNat : Int) < 256 := by have := u.toNat_lt; omega
theorem u8_ge (u : UInt8) : (0 : Int) ≤ (u.toNat : Int) := by omega
theorem u8_all {p : UInt8 → Prop} (h : ∀ n : Fin 256, p (UInt8.ofNat n.val)) (u : UInt8) : p u := by
 have := h ⟨u.toNat, by have := u.toNat_lt; omega⟩; simpa using this
set_option maxRecDepth 100000 in
theorem rdigit_any : Tests 90 digB := by
 intro u w; have h1 := u8_lt u; have h2 := u8_ge u; have e : ∀ a b : Bool, a = decide ((48 : Int) ≤ (u.toNat : Int)) → b = decide ((u.toNat : Int) ≤ 57) → (a && b) = digB u := by
  rintro _ _ rfl rfl; unfold digB; congr 1 <;> (apply decide_eq_decide.2; omega)
 have E := hid e; clear e; obtain ⟨n, hn⟩ : ∃ n : Int, (u.toNat : Int) = n := ⟨_, rfl⟩; rw [hn] at h1 h2 ⊢; have HN := hid hn; clear hn
 by_cases h3 : 48 ≤ n <;> by_cases h4 : n ≤ 57 <;> (
  go_enter Tryz.func90, Tryz.ntmps90
  go_wp2
  go_ret
  refine ⟨ret_bool ?_, rfl⟩
  rw [← E.out _ _ rfl rfl, HN.out]
  simp [h3, h4])
theorem letB_cmp (u : UInt8) (n : Int) (hn : (u.toNat : Int) = n) (a b c d e : Bool) (ha : a = decide (97 ≤ n)) (hb : b = decide (n ≤ 122)) (hc : c = decide (65 ≤ n)) (hd : d = decide (n ≤ 90)) (he : e = decide (n = 95)) : ((a && b) || (c && d) || e) = letB u := by
 subst ha hb hc hd he hn; unfold letB
 congr 1
 ·congr 1 <;> congr 1 <;> (apply decide_eq_decide.2; omega)
 ·apply decide_eq_decide.2; omega
set_option maxRecDepth 100000 in
set_option maxHeartbeats 2000000 in
theorem rletter_any : Tests 89 letB := by
 intro u w; have h1 := u8_lt u; have h2 := u8_ge u; obtain ⟨n, hn⟩ : ∃ n : Int, (u.toNat : Int) = n := ⟨_, rfl⟩; rw [hn] at h1 h2 ⊢; have E := hid (letB_cmp u n hn); clear hn; have key : n < 65 ∨ (65 ≤ n ∧ n ≤ 90) ∨ (90 < n ∧ n < 95) ∨ n = 95 ∨ n = 96 ∨ (97 ≤ n ∧ n ≤ 122) ∨ 122 < n := by omega
 rcases key with h | ⟨h, h'⟩ | ⟨h, h'⟩ | h | h | ⟨h, h'⟩ | h
 all_goals (
  have t1 : decide (97 ≤ n) = decide (97 ≤ n) := rfl; rw [← E.out _ _ _ _ _ rfl rfl rfl rfl rfl]
  first
   | (rw [show decide (97 ≤ n) = true from decide_eq_true (by omega)])
   | (rw [show decide (97 ≤ n) = false from decide_eq_false (by omega)])
  first
   | (rw [show decide (n ≤ 122) = true from decide_eq_true (by omega)])
   | (rw [show decide (n ≤ 122) = false from decide_eq_false (by omega)])
  first
   | (rw [show decide (65 ≤ n) = true from decide_eq_true (by omega)])
   | (rw [show decide (65 ≤ n) = false from decide_eq_false (by omega)])
  first
   | (rw [show decide (n ≤ 90) = true from decide_eq_true (by omega)])
   | (rw [show decide (n ≤ 90) = false from decide_eq_false (by omega)])
  first
   | (rw [show decide (n = 95) = true from decide_eq_true (by omega)])
   | (rw [show decide (n = 95) = false from decide_eq_false (by omega)])
  clear E t1
  go_enter Tryz.func89, Tryz.ntmps89
  go_wp2
  go_ret
  refine ⟨ret_bool ?_, rfl⟩
  first | rfl | (simp; done) | (simp; omega))
theorem ba_eq {t : ByteArray} {l : List UInt8} (h : t.data.toList = l) : t = ⟨l.toArray⟩ := by
 subst h; rfl
theorem extract_list (s : ByteArray) (a b : Nat) : (s.extract a b).data.toList = (s.data.toList.drop a).take (b - a) := by
 rw [ByteArray.data_extract, Array.toList_extract, List.extract_eq_take_drop]
def tokV (k : Nat) (t : List UInt8) (n : Int) (a : Nat) : Value := .agg #[.int .u8 (k : Int), .string ⟨t.toArray⟩, .int .i64 n, .int .i64 (a : Int)]
theorem box4 {w : World} {b : Nat} {x0 x1 x2 x3 : Value} {T : TypeId} (h : w.heap[b]? = some (.cells #[x0, x1, x2, x3] T (0, 0))) :
  w.cell? ⟨b, 0, none⟩ = some x0 ∧ w.cell? ⟨b, 1, none⟩ = some x1 ∧ w.cell? ⟨b, 2, none⟩ = some x2 ∧ w.cell? ⟨b, 3, none⟩ = some x3 := by
 refine ⟨?_, ?_, ?_, ?_⟩ <;> simp [World.cell?, h]
theorem numP_at {l : List UInt8} {f r : Nat} (hf : numFrom l = f) (hr : runL digB (l.drop f) = r) : numP l =
  if f + r = f then .bad (f + r) 4
  else if (l.getD f 0).toNat = 48 ∧ f + 1 < f + r then .bad (f + 1) 4
  else if f + r < l.length ∧ (letB (l.getD (f + r) 0) = true ∨ (l.getD (f + r) 0).toNat = 46) then .bad (f + r) 4
  else if 18 < r then .bad 0 1
  else .ok 2 (l.take (f + r)) ((if f = 1 then -1 else 1) * (decV 0 ((l.drop f).take r) : Int)) (f + r) := by
 subst hf; subst hr; unfold numP; simp only [Nat.add_sub_cancel_left]
def escX (d : UInt8) : Option UInt8 := if d.toNat = 34 ∨ d.toNat = 92 ∨ d.toNat = 47 then some d else if d.toNat = 110 then some 10 else if d.toNat = 116 then some 9 else none
theorem txtP_nil (acc : List UInt8) (k : Nat) : txtP acc k [] = .bad k 4 := by rw [txtP.eq_def]
theorem txtP_q (acc : List UInt8) (k : Nat) {c : UInt8} (l : List UInt8) (h : c.toNat = 34) : txtP acc k (c :: l) = if 200 < acc.length then .bad 0 2 else .ok 3 acc 0 (k + 1) := by rw [txtP.eq_def]; simp only; rw [if_pos h]
theorem txtP_n (acc : List UInt8) (k : Nat) {c : UInt8} (l : List UInt8) (h : c.toNat = 10) : txtP acc k (c :: l) = .bad k 4 := by rw [txtP.eq_def]; simp only; rw [if_neg (by omega), if_pos h]
theorem txtP_e0 (acc : List UInt8) (k : Nat) {c : UInt8} (h : c.toNat = 92) : txtP acc k [c] = .bad (k + 1) 4 := by rw [txtP.eq_def]; simp only; rw [if_neg (by omega), if_neg (by omega), if_pos h]
theorem txtP_e (acc : List UInt8) (k : Nat) {c : UInt8} (d : UInt8) (l : List UInt8) (h : c.toNat = 92) : txtP acc k (c :: d :: l) = match escX d with | some x => txtP (acc ++ [x]) (k + 2) l | none => .bad (k + 1) 4 := by
 rw [txtP.eq_def]; simp only; rw [if_neg (by omega), if_neg (by omega), if_pos h]; unfold escX
 split
 ·rfl
 ·split
  ·rfl
  ·split <;> rfl
theorem txtP_o (acc : List UInt8) (k : Nat) {c : UInt8} (l : List UInt8) (h1 : c.toNat ≠ 34) (h2 : c.toNat ≠ 10) (h3 : c.toNat ≠ 92) : txtP acc k (c :: l) = txtP (acc ++ [c]) (k + 1) l := by rw [txtP.eq_def]; simp only; rw [if_neg h1, if_neg h2, if_neg h3]
theorem drop_get (s : ByteArray) (k : Nat) (h : k < s.size) : s.data.toList.drop k = s[k] :: s.data.toList.drop (k + 1) := List.drop_eq_getElem_cons (show k < s.data.toList.length from h)
theorem drop_all (s : ByteArray) (k : Nat) (h : s.size ≤ k) : s.data.toList.drop k = [] := List.drop_eq_nil_of_le h
end Go.Proofs.YtnkpoddbbdmipaaGreatDoor
