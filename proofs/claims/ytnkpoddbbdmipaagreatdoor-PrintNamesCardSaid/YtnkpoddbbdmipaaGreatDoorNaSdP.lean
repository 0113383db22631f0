/- A row of bytes that the caller owns; texts put together. Over no program. Letters, digits, blanks, and runs of them: the program's and the document's. Runs of bytes: the program's run at each of the tests that it is called with; the place of a byte among a few. lex.number: a whole number. lex.text: a text in quotes. The rest of a text that was cut down. Numbers written out, in plain Lean. Declarations, in plain Lean: trees, and how tokens are read as declarations; what is read takes tokens. -/
import Derived.Test.YtnkpoddbbdmipaaGreatDoorNaOwC
import Derived.Test.YtnkpoddbbdmipaaGreatDoorNaReads
import Derived.Test.YtnkpoddbbdmipaaGreatDoorProg
import Derived.Test.YtnkpoddbbdmipaaGreatDoorNaTkA
import Derived.Lib.Bytealg
import Derived.Laws.Externs
import Derived.Deep.CutRange
import Derived.Deep.CutBlock
import Derived.Test.YtnkpoddbbdmipaaGreatDoorNaPrA
namespace Go.Proofs.YtnkpoddbbdmipaaGreatDoor
open Go Go.RowKit
set_option linter.unusedVariables false
set_option linter.unusedSimpArgs false

theorem cat_list (a b : List UInt8) : (⟨a.toArray⟩ : ByteArray) ++ ⟨b.toArray⟩ = ⟨(a ++ b).toArray⟩ := by
  apply ByteArray.ext; simp
end Go.Proofs.YtnkpoddbbdmipaaGreatDoor
namespace Go.Proofs.YtnkpoddbbdmipaaGreatDoor
open Go Go.RowKit
set_option linter.unusedVariables false
set_option linter.unusedSimpArgs false

/-- The test f, called at any byte, answers as b. -/
def Tests (f : FuncId) (b : UInt8 → Bool) : Prop := ∀ (u : UInt8) (w : World), Calls Tryz.prog f #[.int .u8 (u.toNat : Int)] w fun e w' => e = .returned (.bool (b u)) ∧ w' = w
theorem u8_lt (u : UInt8) : (u.toNat : Int) < 256 := by have := u.toNat_lt; omega
theorem u8_ge (u : UInt8) : (0 : Int) ≤ (u.toNat : Int) := by omega
theorem u8_all {p : UInt8 → Prop} (h : ∀ n : Fin 256, p (UInt8.ofNat n.val)) (u : UInt8) : p u := by
  have := h ⟨u.toNat, by have := u.toNat_lt; omega⟩
  simpa using this
set_option maxRecDepth 100000 in
theorem rdigit_any : Tests 90 digB := by
  intro u w
  have h1 := u8_lt u; have h2 := u8_ge u
  have e : ∀ a b : Bool, a = decide ((48 : Int) ≤ (u.toNat : Int)) → b = decide ((u.toNat : Int) ≤ 57) → (a && b) = digB u := by
    rintro _ _ rfl rfl; unfold digB; congr 1 <;> (apply decide_eq_decide.2; omega)
  have E := Lib.hid e; clear e
  obtain ⟨n, hn⟩ : ∃ n : Int, (u.toNat : Int) = n := ⟨_, rfl⟩
  rw [hn] at h1 h2 ⊢
  have HN := Lib.hid hn; clear hn
  by_cases h3 : 48 ≤ n <;> by_cases h4 : n ≤ 57 <;> (
    go_enter Tryz.func90, Tryz.ntmps90
    go_wp2
    go_ret
    refine ⟨ret_bool ?_, rfl⟩
    rw [← E.out _ _ rfl rfl, HN.out]
    simp [h3, h4])
theorem letB_cmp (u : UInt8) (n : Int) (hn : (u.toNat : Int) = n) (a b c d e : Bool) (ha : a = decide (97 ≤ n)) (hb : b = decide (n ≤ 122)) (hc : c = decide (65 ≤ n)) (hd : d = decide (n ≤ 90)) (he : e = decide (n = 95)) : ((a && b) || (c && d) || e) = letB u := by
  subst ha hb hc hd he hn
  unfold letB
  congr 1
  · congr 1 <;> congr 1 <;> (apply decide_eq_decide.2; omega)
  · apply decide_eq_decide.2; omega
set_option maxRecDepth 100000 in
set_option maxHeartbeats 2000000 in
theorem rletter_any : Tests 89 letB := by
  intro u w
  have h1 := u8_lt u; have h2 := u8_ge u
  obtain ⟨n, hn⟩ : ∃ n : Int, (u.toNat : Int) = n := ⟨_, rfl⟩
  rw [hn] at h1 h2 ⊢
  have E := Lib.hid (letB_cmp u n hn); clear hn
  have key : n < 65 ∨ (65 ≤ n ∧ n ≤ 90) ∨ (90 < n ∧ n < 95) ∨ n = 95 ∨ n = 96 ∨ (97 ≤ n ∧ n ≤ 122) ∨ 122 < n := by omega
  rcases key with h | ⟨h, h'⟩ | ⟨h, h'⟩ | h | h | ⟨h, h'⟩ | h
  all_goals (
    have t1 : decide (97 ≤ n) = decide (97 ≤ n) := rfl
    rw [← E.out _ _ _ _ _ rfl rfl rfl rfl rfl]
    first
      | (rw [show decide (97 ≤ n) = true from decide_eq_true (by omega)])
      | (rw [show decide (97 ≤ n) = false from decide_eq_false (by omega)])
    first
      | (rw [show decide (n ≤ 122) = true from decide_eq_true (by omega)])
      | (rw [show decide (n ≤ 122) = false from decide_eq_false (by omega)])
    first
      | (rw [show decide (65 ≤ n) = true from decide_eq_true (by omega)])
      | (rw [show decide (65 ≤ n) = false from decide_eq_false (by omega)])
    first
      | (rw [show decide (n ≤ 90) = true from decide_eq_true (by omega)])
      | (rw [show decide (n ≤ 90) = false from decide_eq_false (by omega)])
    first
      | (rw [show decide (n = 95) = true from decide_eq_true (by omega)])
      | (rw [show decide (n = 95) = false from decide_eq_false (by omega)])
    clear E t1
    go_enter Tryz.func89, Tryz.ntmps89
    go_wp2
    go_ret
    refine ⟨ret_bool ?_, rfl⟩
    first | rfl | (simp; done) | (simp; omega))
end Go.Proofs.YtnkpoddbbdmipaaGreatDoor
namespace Go.Proofs.YtnkpoddbbdmipaaGreatDoor
open Go Go.RowKit
set_option linter.unusedVariables false
set_option linter.unusedSimpArgs false

/-! ### Strings as lists of bytes -/
theorem ba_eq {t : ByteArray} {l : List UInt8} (h : t.data.toList = l) : t = ⟨l.toArray⟩ := by
  subst h; rfl
theorem extract_list (s : ByteArray) (a b : Nat) : (s.extract a b).data.toList = (s.data.toList.drop a).take (b - a) := by
  rw [ByteArray.data_extract, Array.toList_extract, List.extract_eq_take_drop]
end Go.Proofs.YtnkpoddbbdmipaaGreatDoor
namespace Go.Proofs.YtnkpoddbbdmipaaGreatDoor
open Go Go.RowKit
set_option linter.unusedVariables false
set_option linter.unusedSimpArgs false

def tokV (k : Nat) (t : List UInt8) (n : Int) (a : Nat) : Value := .agg #[.int .u8 (k : Int), .string ⟨t.toArray⟩, .int .i64 n, .int .i64 (a : Int)]
theorem box4 {w : World} {b : Nat} {x0 x1 x2 x3 : Value} {T : TypeId} (h : w.heap[b]? = some (.cells #[x0, x1, x2, x3] T (0, 0))) :
    w.cell? ⟨b, 0, none⟩ = some x0 ∧ w.cell? ⟨b, 1, none⟩ = some x1 ∧ w.cell? ⟨b, 2, none⟩ = some x2 ∧ w.cell? ⟨b, 3, none⟩ = some x3 := by
  refine ⟨?_, ?_, ?_, ?_⟩ <;> simp [World.cell?, h]
theorem numP_at {l : List UInt8} {f r : Nat} (hf : numFrom l = f) (hr : runL digB (l.drop f) = r) : numP l =
    if f + r = f then .bad (f + r) 4
    else if (l.getD f 0).toNat = 48 ∧ f + 1 < f + r then .bad (f + 1) 4
    else if f + r < l.length ∧ (letB (l.getD (f + r) 0) = true ∨ (l.getD (f + r) 0).toNat = 46) then .bad (f + r) 4
    else if 18 < r then .bad 0 1
    else .ok 2 (l.take (f + r)) ((if f = 1 then -1 else 1) * (decV 0 ((l.drop f).take r) : Int)) (f + r) := by
  subst hf; subst hr
  unfold numP
  simp only [Nat.add_sub_cancel_left]
end Go.Proofs.YtnkpoddbbdmipaaGreatDoor
namespace Go.Proofs.YtnkpoddbbdmipaaGreatDoor
open Go Go.RowKit
set_option linter.unusedVariables false
set_option linter.unusedSimpArgs false

def escX (d : UInt8) : Option UInt8 := if d.toNat = 34 ∨ d.toNat = 92 ∨ d.toNat = 47 then some d else if d.toNat = 110 then some 10 else if d.toNat = 116 then some 9 else none
theorem txtP_nil (acc : List UInt8) (k : Nat) : txtP acc k [] = .bad k 4 := by rw [txtP.eq_def]
theorem txtP_q (acc : List UInt8) (k : Nat) {c : UInt8} (l : List UInt8) (h : c.toNat = 34) : txtP acc k (c :: l) = if 200 < acc.length then .bad 0 2 else .ok 3 acc 0 (k + 1) := by rw [txtP.eq_def]; simp only; rw [if_pos h]
theorem txtP_n (acc : List UInt8) (k : Nat) {c : UInt8} (l : List UInt8) (h : c.toNat = 10) : txtP acc k (c :: l) = .bad k 4 := by rw [txtP.eq_def]; simp only; rw [if_neg (by omega), if_pos h]
theorem txtP_e0 (acc : List UInt8) (k : Nat) {c : UInt8} (h : c.toNat = 92) : txtP acc k [c] = .bad (k + 1) 4 := by rw [txtP.eq_def]; simp only; rw [if_neg (by omega), if_neg (by omega), if_pos h]
theorem txtP_e (acc : List UInt8) (k : Nat) {c : UInt8} (d : UInt8) (l : List UInt8) (h : c.toNat = 92) : txtP acc k (c :: d :: l) = match escX d with | some x => txtP (acc ++ [x]) (k + 2) l | none => .bad (k + 1) 4 := by
  rw [txtP.eq_def]; simp only; rw [if_neg (by omega), if_neg (by omega), if_pos h]
  unfold escX
  split
  · rfl
  · split
    · rfl
    · split <;> rfl
theorem txtP_o (acc : List UInt8) (k : Nat) {c : UInt8} (l : List UInt8) (h1 : c.toNat ≠ 34) (h2 : c.toNat ≠ 10) (h3 : c.toNat ≠ 92) : txtP acc k (c :: l) = txtP (acc ++ [c]) (k + 1) l := by rw [txtP.eq_def]; simp only; rw [if_neg h1, if_neg h2, if_neg h3]
theorem drop_get (s : ByteArray) (k : Nat) (h : k < s.size) : s.data.toList.drop k = s[k] :: s.data.toList.drop (k + 1) := List.drop_eq_getElem_cons (show k < s.data.toList.length from h)
theorem drop_all (s : ByteArray) (k : Nat) (h : s.size ≤ k) : s.data.toList.drop k = [] := List.drop_eq_nil_of_le h
end Go.Proofs.YtnkpoddbbdmipaaGreatDoor
namespace Go.Proofs.YtnkpoddbbdmipaaGreatDoor
set_option linter.unusedVariables false
set_option linter.unusedSimpArgs false

/-! ### What a token takes -/
end Go.Proofs.YtnkpoddbbdmipaaGreatDoor
namespace Go.Proofs.YtnkpoddbbdmipaaGreatDoor
set_option linter.unusedVariables false
set_option linter.unusedSimpArgs false

theorem runL_full {f : UInt8 → Bool} : ∀ (l : List UInt8), (∀ x ∈ l, f x = true) → runL f l = l.length
  | [], _ => rfl
  | c :: l, h => by rw [runL, if_pos (h c (by simp)), runL_full l (fun x hx => h x (by simp [hx]))]; rfl
/-- What stands behind does not lengthen a run that has ended, nor does what can't go on with it. -/
theorem runL_cut {f : UInt8 → Bool} : ∀ (l r : List UInt8), (runL f l < l.length ∨ ∀ hr : 0 < r.length, f r[0] = false) → runL f (l ++ r) = runL f l
  | [], r, h => by
    rcases h with h | h
    · simp at h
    · cases r with
      | nil => rfl
      | cons c r =>
        have := h (by simp)
        have this : f c = false := this
        show runL f (c :: r) = 0
        simp [runL, this]
  | c :: l, r, h => by
    rw [List.cons_append, runL, runL]
    split
    · rename_i hc
      rw [runL_cut l r ?_]
      rcases h with h | h
      · rw [runL, if_pos hc] at h; left; simpa using h
      · exact .inr h
    · rfl
/-! ### Numbers -/
theorem pow18 (k : Nat) (hk : k ≤ 18) : 10 ^ k ≤ 10 ^ 18 := Nat.pow_le_pow_right (by decide) hk
end Go.Proofs.YtnkpoddbbdmipaaGreatDoor
namespace Go.Proofs.YtnkpoddbbdmipaaGreatDoor
set_option linter.unusedVariables false
set_option linter.unusedSimpArgs false

end Go.Proofs.YtnkpoddbbdmipaaGreatDoor
namespace Go.Proofs.YtnkpoddbbdmipaaGreatDoor
set_option linter.unusedVariables false
set_option linter.unusedSimpArgs false

/-! ### Blanks ahead -/
end Go.Proofs.YtnkpoddbbdmipaaGreatDoor
namespace Go.Proofs.YtnkpoddbbdmipaaGreatDoor
set_option linter.unusedVariables false
set_option linter.unusedSimpArgs false

/-! ### Tokens stand in the text -/
/-! ### Tokens written anew -/
/-! ### Texts in quotes -/
end Go.Proofs.YtnkpoddbbdmipaaGreatDoor
namespace Go.Proofs.YtnkpoddbbdmipaaGreatDoor
set_option linter.unusedVariables false
set_option linter.unusedSimpArgs false

/-- l are the last digits of K, k stands for those ahead. -/
structure NumI (K k : Nat) (l : List UInt8) : Prop where
  digs : ∀ x ∈ l, digB x = true
  val : decV k l = K
  first : k = 0 → l = [] ∨ (l = [48] ∧ K = 0) ∨ ∃ c r, l = c :: r ∧ c.toNat ≠ 48
  len : l.length ≤ 18
theorem decV_ge : ∀ (l : List UInt8) (a : Nat), a * 10 ^ l.length ≤ decV a l
  | [], a => by rw [decV_nil]; simp
  | c :: l, a => by
    rw [decV_cons, List.length_cons, Nat.pow_succ]
    have := decV_ge l (a * 10 + (c.toNat - 48))
    have h2 : (a * 10) * 10 ^ l.length ≤ (a * 10 + (c.toNat - 48)) * 10 ^ l.length := Nat.mul_le_mul (by omega) (Nat.le_refl _)
    have e : a * (10 ^ l.length * 10) = a * 10 * 10 ^ l.length := by rw [Nat.mul_comm (10 ^ l.length) 10, Nat.mul_assoc]
    omega
theorem NumI.start (K : Nat) : NumI K K [] := ⟨by simp, decV_nil K, fun _ => .inl rfl, by simp⟩
theorem dig_of (d : Nat) (h : d < 10) : digB (UInt8.ofNat (48 + d)) = true ∧ (UInt8.ofNat (48 + d)).toNat = 48 + d := by
  have e : (UInt8.ofNat (48 + d)).toNat = 48 + d := by simp; omega
  refine ⟨?_, e⟩
  unfold digB; rw [e]; simp; omega
theorem NumI.step {K k : Nat} {l : List UInt8} (h : NumI K k l) (hK : K < 1000000000000000000) (hg : 0 < k ∨ l = []) : NumI K (k / 10) (UInt8.ofNat (48 + k % 10) :: l) := by
  obtain ⟨d1, d2⟩ := dig_of (k % 10) (by omega)
  refine ⟨fun x hx => ?_, ?_, fun h0 => ?_, ?_⟩
  · rcases List.mem_cons.1 hx with rfl | hx
    · exact d1
    · exact h.digs x hx
  · rw [decV_cons, d2, show k / 10 * 10 + (48 + k % 10 - 48) = k from by omega]; exact h.val
  · by_cases hk : k = 0
    · have hl : l = [] := by rcases hg with h | h; exact absurd hk (by omega); exact h
      subst hl; subst hk
      have := h.val
      rw [decV_nil] at this
      exact .inr (.inl ⟨rfl, this.symm⟩)
    · exact .inr (.inr ⟨_, _, rfl, by rw [d2]; omega⟩)
  · rw [List.length_cons]
    rcases hg with hg | hg
    · have h1 := decV_ge l k
      rw [h.val] at h1
      have h2 : 1 * 10 ^ l.length ≤ k * 10 ^ l.length := Nat.mul_le_mul hg (Nat.le_refl _)
      have h3 : 10 ^ l.length < 10 ^ 18 := by
        have : 10 ^ 18 = 1000000000000000000 := by decide
        omega
      have := (Nat.pow_lt_pow_iff_right (a := 10) (by decide)).1 h3
      omega
    · subst hg; simp
/-- The sign and the digits of a number. -/
def sgn (neg : Bool) (l : List UInt8) : List UInt8 := if neg then 45 :: l else l
end Go.Proofs.YtnkpoddbbdmipaaGreatDoor
namespace Go.Proofs.YtnkpoddbbdmipaaGreatDoor
set_option linter.unusedVariables false
set_option linter.unusedSimpArgs false

/-- An input, or an argument. -/
structure IN where
  name : List UInt8
  t : TR
  has : Bool
  v : VT
structure FD where
  name : List UInt8
  args : List IN
  t : TR
  has : Bool
  v : VT
def FD.of (i : IN) : FD := ⟨i.name, [], i.t, i.has, i.v⟩
structure TD where
  kind : Nat
  name : List UInt8
  fields : List FD
  names : List (List UInt8)
/-! ### What is read takes tokens -/
end Go.Proofs.YtnkpoddbbdmipaaGreatDoor
