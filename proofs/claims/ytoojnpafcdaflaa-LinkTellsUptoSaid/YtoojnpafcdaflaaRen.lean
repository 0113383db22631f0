/- The reader's Entity. -/
import Derived.Test.YtoojnpafcdaflaaEnt
import Derived.Test.YtoojnpafcdaflaaRvl
import Derived.Test.YtoojnpafcdaflaaDcc
namespace Go.Proofs.Ytoojnpafcdaflaa
open Go Go.RowKit
set_option linter.unusedVariables false
set_option linter.unusedSimpArgs false
set_option maxRecDepth 100000

/-- The texts rise. -/
def Rising (ks : List (List UInt8)) : Prop := SortedS ks ∧ ApartS ks ks.length
/-- An entity out of some bytes. -/
def DecE (l ty id : List UInt8) (ks : List (List UInt8)) (vs : List VT) (r : List UInt8) : Prop :=
  ∃ r1 r2, decT 32 l = some (ty, r1) ∧ decT 200 r1 = some (id, r2) ∧ decV 24 r2 = some (objV ks vs, r) ∧ Rising ks
def REb (w : World) (b : Nat) (l : List UInt8) (β : Bool) (e : Ending) (w' : World) : Prop :=
  ∃ (ty id : List UInt8) (ks : List (List UInt8)) (vs : List VT) (ak av : Option Addr) (ck cv : Nat) (r : List UInt8) (β' : Bool), e = .returned (.agg #[.string ⟨ty.toArray⟩, .string ⟨id.toArray⟩, .slice ak ks.length ck, .slice av vs.length cv]) ∧ ty.length ≤ 32 ∧ id.length ≤ 200 ∧
    ValAt w' (fun q => w.heap.size ≤ q) (objV ks vs) [.int .u8 6, .int .i64 0, .string ByteArray.empty, .slice ak ks.length ck, .slice av vs.length cv] ∧ ReaderAt w' b r β' ∧ Only (fun k => k = b) w w' ∧
    (β' = false → β = false ∧ DecE l ty id ks vs r) ∧ (β' = true → β = true ∨ ∀ ty id ks vs r, ¬ DecE l ty id ks vs r)
theorem zero_Ent (w : World) : (zeroValue 69).run Try.prog w = .ok (.agg #[.string ByteArray.empty, .string ByteArray.empty, .slice none 0 0, .slice none 0 0]) w := by kernel_rfl
theorem obj_cells {w : World} {G : Nat → Prop} {ks : List (List UInt8)} {vs : List VT} {a1 a2 a3 a4 a5 : Value} (h : ValAt w G (objV ks vs) [a1, a2, a3, a4, a5]) : ValAt w G (objV ks vs) [.int .u8 6, .int .i64 0, .string ByteArray.empty, a4, a5] := by
  unfold objV at h ⊢
  simp only [ValAt] at h ⊢
  obtain ⟨ak, ck, av, cv, e, h1, h2, h3, h4, h5, h6, h7⟩ := h
  simp only [List.cons.injEq, and_true] at e
  obtain ⟨rfl, rfl, rfl, rfl, rfl⟩ := e
  exact ⟨ak, ck, av, cv, rfl, by decide, h2, h3, h4, h5, h6, h7⟩
theorem cell_drew {w : World} {a : Addr} {x : Option Value} (h : w.cell? a = x) : w.drew.cell? a = x := h
set_option maxHeartbeats 16000000 in
theorem rent_any (b : Nat) (l : List UInt8) (β : Bool) (w : World) (h : ReaderAt w b l β) : Calls Try.prog 45 #[.pointer (some ⟨b, 0, none⟩)] w (REb w b l β) := by
  have hz := zero_V
  have hz2 := zero_Ent
  have hbl := h.lt
  have oa := (Only.refl (fun _ => False) w).alloc (.cells #[.string ByteArray.empty, .string ByteArray.empty, .slice none 0 0, .slice none 0 0] 69)
  have hR0 := heap_new w (.cells #[.string ByteArray.empty, .string ByteArray.empty, .slice none 0 0, .slice none 0 0] 69)
  have hu : Calls Try.prog 34 #[.pointer (some ⟨b, 0, none⟩), .int .i64 32] (w.alloc (.cells #[.string ByteArray.empty, .string ByteArray.empty, .slice none 0 0, .slice none 0 0] 69)) _ := rtext_b b 32 l β _ (h.still oa) (by decide)
  have HU := Lib.hid hu; have OA := Lib.hid oa; have HR0 := Lib.hid hR0; clear hu oa hR0 h
  go_enter Try.func45, Try.ntmps45
  go_wp2_with fail
  refine HU.out.mono ?_
  rintro e w2 ⟨ty, r1, β1, rfl, hty, h2, o2, a1, a2⟩
  have ht : Calls Try.prog 34 #[.pointer (some ⟨b, 0, none⟩), .int .i64 200] w2 _ := rtext_b b 200 r1 β1 w2 h2 (by decide)
  have A1 := Lib.hid a1; have A2 := Lib.hid a2; have O2 := Lib.hid o2; have HT := Lib.hid ht; have HTY := Lib.hid hty; clear a1 a2 o2 ht h2 hty
  go_wp2_with fail
  refine HT.out.mono ?_
  rintro e w3 ⟨id, r2, β2, rfl, hid, h3, o3, b1, b2⟩
  have hs2 : w.heap.size < w2.heap.size := by have := O2.out.size; simp at this; omega
  have hs3 : w2.heap.size ≤ w3.heap.size := o3.size
  have hR3 := (o3.block _ (by omega) (by omega)).trans ((O2.out.block _ (by simp) (by omega)).trans HR0.out)
  have oX := (Only.refl (fun _ => False) w3).alloc (.cells #[.string ⟨ty.toArray⟩, .string ⟨id.toArray⟩, .slice none 0 0, .slice none 0 0] 69)
  have hX := heap_new w3 (.cells #[.string ⟨ty.toArray⟩, .string ⟨id.toArray⟩, .slice none 0 0, .slice none 0 0] 69)
  have hRX := heap_old hR3 (.cells #[.string ⟨ty.toArray⟩, .string ⟨id.toArray⟩, .slice none 0 0, .slice none 0 0] 69)
  have hOX : Only (fun k => k = b) w (w3.alloc (.cells #[.string ⟨ty.toArray⟩, .string ⟨id.toArray⟩, .slice none 0 0, .slice none 0 0] 69)) := (((OA.out.mono (T := fun k => k = b) (fun _ _ h => h.elim)).trans O2.out).trans o3).alloc _
  have hrv := rval_any b r2 β2 _ (h3.still oX)
  have HSW : Hid (w.heap.size < w3.heap.size) := Lib.hid (Nat.lt_of_lt_of_le hs2 hs3)
  have B1 := Lib.hid b1; have B2 := Lib.hid b2; have HRV := Lib.hid hrv; have HX0 := Lib.hid hX; have HRX := Lib.hid hRX; have HOX := Lib.hid hOX; have HID := Lib.hid hid; have HS2 := Lib.hid hs2; have HS3 := Lib.hid hs3; clear b1 b2 hrv hX hRX hOX oX h3 o3 hR3 hs2 hs3 hid
  go_wp2_with fail
  refine HRV.out.mono ?_
  rintro e w5 ⟨t, cs, r3, β3, rfl, hv5, h5, o5, d1, d2⟩
  obtain ⟨k', n', s', ak', lk', ck', av', lv', cv', rfl⟩ := valAt_form hv5
  have hx3 : w3.heap.size < w5.heap.size := by have := o5.size; simp at this; omega
  have hX5 := (o5.block w3.heap.size (by simp) (by have := HS2.out; have := HS3.out; omega)).trans HX0.out
  have hR5 := (o5.block w.heap.size (by simp; have := HS2.out; have := HS3.out; omega) (by omega)).trans HRX.out
  have hO5 := HOX.out.trans o5
  have oV := (Only.refl (fun _ => False) w5).alloc (.cells #[.int .u8 k', .int .i64 n', .string ⟨s'.toArray⟩, .slice ak' lk' ck', .slice av' lv' cv'] 35)
  have hV := heap_new w5 (.cells #[.int .u8 k', .int .i64 n', .string ⟨s'.toArray⟩, .slice ak' lk' ck', .slice av' lv' cv'] 35)
  have hRV := heap_old hR5 (.cells #[.int .u8 k', .int .i64 n', .string ⟨s'.toArray⟩, .slice ak' lk' ck', .slice av' lv' cv'] 35)
  have hXV := heap_old hX5 (.cells #[.int .u8 k', .int .i64 n', .string ⟨s'.toArray⟩, .slice ak' lk' ck', .slice av' lv' cv'] 35)
  have hOV := hO5.alloc (.cells #[.int .u8 k', .int .i64 n', .string ⟨s'.toArray⟩, .slice ak' lk' ck', .slice av' lv' cv'] 35)
  have hvV := valAt_only oV (fun _ _ h => h) _ _ hv5
  have h5V := h5.still oV
  have hltV : w5.heap.size < (w5.alloc (.cells #[.int .u8 k', .int .i64 n', .string ⟨s'.toArray⟩, .slice ak' lk' ck', .slice av' lv' cv'] 35)).heap.size := by simp
  have HX3 := Lib.hid hx3
  have D1 := Lib.hid d1; have D2 := Lib.hid d2
  clear hX5 hR5 hO5 oV hv5 h5 o5 d1 d2 hx3
  go_upto_region 3 with (fail)
  clear hz
  generalize w5.alloc (.cells #[.int .u8 k', .int .i64 n', .string ⟨s'.toArray⟩, .slice ak' lk' ck', .slice av' lv' cv'] 35) = wV at *
  obtain ⟨c0, c1, c2, c3, c4⟩ := box_cells hV
  have hRk : ∀ (S : Nat → Prop) w', Only S wV w' → ¬ S w.heap.size → w'.heap[w.heap.size]? = some (.cells #[.string ByteArray.empty, .string ByteArray.empty, .slice none 0 0, .slice none 0 0] 69 (0, 0)) := fun S w' ho hS => by
    rw [ho.block _ (Array.getElem?_eq_some_iff.1 hRV).1 hS]; exact hRV
  have hXk : ∀ (S : Nat → Prop) w', Only S wV w' → ¬ S w3.heap.size → w'.heap[w3.heap.size]? = some (.cells #[.string ⟨ty.toArray⟩, .string ⟨id.toArray⟩, .slice none 0 0, .slice none 0 0] 69 (0, 0)) := fun S w' ho hS => by
    rw [ho.block _ (Array.getElem?_eq_some_iff.1 hXV).1 hS]; exact hXV
  have hG : ∀ q, (w3.alloc (.cells #[.string ⟨ty.toArray⟩, .string ⟨id.toArray⟩, .slice none 0 0, .slice none 0 0] 69)).heap.size ≤ q → w3.heap.size < q := fun q hq => by simp at hq; omega
  have hval : ∀ w', Only (fun _ => False) wV w' → ValAt w' (fun q => w3.heap.size < q) t [.int .u8 k', .int .i64 n', .string ⟨s'.toArray⟩, .slice ak' lk' ck', .slice av' lv' cv'] := fun w' ho => valAt_only ho (fun _ _ h => h) _ _ (valAt_weaken (fun q _ hq => hG q hq) _ _ hvV)
  -- what the bytes say
  have hdec : ∀ ty' id' ks vs r, β = false → DecE l ty' id' ks vs r → β3 = false ∧ t = objV ks vs ∧ Rising ks := fun ty' id' ks vs r hb hd => by
    obtain ⟨q1, q2, p1, p2, p3, p4⟩ := hd
    have e1 : β1 = false := by
      cases h1 : β1 with
      | false => rfl
      | true => rcases (A2.out h1).2 with h | h; (rw [hb] at h; cases h); (rw [p1] at h; cases h)
    have f1 := (A1.out e1).2
    rw [p1] at f1
    injection f1 with f1
    injection f1 with f1 f2
    subst f2
    have e2 : β2 = false := by
      cases h1 : β2 with
      | false => rfl
      | true => rcases (B2.out h1).2 with h | h; (rw [e1] at h; cases h); (rw [p2] at h; cases h)
    have g1 := (B1.out e2).2
    rw [p2] at g1
    injection g1 with g1
    injection g1 with g1 g2
    subst g2
    have e3 : β3 = false := by
      cases h1 : β3 with
      | false => rfl
      | true => rcases (D2.out h1).1 with h | h; (rw [e2] at h; cases h); (rw [p3] at h; cases h)
    have k1 := (D1.out e3).2
    rw [p3] at k1
    injection k1 with k1
    injection k1 with k1 k2
    exact ⟨e3, k1.symm, p4⟩
  have hno : (∀ ks vs, t ≠ objV ks vs) → β = true ∨ ∀ ty id ks vs r, ¬ DecE l ty id ks vs r := fun hne => by
    cases hb : β with
    | true => exact .inl rfl
    | false => exact .inr fun ty id ks vs r hd => hne ks vs (hdec ty id ks vs r hb hd).2.1
  have hno2 : ∀ (ks : List (List UInt8)) (vs : List VT), t = objV ks vs → ¬ Rising ks → β = true ∨ ∀ ty id ks vs r, ¬ DecE l ty id ks vs r := fun ks vs ht hri => by
    cases hb : β with
    | true => exact .inl rfl
    | false =>
      refine .inr ?_
      intro ty id ks' vs' r hd
      obtain ⟨_, g1, g2⟩ := hdec ty id ks' vs' r hb hd
      rw [ht] at g1
      unfold objV at g1
      injection g1 with _ _ _ g1 _
      subst g1
      exact hri g2
  have hkd : ∀ ks vs, t = objV ks vs → k' = 6 := fun ks vs e => by
    subst e
    unfold objV at hvV
    simp only [ValAt] at hvV
    obtain ⟨_, _, _, _, e0, _⟩ := hvV
    simp only [List.cons.injEq, and_true] at e0
    obtain ⟨e0, -⟩ := e0
    injection e0 with _ e0
    omega
  have hk6 : k' = 6 → ∃ ks vs, β3 = false ∧ t = objV ks vs := fun hk => by
    have hb3 : β3 = false := by
      cases h1 : β3 with
      | false => rfl
      | true =>
        have := (D2.out h1).2
        subst this
        unfold zeroT at hvV
        simp only [ValAt] at hvV
        obtain ⟨_, _, _, _, e0, _⟩ := hvV
        simp only [List.cons.injEq, and_true] at e0
        obtain ⟨e0, -⟩ := e0
        injection e0 with _ e0
        omega
    obtain ⟨c1, c2, c3⟩ := decV_canon 24 0 rfl _ _ _ (D1.out hb3).2
    obtain ⟨kk, n, s, ks, vs⟩ := t
    obtain ⟨⟨_, _, _, _, g5, g6, _⟩, _⟩ := formV_mk c2
    have hkk : kk = 6 := by
      simp only [ValAt] at hvV
      obtain ⟨_, _, _, _, e0, _⟩ := hvV
      simp only [List.cons.injEq, and_true] at e0
      obtain ⟨e0, -⟩ := e0
      injection e0 with _ e0
      omega
    subst hkk
    have hn : n = 0 := Decidable.byContradiction (fun e => by have := g5 e; omega)
    have hs : s = [] := Decidable.byContradiction (fun e => by have := g6 e; omega)
    subst hn; subst hs
    exact ⟨ks, vs, hb3, rfl⟩
  have hlen : ∀ ks vs, t = objV ks vs → ks.length ≤ 200 := fun ks vs e => by
    cases h1 : β3 with
    | true =>
      have := (D2.out h1).2
      rw [this] at e
      unfold zeroT objV at e
      injection e with e1 _ _ _ _
      cases e1
    | false =>
      obtain ⟨c1, c2, c3⟩ := decV_canon 24 0 rfl _ _ _ (D1.out h1).2
      rw [e] at c2
      obtain ⟨⟨_, _, g3, _, _, _, _, g8, _⟩, _⟩ := formV_mk c2
      rw [g8 rfl]; exact g3
  have hdone : ∀ ks vs, β3 = false → t = objV ks vs → Rising ks → β = false ∧ DecE l ty id ks vs r3 := fun ks vs hb ht hr => by
    obtain ⟨e2, p3⟩ := D1.out hb
    obtain ⟨e1, p2⟩ := B1.out e2
    obtain ⟨e0, p1⟩ := A1.out e1
    exact ⟨e0, r1, r2, p1, p2, by rw [← ht]; exact p3, hr⟩
  have HNO := Lib.hid hno; have HNO2 := Lib.hid hno2; have HKD := Lib.hid hkd; have HK6 := Lib.hid hk6; have HLEN := Lib.hid hlen; have HDONE := Lib.hid hdone
  have HR := Lib.hid hRk; have HX := Lib.hid hXk; have HVAL := Lib.hid hval; have HO := Lib.hid hOV; have H3 := Lib.hid h5V; have HVLT := Lib.hid hltV
  clear hno hno2 hkd hk6 hlen hdone hRk hXk hval hOV h5V hltV hvV hG hdec hV hRV hXV HRV HX0 HRX HOX A1 A2 B1 B2 D1 D2 HT HU HR0 OA O2
  have hS2 : ∀ w', Only (fun _ => False) wV w' → w'.cell? ⟨w5.heap.size, 0, none⟩ = some (.int .u8 k') ∧ w'.cell? ⟨w5.heap.size, 3, none⟩ = some (.slice ak' lk' ck') := fun w' ho => by
    have hlt : w5.heap.size < wV.heap.size := HVLT.out
    exact ⟨(cell_only ho (a := ⟨w5.heap.size, 0, none⟩) hlt (fun h => h)).trans c0, (cell_only ho (a := ⟨w5.heap.size, 3, none⟩) hlt (fun h => h)).trans c3⟩
  have HS2 := Lib.hid hS2; clear hS2
  by_cases hk6 : k' = 6
  rotate_left
  · have q1 : ((k' : Int) != 6) = true := by simp; omega
    have q2 : ((k' : Int) == 6) = false := by simp; omega
    have hno : β = true ∨ ∀ ty id ks vs r, ¬ DecE l ty id ks vs r := HNO.out (fun ks vs e => hk6 (HKD.out ks vs e))
    have HNN := Lib.hid hno; clear hno hk6
    refine wp_region_steps 19 (by kernel_rfl) rfl (by kernel_rfl) [some 12, some 13, some 14, some 15, some 16, some 17, some 18, some 19, some 20, some 21, some 22, some 23, some 24, some 25, some 26, some 27, some 28, some 29, some 30] rfl rfl (fun _ => False) [(fun v _ => v = (.pointer (some ⟨w5.heap.size, 0, none⟩))), (fun v _ => v = (.int .u8 k')), (fun v _ => v = (.bool true)), (fun v _ => v = (.bool true)), (fun v w1 => True), (fun v w1 => True), (fun v w1 => True), (fun v w1 => True), (fun v _ => v = (.bool true)), (fun v _ => v = (.bool true)), (fun v w1 => True), (fun v w1 => True), (fun v w1 => True), (fun v w1 => True), (fun v w1 => True), (fun v w1 => True), (fun v w1 => True), (fun v w1 => True), (fun v w1 => True)] rfl ⟨?_, ?_, ?_, ?_, ?_, ?_, ?_, ?_, ?_, ?_, ?_, ?_, ?_, ?_, ?_, ?_, ?_, ?_, ?_, trivial⟩ _ rfl ⟨?_, ?_, ?_, ?_, ?_, ?_, ?_, ?_, ?_, ?_, ?_, ?_, ?_, ?_, ?_, ?_, ?_, ?_, ?_, trivial⟩ ?_
    · exact Stable.is _ _
    · exact Stable.is _ _
    · exact Stable.is _ _
    · exact Stable.is _ _
    · intro v w1 w2 h ho; exact h
    · intro v w1 w2 h ho; exact h
    · intro v w1 w2 h ho; exact h
    · intro v w1 w2 h ho; exact h
    · exact Stable.is _ _
    · exact Stable.is _ _
    · intro v w1 w2 h ho; exact h
    · intro v w1 w2 h ho; exact h
    · intro v w1 w2 h ho; exact h
    · intro v w1 w2 h ho; exact h
    · intro v w1 w2 h ho; exact h
    · intro v w1 w2 h ho; exact h
    · intro v w1 w2 h ho; exact h
    · intro v w1 w2 h ho; exact h
    · intro v w1 w2 h ho; exact h
    · intro x wx ox hN TT HTT
      clear hN
      unfold StepTo
      simp only [putAll, Act.put, List.setIfInBounds_toArray, List.set_cons_succ, List.set_cons_zero]
      go_wp2_with fail
      exact ⟨rfl, _, rfl, HTT.out _ _ (rfl) (Only.refl _ _)⟩
    · intro x wx ox hN TT HTT
      have r12 : x 0 = (.pointer (some ⟨w5.heap.size, 0, none⟩)) := hN.1 rfl
      clear hN
      unfold StepTo
      simp only [putAll, Act.put, List.setIfInBounds_toArray, List.set_cons_succ, List.set_cons_zero, r12]
      clear r12
      obtain ⟨c0, c3⟩ := HS2.out wx (((Only.refl (fun _ => False) wV).drew).trans ox)
      go_wp2_with fail
      exact ⟨rfl, _, rfl, HTT.out _ _ (rfl) (Only.refl _ _)⟩
    · intro x wx ox hN TT HTT
      have r13 : x 1 = (.int .u8 k') := hN.1 rfl
      clear hN
      unfold StepTo
      simp only [putAll, Act.put, List.setIfInBounds_toArray, List.set_cons_succ, List.set_cons_zero, r13]
      clear r13
      go_wp2_with fail
      exact ⟨rfl, _, rfl, HTT.out _ _ (rfl) (Only.refl _ _)⟩
    · intro x wx ox hN TT HTT
      have r14 : x 2 = (.bool true) := hN.1 rfl
      clear hN
      unfold StepTo
      simp only [putAll, Act.put, List.setIfInBounds_toArray, List.set_cons_succ, List.set_cons_zero, r14]
      clear r14
      go_wp2_with fail
      exact ⟨rfl, _, rfl, HTT.out _ _ (rfl) (Only.refl _ _)⟩
    · intro x wx ox hN TT HTT
      have r15 : x 3 = (.bool true) := hN.1 rfl
      clear hN
      unfold StepTo
      simp only [putAll, Act.put, List.setIfInBounds_toArray, List.set_cons_succ, List.set_cons_zero, r15]
      clear r15
      go_wp2_with fail
      exact ⟨rfl, _, rfl, HTT.out _ _ (trivial) (Only.refl _ _)⟩
    · intro x wx ox hN TT HTT
      have r16 : (fun (v : Value) (w1 : World) => True) (x 4) wx := hN.1 rfl
      have r15 : x 3 = (.bool true) := hN.2.1 rfl
      clear hN
      unfold StepTo
      simp only [putAll, Act.put, List.setIfInBounds_toArray, List.set_cons_succ, List.set_cons_zero, r15]
      clear r15
      go_wp2_with fail
      exact ⟨rfl, _, rfl, HTT.out _ _ (trivial) (Only.refl _ _)⟩
    · intro x wx ox hN TT HTT
      have r17 : (fun (v : Value) (w1 : World) => True) (x 5) wx := hN.1 rfl
      have r15 : x 3 = (.bool true) := hN.2.1 rfl
      clear hN
      unfold StepTo
      simp only [putAll, Act.put, List.setIfInBounds_toArray, List.set_cons_succ, List.set_cons_zero, r15]
      clear r15
      go_wp2_with fail
      exact ⟨rfl, _, rfl, HTT.out _ _ (trivial) (Only.refl _ _)⟩
    · intro x wx ox hN TT HTT
      have r18 : (fun (v : Value) (w1 : World) => True) (x 6) wx := hN.1 rfl
      have r15 : x 3 = (.bool true) := hN.2.1 rfl
      clear hN
      unfold StepTo
      simp only [putAll, Act.put, List.setIfInBounds_toArray, List.set_cons_succ, List.set_cons_zero, r15]
      clear r15
      go_wp2_with fail
      exact ⟨rfl, _, rfl, HTT.out _ _ (trivial) (Only.refl _ _)⟩
    · intro x wx ox hN TT HTT
      have r15 : x 3 = (.bool true) := hN.1 rfl
      have r19 : (fun (v : Value) (w1 : World) => True) (x 7) wx := hN.2.1 rfl
      clear hN
      unfold StepTo
      simp only [putAll, Act.put, List.setIfInBounds_toArray, List.set_cons_succ, List.set_cons_zero, r15]
      clear r15
      go_wp2_with fail
      exact ⟨rfl, _, rfl, HTT.out _ _ (rfl) (Only.refl _ _)⟩
    · intro x wx ox hN TT HTT
      have r20 : x 8 = (.bool true) := hN.1 rfl
      have r18 : (fun (v : Value) (w1 : World) => True) (x 6) wx := hN.2.1 rfl
      clear hN
      unfold StepTo
      simp only [putAll, Act.put, List.setIfInBounds_toArray, List.set_cons_succ, List.set_cons_zero, r20]
      clear r20
      go_wp2_with fail
      exact ⟨rfl, _, rfl, HTT.out _ _ (rfl) (Only.refl _ _)⟩
    · intro x wx ox hN TT HTT
      have r21 : x 9 = (.bool true) := hN.1 rfl
      clear hN
      unfold StepTo
      simp only [putAll, Act.put, List.setIfInBounds_toArray, List.set_cons_succ, List.set_cons_zero, r21]
      clear r21
      go_wp2_with fail
      exact ⟨rfl, _, rfl, HTT.out _ _ (trivial) (Only.refl _ _)⟩
    · intro x wx ox hN TT HTT
      have r22 : (fun (v : Value) (w1 : World) => True) (x 10) wx := hN.1 rfl
      have r21 : x 9 = (.bool true) := hN.2.1 rfl
      clear hN
      unfold StepTo
      simp only [putAll, Act.put, List.setIfInBounds_toArray, List.set_cons_succ, List.set_cons_zero, r21]
      clear r21
      go_wp2_with fail
      exact ⟨rfl, _, rfl, HTT.out _ _ (trivial) (Only.refl _ _)⟩
    · intro x wx ox hN TT HTT
      have r23 : (fun (v : Value) (w1 : World) => True) (x 11) wx := hN.1 rfl
      have r21 : x 9 = (.bool true) := hN.2.1 rfl
      clear hN
      unfold StepTo
      simp only [putAll, Act.put, List.setIfInBounds_toArray, List.set_cons_succ, List.set_cons_zero, r21]
      clear r21
      go_wp2_with fail
      exact ⟨rfl, _, rfl, HTT.out _ _ (trivial) (Only.refl _ _)⟩
    · intro x wx ox hN TT HTT
      have r24 : (fun (v : Value) (w1 : World) => True) (x 12) wx := hN.1 rfl
      have r21 : x 9 = (.bool true) := hN.2.2.1 rfl
      clear hN
      unfold StepTo
      simp only [putAll, Act.put, List.setIfInBounds_toArray, List.set_cons_succ, List.set_cons_zero, r21]
      clear r21
      go_wp2_with fail
      exact ⟨rfl, _, rfl, HTT.out _ _ (trivial) (Only.refl _ _)⟩
    · intro x wx ox hN TT HTT
      have r25 : (fun (v : Value) (w1 : World) => True) (x 13) wx := hN.1 rfl
      have r21 : x 9 = (.bool true) := hN.2.1 rfl
      clear hN
      unfold StepTo
      simp only [putAll, Act.put, List.setIfInBounds_toArray, List.set_cons_succ, List.set_cons_zero, r21]
      clear r21
      go_wp2_with fail
      exact ⟨rfl, _, rfl, HTT.out _ _ (trivial) (Only.refl _ _)⟩
    · intro x wx ox hN TT HTT
      have r21 : x 9 = (.bool true) := hN.1 rfl
      clear hN
      unfold StepTo
      simp only [putAll, Act.put, List.setIfInBounds_toArray, List.set_cons_succ, List.set_cons_zero, r21]
      clear r21
      go_wp2_with fail
      exact ⟨rfl, _, rfl, HTT.out _ _ (trivial) (Only.refl _ _)⟩
    · intro x wx ox hN TT HTT
      have r27 : (fun (v : Value) (w1 : World) => True) (x 15) wx := hN.1 rfl
      have r21 : x 9 = (.bool true) := hN.2.1 rfl
      clear hN
      unfold StepTo
      simp only [putAll, Act.put, List.setIfInBounds_toArray, List.set_cons_succ, List.set_cons_zero, r21]
      clear r21
      go_wp2_with fail
      exact ⟨rfl, _, rfl, HTT.out _ _ (trivial) (Only.refl _ _)⟩
    · intro x wx ox hN TT HTT
      have r28 : (fun (v : Value) (w1 : World) => True) (x 16) wx := hN.1 rfl
      have r21 : x 9 = (.bool true) := hN.2.1 rfl
      clear hN
      unfold StepTo
      simp only [putAll, Act.put, List.setIfInBounds_toArray, List.set_cons_succ, List.set_cons_zero, r21]
      clear r21
      go_wp2_with fail
      exact ⟨rfl, _, rfl, HTT.out _ _ (trivial) (Only.refl _ _)⟩
    · intro x wx ox hN TT HTT
      have r26 : (fun (v : Value) (w1 : World) => True) (x 14) wx := hN.1 rfl
      have r29 : (fun (v : Value) (w1 : World) => True) (x 17) wx := hN.2.1 rfl
      have r21 : x 9 = (.bool true) := hN.2.2.1 rfl
      clear hN
      unfold StepTo
      simp only [putAll, Act.put, List.setIfInBounds_toArray, List.set_cons_succ, List.set_cons_zero, r21]
      clear r21
      go_wp2_with fail
      exact ⟨rfl, _, rfl, HTT.out _ _ (trivial) (Only.refl _ _)⟩
    intro xa wxa oxa hN
    have r12 : xa 0 = (.pointer (some ⟨w5.heap.size, 0, none⟩)) := hN.1
    have r13 : xa 1 = (.int .u8 k') := hN.2.1
    have r14 : xa 2 = (.bool true) := hN.2.2.1
    have r15 : xa 3 = (.bool true) := hN.2.2.2.1
    have r16 : (fun (v : Value) (w1 : World) => True) (xa 4) wxa := hN.2.2.2.2.1
    have r17 : (fun (v : Value) (w1 : World) => True) (xa 5) wxa := hN.2.2.2.2.2.1
    have r18 : (fun (v : Value) (w1 : World) => True) (xa 6) wxa := hN.2.2.2.2.2.2.1
    have r19 : (fun (v : Value) (w1 : World) => True) (xa 7) wxa := hN.2.2.2.2.2.2.2.1
    have r20 : xa 8 = (.bool true) := hN.2.2.2.2.2.2.2.2.1
    have r21 : xa 9 = (.bool true) := hN.2.2.2.2.2.2.2.2.2.1
    have r22 : (fun (v : Value) (w1 : World) => True) (xa 10) wxa := hN.2.2.2.2.2.2.2.2.2.2.1
    have r23 : (fun (v : Value) (w1 : World) => True) (xa 11) wxa := hN.2.2.2.2.2.2.2.2.2.2.2.1
    have r24 : (fun (v : Value) (w1 : World) => True) (xa 12) wxa := hN.2.2.2.2.2.2.2.2.2.2.2.2.1
    have r25 : (fun (v : Value) (w1 : World) => True) (xa 13) wxa := hN.2.2.2.2.2.2.2.2.2.2.2.2.2.1
    have r26 : (fun (v : Value) (w1 : World) => True) (xa 14) wxa := hN.2.2.2.2.2.2.2.2.2.2.2.2.2.2.1
    have r27 : (fun (v : Value) (w1 : World) => True) (xa 15) wxa := hN.2.2.2.2.2.2.2.2.2.2.2.2.2.2.2.1
    have r28 : (fun (v : Value) (w1 : World) => True) (xa 16) wxa := hN.2.2.2.2.2.2.2.2.2.2.2.2.2.2.2.2.1
    have r29 : (fun (v : Value) (w1 : World) => True) (xa 17) wxa := hN.2.2.2.2.2.2.2.2.2.2.2.2.2.2.2.2.2.1
    have r30 : (fun (v : Value) (w1 : World) => True) (xa 18) wxa := hN.2.2.2.2.2.2.2.2.2.2.2.2.2.2.2.2.2.2.1
    clear hN
    simp only [putAll, Act.put, List.setIfInBounds_toArray, List.set_cons_succ, List.set_cons_zero, r12, r13, r14, r15, r20, r21]
    clear r12 r13 r14 r15 r20 r21
    have oxa := ((Only.refl (fun _ => False) wV).drew).trans oxa
    go_wp2_with fail
    refine (fail_any b r3 β3 _ (H3.out.still oxa)).mono ?_
    rintro e wf ⟨rfl, hf, of⟩
    have hRf := HR.out (fun q => q = b) wf ((oxa).mono (T := fun q => q = b) (fun _ _ h => h.elim) |>.trans of) (by omega)
    have hOf := (HO.out.trans' (oxa) (fun _ _ h => h.elim)).trans of
    have HRf := Lib.hid hRf; have HOf := Lib.hid hOf; have HF := Lib.hid hf; clear hRf hOf of hf
    go_wp2_with fail
    refine (bad_any b r3 true _ HF.out).mono ?_
    rintro e wg ⟨rfl, rfl⟩
    have h1c : ∀ v ∈ ([.string ByteArray.empty, .string ByteArray.empty, .slice none 0 0, .slice none 0 0] : List Value), v.oneCell' = true := by intro v hv; simp only [List.mem_cons, List.not_mem_nil, or_false] at hv; rcases hv with rfl | rfl | rfl | rfl <;> rfl
    have H1C := Lib.hid h1c; clear h1c
    go_wp2_with ((refine wpList_store_box (o := ⟨none, _, _, _, _, _⟩) rfl 69 (.tmp 2) (.tmp 36) (by rfl) w.heap.size [.string ByteArray.empty, .string ByteArray.empty, .slice none 0 0, .slice none 0 0] [.string ByteArray.empty, .string ByteArray.empty, .slice none 0 0, .slice none 0 0] (by rfl) (by rfl) (HRf.out) rfl (by kernel_rfl) H1C.out ?_; intro w6 h6 o6))
    obtain ⟨z0, z1, z2, z3⟩ := box4 h6
    have hfin : REb w b l β (.returned (.agg #[.string ByteArray.empty, .string ByteArray.empty, .slice none 0 0, .slice none 0 0])) w6 := ⟨[], [], [], [], none, none, 0, 0, r3, true, rfl, by simp, by simp, valAt_leaf (s := []) (by decide) (by decide) (by decide) (by simp), HF.out.past o6 (fun k hk => by omega), HOf.out.trans' o6 (fun k hk e => by omega), (fun h => by cases h), fun _ => HNN.out⟩
    exact bodyPost_ret (v := .agg #[.string ByteArray.empty, .string ByteArray.empty, .slice none 0 0, .slice none 0 0]) (by simp [results, Try.results45, go_sem, z0, z1, z2, z3]) rfl hfin
  have q1 : ((k' : Int) != 6) = false := by simp; omega
  have q2 : ((k' : Int) == 6) = true := by simp; omega
  obtain ⟨ks, vs, hβ3, ht⟩ := HK6.out hk6
  subst hβ3
  subst ht
  have hvv := HVAL.out wV (Only.refl _ _)
  unfold objV at hvv
  simp only [ValAt] at hvv
  obtain ⟨aK, cK, aL, cL, e0, _, _, _, e1, e2, e3, _⟩ := hvv
  simp only [List.cons.injEq, and_true] at e0
  obtain ⟨-, -, -, e4, e5⟩ := e0
  injection e4 with e41 e42 e43
  injection e5 with e51 e52 e53
  subst e41; subst e42; subst e43; subst e51; subst e52; subst e53
  obtain ⟨lk, hlk⟩ : ∃ lk, lk = ks.length := ⟨_, rfl⟩
  obtain ⟨lv, hlv⟩ : ∃ lv, lv = vs.length := ⟨_, rfl⟩
  have htx : ∀ w', Only (fun _ => False) wV w' → TextsAt w' ak' ks := fun w' ho hp => by
    obtain ⟨g, off, q1, _, q3, q4⟩ := e3 hp
    exact ⟨g, off, q1, Nat.lt_of_lt_of_le q3 ho.size, range_only q4 q3 ho (fun h => h)⟩
  have hk200 : ks.length ≤ 200 := HLEN.out ks vs rfl
  have HTX := Lib.hid htx; have HK2 := Lib.hid hk200; have HE1 := Lib.hid e1; have HE2 := Lib.hid e2; clear htx hk200 e1 e2 e3 HKD HK6 HLEN hk6
  have od := (Only.refl (fun _ => False) wV).drew
  by_cases hso : SortedS ks
  rotate_left
  · have hno : β = true ∨ ∀ ty id ks vs r, ¬ DecE l ty id ks vs r := HNO2.out ks vs rfl (fun h => hso h.1)
    have hsc : ∀ w', Only (fun _ => False) wV w' → Calls Try.prog 68 #[.slice ak' ks.length ck'] w' fun e w2 => e = .returned (.bool false) ∧ Only (fun _ => False) w' w2 := fun w' ho => (isSortedS ak' ck' ks w' (HTX.out w' ho) (by have := HK2.out; omega)).mono fun e w2 hh => by
      obtain ⟨⟨bb, h1, h2⟩, h3⟩ := hh
      refine ⟨?_, h3⟩
      rw [h1]
      cases bb with
      | false => rfl
      | true => exact absurd (h2.1 rfl) hso
    have HSC := Lib.hid hsc; have HNN := Lib.hid hno; clear hsc hno hso
    refine wp_region_steps 19 (by kernel_rfl) rfl (by kernel_rfl) [some 12, some 13, some 14, some 15, some 16, some 17, some 18, some 19, some 20, some 21, some 22, some 23, some 24, some 25, some 26, some 27, some 28, some 29, some 30] rfl rfl (fun _ => False) [(fun v _ => v = (.pointer (some ⟨w5.heap.size, 0, none⟩))), (fun v _ => v = (.int .u8 k')), (fun v _ => v = (.bool false)), (fun v _ => v = (.bool false)), (fun v _ => v = (.pointer (some ⟨w5.heap.size, 3, none⟩))), (fun v _ => v = (.slice ak' ks.length ck')), (fun v _ => v = (.bool false)), (fun v _ => v = (.bool true)), (fun v _ => v = (.bool true)), (fun v _ => v = (.bool true)), (fun v w1 => True), (fun v w1 => True), (fun v w1 => True), (fun v w1 => True), (fun v w1 => True), (fun v w1 => True), (fun v w1 => True), (fun v w1 => True), (fun v w1 => True)] rfl ⟨?_, ?_, ?_, ?_, ?_, ?_, ?_, ?_, ?_, ?_, ?_, ?_, ?_, ?_, ?_, ?_, ?_, ?_, ?_, trivial⟩ _ rfl ⟨?_, ?_, ?_, ?_, ?_, ?_, ?_, ?_, ?_, ?_, ?_, ?_, ?_, ?_, ?_, ?_, ?_, ?_, ?_, trivial⟩ ?_
    · exact Stable.is _ _
    · exact Stable.is _ _
    · exact Stable.is _ _
    · exact Stable.is _ _
    · exact Stable.is _ _
    · exact Stable.is _ _
    · exact Stable.is _ _
    · exact Stable.is _ _
    · exact Stable.is _ _
    · exact Stable.is _ _
    · intro v w1 w2 h ho; exact h
    · intro v w1 w2 h ho; exact h
    · intro v w1 w2 h ho; exact h
    · intro v w1 w2 h ho; exact h
    · intro v w1 w2 h ho; exact h
    · intro v w1 w2 h ho; exact h
    · intro v w1 w2 h ho; exact h
    · intro v w1 w2 h ho; exact h
    · intro v w1 w2 h ho; exact h
    · intro x wx ox hN TT HTT
      clear hN
      unfold StepTo
      simp only [putAll, Act.put, List.setIfInBounds_toArray, List.set_cons_succ, List.set_cons_zero]
      go_wp2_with fail
      exact ⟨rfl, _, rfl, HTT.out _ _ (rfl) (Only.refl _ _)⟩
    · intro x wx ox hN TT HTT
      have r12 : x 0 = (.pointer (some ⟨w5.heap.size, 0, none⟩)) := hN.1 rfl
      clear hN
      unfold StepTo
      simp only [putAll, Act.put, List.setIfInBounds_toArray, List.set_cons_succ, List.set_cons_zero, r12]
      clear r12
      obtain ⟨c0, c3⟩ := HS2.out wx (((Only.refl (fun _ => False) wV).drew).trans ox)
      go_wp2_with fail
      exact ⟨rfl, _, rfl, HTT.out _ _ (rfl) (Only.refl _ _)⟩
    · intro x wx ox hN TT HTT
      have r13 : x 1 = (.int .u8 k') := hN.1 rfl
      clear hN
      unfold StepTo
      simp only [putAll, Act.put, List.setIfInBounds_toArray, List.set_cons_succ, List.set_cons_zero, r13]
      clear r13
      go_wp2_with fail
      exact ⟨rfl, _, rfl, HTT.out _ _ (rfl) (Only.refl _ _)⟩
    · intro x wx ox hN TT HTT
      have r14 : x 2 = (.bool false) := hN.1 rfl
      clear hN
      unfold StepTo
      simp only [putAll, Act.put, List.setIfInBounds_toArray, List.set_cons_succ, List.set_cons_zero, r14]
      clear r14
      go_wp2_with fail
      exact ⟨rfl, _, rfl, HTT.out _ _ (rfl) (Only.refl _ _)⟩
    · intro x wx ox hN TT HTT
      have r15 : x 3 = (.bool false) := hN.1 rfl
      clear hN
      unfold StepTo
      simp only [putAll, Act.put, List.setIfInBounds_toArray, List.set_cons_succ, List.set_cons_zero, r15]
      clear r15
      go_wp2_with fail
      exact ⟨rfl, _, rfl, HTT.out _ _ (rfl) (Only.refl _ _)⟩
    · intro x wx ox hN TT HTT
      have r16 : x 4 = (.pointer (some ⟨w5.heap.size, 3, none⟩)) := hN.1 rfl
      have r15 : x 3 = (.bool false) := hN.2.1 rfl
      clear hN
      unfold StepTo
      simp only [putAll, Act.put, List.setIfInBounds_toArray, List.set_cons_succ, List.set_cons_zero, r16, r15]
      clear r16 r15
      obtain ⟨c0, c3⟩ := HS2.out wx (((Only.refl (fun _ => False) wV).drew).trans ox)
      go_wp2_with fail
      exact ⟨rfl, _, rfl, HTT.out _ _ (rfl) (Only.refl _ _)⟩
    · intro x wx ox hN TT HTT
      have r17 : x 5 = (.slice ak' ks.length ck') := hN.1 rfl
      have r15 : x 3 = (.bool false) := hN.2.1 rfl
      clear hN
      unfold StepTo
      simp only [putAll, Act.put, List.setIfInBounds_toArray, List.set_cons_succ, List.set_cons_zero, r17, r15]
      clear r17 r15
      have ht := HSC.out wx (((Only.refl (fun _ => False) wV).drew).trans ox)
      have HT := Lib.hid ht; clear ht
      go_wp2_with fail
      refine HT.out.mono ?_
      rintro e w6 ⟨rfl, o6⟩
      have O6 := Lib.hid o6; clear o6
      go_wp2_with fail
      exact ⟨rfl, _, rfl, HTT.out _ _ (rfl) (O6.out)⟩
    · intro x wx ox hN TT HTT
      have r18 : x 6 = (.bool false) := hN.1 rfl
      have r15 : x 3 = (.bool false) := hN.2.1 rfl
      clear hN
      unfold StepTo
      simp only [putAll, Act.put, List.setIfInBounds_toArray, List.set_cons_succ, List.set_cons_zero, r18, r15]
      clear r18 r15
      go_wp2_with fail
      exact ⟨rfl, _, rfl, HTT.out _ _ (rfl) (Only.refl _ _)⟩
    · intro x wx ox hN TT HTT
      have r15 : x 3 = (.bool false) := hN.1 rfl
      have r19 : x 7 = (.bool true) := hN.2.1 rfl
      clear hN
      unfold StepTo
      simp only [putAll, Act.put, List.setIfInBounds_toArray, List.set_cons_succ, List.set_cons_zero, r15, r19]
      clear r15 r19
      go_wp2_with fail
      exact ⟨rfl, _, rfl, HTT.out _ _ (rfl) (Only.refl _ _)⟩
    · intro x wx ox hN TT HTT
      have r20 : x 8 = (.bool true) := hN.1 rfl
      have r18 : x 6 = (.bool false) := hN.2.1 rfl
      clear hN
      unfold StepTo
      simp only [putAll, Act.put, List.setIfInBounds_toArray, List.set_cons_succ, List.set_cons_zero, r20, r18]
      clear r20 r18
      go_wp2_with fail
      exact ⟨rfl, _, rfl, HTT.out _ _ (rfl) (Only.refl _ _)⟩
    · intro x wx ox hN TT HTT
      have r21 : x 9 = (.bool true) := hN.1 rfl
      clear hN
      unfold StepTo
      simp only [putAll, Act.put, List.setIfInBounds_toArray, List.set_cons_succ, List.set_cons_zero, r21]
      clear r21
      go_wp2_with fail
      exact ⟨rfl, _, rfl, HTT.out _ _ (trivial) (Only.refl _ _)⟩
    · intro x wx ox hN TT HTT
      have r22 : (fun (v : Value) (w1 : World) => True) (x 10) wx := hN.1 rfl
      have r21 : x 9 = (.bool true) := hN.2.1 rfl
      clear hN
      unfold StepTo
      simp only [putAll, Act.put, List.setIfInBounds_toArray, List.set_cons_succ, List.set_cons_zero, r21]
      clear r21
      go_wp2_with fail
      exact ⟨rfl, _, rfl, HTT.out _ _ (trivial) (Only.refl _ _)⟩
    · intro x wx ox hN TT HTT
      have r23 : (fun (v : Value) (w1 : World) => True) (x 11) wx := hN.1 rfl
      have r21 : x 9 = (.bool true) := hN.2.1 rfl
      clear hN
      unfold StepTo
      simp only [putAll, Act.put, List.setIfInBounds_toArray, List.set_cons_succ, List.set_cons_zero, r21]
      clear r21
      go_wp2_with fail
      exact ⟨rfl, _, rfl, HTT.out _ _ (trivial) (Only.refl _ _)⟩
    · intro x wx ox hN TT HTT
      have r24 : (fun (v : Value) (w1 : World) => True) (x 12) wx := hN.1 rfl
      have r21 : x 9 = (.bool true) := hN.2.2.1 rfl
      clear hN
      unfold StepTo
      simp only [putAll, Act.put, List.setIfInBounds_toArray, List.set_cons_succ, List.set_cons_zero, r21]
      clear r21
      go_wp2_with fail
      exact ⟨rfl, _, rfl, HTT.out _ _ (trivial) (Only.refl _ _)⟩
    · intro x wx ox hN TT HTT
      have r25 : (fun (v : Value) (w1 : World) => True) (x 13) wx := hN.1 rfl
      have r21 : x 9 = (.bool true) := hN.2.1 rfl
      clear hN
      unfold StepTo
      simp only [putAll, Act.put, List.setIfInBounds_toArray, List.set_cons_succ, List.set_cons_zero, r21]
      clear r21
      go_wp2_with fail
      exact ⟨rfl, _, rfl, HTT.out _ _ (trivial) (Only.refl _ _)⟩
    · intro x wx ox hN TT HTT
      have r21 : x 9 = (.bool true) := hN.1 rfl
      clear hN
      unfold StepTo
      simp only [putAll, Act.put, List.setIfInBounds_toArray, List.set_cons_succ, List.set_cons_zero, r21]
      clear r21
      go_wp2_with fail
      exact ⟨rfl, _, rfl, HTT.out _ _ (trivial) (Only.refl _ _)⟩
    · intro x wx ox hN TT HTT
      have r27 : (fun (v : Value) (w1 : World) => True) (x 15) wx := hN.1 rfl
      have r21 : x 9 = (.bool true) := hN.2.1 rfl
      clear hN
      unfold StepTo
      simp only [putAll, Act.put, List.setIfInBounds_toArray, List.set_cons_succ, List.set_cons_zero, r21]
      clear r21
      go_wp2_with fail
      exact ⟨rfl, _, rfl, HTT.out _ _ (trivial) (Only.refl _ _)⟩
    · intro x wx ox hN TT HTT
      have r28 : (fun (v : Value) (w1 : World) => True) (x 16) wx := hN.1 rfl
      have r21 : x 9 = (.bool true) := hN.2.1 rfl
      clear hN
      unfold StepTo
      simp only [putAll, Act.put, List.setIfInBounds_toArray, List.set_cons_succ, List.set_cons_zero, r21]
      clear r21
      go_wp2_with fail
      exact ⟨rfl, _, rfl, HTT.out _ _ (trivial) (Only.refl _ _)⟩
    · intro x wx ox hN TT HTT
      have r26 : (fun (v : Value) (w1 : World) => True) (x 14) wx := hN.1 rfl
      have r29 : (fun (v : Value) (w1 : World) => True) (x 17) wx := hN.2.1 rfl
      have r21 : x 9 = (.bool true) := hN.2.2.1 rfl
      clear hN
      unfold StepTo
      simp only [putAll, Act.put, List.setIfInBounds_toArray, List.set_cons_succ, List.set_cons_zero, r21]
      clear r21
      go_wp2_with fail
      exact ⟨rfl, _, rfl, HTT.out _ _ (trivial) (Only.refl _ _)⟩
    intro xa wxa oxa hN
    have r12 : xa 0 = (.pointer (some ⟨w5.heap.size, 0, none⟩)) := hN.1
    have r13 : xa 1 = (.int .u8 k') := hN.2.1
    have r14 : xa 2 = (.bool false) := hN.2.2.1
    have r15 : xa 3 = (.bool false) := hN.2.2.2.1
    have r16 : xa 4 = (.pointer (some ⟨w5.heap.size, 3, none⟩)) := hN.2.2.2.2.1
    have r17 : xa 5 = (.slice ak' ks.length ck') := hN.2.2.2.2.2.1
    have r18 : xa 6 = (.bool false) := hN.2.2.2.2.2.2.1
    have r19 : xa 7 = (.bool true) := hN.2.2.2.2.2.2.2.1
    have r20 : xa 8 = (.bool true) := hN.2.2.2.2.2.2.2.2.1
    have r21 : xa 9 = (.bool true) := hN.2.2.2.2.2.2.2.2.2.1
    have r22 : (fun (v : Value) (w1 : World) => True) (xa 10) wxa := hN.2.2.2.2.2.2.2.2.2.2.1
    have r23 : (fun (v : Value) (w1 : World) => True) (xa 11) wxa := hN.2.2.2.2.2.2.2.2.2.2.2.1
    have r24 : (fun (v : Value) (w1 : World) => True) (xa 12) wxa := hN.2.2.2.2.2.2.2.2.2.2.2.2.1
    have r25 : (fun (v : Value) (w1 : World) => True) (xa 13) wxa := hN.2.2.2.2.2.2.2.2.2.2.2.2.2.1
    have r26 : (fun (v : Value) (w1 : World) => True) (xa 14) wxa := hN.2.2.2.2.2.2.2.2.2.2.2.2.2.2.1
    have r27 : (fun (v : Value) (w1 : World) => True) (xa 15) wxa := hN.2.2.2.2.2.2.2.2.2.2.2.2.2.2.2.1
    have r28 : (fun (v : Value) (w1 : World) => True) (xa 16) wxa := hN.2.2.2.2.2.2.2.2.2.2.2.2.2.2.2.2.1
    have r29 : (fun (v : Value) (w1 : World) => True) (xa 17) wxa := hN.2.2.2.2.2.2.2.2.2.2.2.2.2.2.2.2.2.1
    have r30 : (fun (v : Value) (w1 : World) => True) (xa 18) wxa := hN.2.2.2.2.2.2.2.2.2.2.2.2.2.2.2.2.2.2.1
    clear hN
    simp only [putAll, Act.put, List.setIfInBounds_toArray, List.set_cons_succ, List.set_cons_zero, r12, r13, r14, r15, r16, r17, r18, r19, r20, r21]
    clear r12 r13 r14 r15 r16 r17 r18 r19 r20 r21
    have oxa := ((Only.refl (fun _ => False) wV).drew).trans oxa
    go_wp2_with fail
    refine (fail_any b r3 false _ (H3.out.still oxa)).mono ?_
    rintro e wf ⟨rfl, hf, of⟩
    have hRf := HR.out (fun q => q = b) wf ((oxa).mono (T := fun q => q = b) (fun _ _ h => h.elim) |>.trans of) (by omega)
    have hOf := (HO.out.trans' (oxa) (fun _ _ h => h.elim)).trans of
    have HRf := Lib.hid hRf; have HOf := Lib.hid hOf; have HF := Lib.hid hf; clear hRf hOf of hf
    go_wp2_with fail
    refine (bad_any b r3 true _ HF.out).mono ?_
    rintro e wg ⟨rfl, rfl⟩
    have h1c : ∀ v ∈ ([.string ByteArray.empty, .string ByteArray.empty, .slice none 0 0, .slice none 0 0] : List Value), v.oneCell' = true := by intro v hv; simp only [List.mem_cons, List.not_mem_nil, or_false] at hv; rcases hv with rfl | rfl | rfl | rfl <;> rfl
    have H1C := Lib.hid h1c; clear h1c
    go_wp2_with ((refine wpList_store_box (o := ⟨none, _, _, _, _, _⟩) rfl 69 (.tmp 2) (.tmp 36) (by rfl) w.heap.size [.string ByteArray.empty, .string ByteArray.empty, .slice none 0 0, .slice none 0 0] [.string ByteArray.empty, .string ByteArray.empty, .slice none 0 0, .slice none 0 0] (by rfl) (by rfl) (HRf.out) rfl (by kernel_rfl) H1C.out ?_; intro w6 h6 o6))
    obtain ⟨z0, z1, z2, z3⟩ := box4 h6
    have hfin : REb w b l β (.returned (.agg #[.string ByteArray.empty, .string ByteArray.empty, .slice none 0 0, .slice none 0 0])) w6 := ⟨[], [], [], [], none, none, 0, 0, r3, true, rfl, by simp, by simp, valAt_leaf (s := []) (by decide) (by decide) (by decide) (by simp), HF.out.past o6 (fun k hk => by omega), HOf.out.trans' o6 (fun k hk e => by omega), (fun h => by cases h), fun _ => HNN.out⟩
    exact bodyPost_ret (v := .agg #[.string ByteArray.empty, .string ByteArray.empty, .slice none 0 0, .slice none 0 0]) (by simp [results, Try.results45, go_sem, z0, z1, z2, z3]) rfl hfin
  have hsc : ∀ w', Only (fun _ => False) wV w' → Calls Try.prog 68 #[.slice ak' ks.length ck'] w' fun e w2 => e = .returned (.bool true) ∧ Only (fun _ => False) w' w2 := fun w' ho => (isSortedS ak' ck' ks w' (HTX.out w' ho) (by have := HK2.out; omega)).mono fun e w2 hh => by
    obtain ⟨⟨bb, h1, h2⟩, h3⟩ := hh
    refine ⟨?_, h3⟩
    rw [h1, h2.2 hso]
  have HSC := Lib.hid hsc; clear hsc
  by_cases hap : ApartS ks ks.length
  rotate_left
  · have hno : β = true ∨ ∀ ty id ks vs r, ¬ DecE l ty id ks vs r := HNO2.out ks vs rfl (fun h => hap h.2)
    have HNN := Lib.hid hno; clear hno hso
    have hcc : ∀ v w', w'.ownsRow wV.heap.size 9 1 v ks.length (ks.map strV) → Calls Try.prog 69 #[v] w' fun e w2 => (∃ a n c, e = .returned (.slice a n c) ∧ n ≤ 1000 ∧ decide (n < ks.length) = true) ∧ Only (fun k => v.ownBlock = some k) w' w2 := fun v w' ho => (compactS v ks w' wV.heap.size ho (by have := HK2.out; omega)).mono fun e w2 hh => by
      obtain ⟨⟨a, n, c, h1, h2, h3⟩, h4⟩ := hh
      refine ⟨⟨a, n, c, h1, by have := HK2.out; omega, ?_⟩, h4⟩
      simp only [decide_eq_true_eq]; have := h3.2 hap; omega
    have HCC := Lib.hid hcc; clear hcc hap
    first | go_region_held3 (fun w' => w'.cell? ⟨w5.heap.size, 0, none⟩ = some (.int .u8 k') ∧ w'.cell? ⟨w5.heap.size, 3, none⟩ = some (.slice ak' ks.length ck')) (first | exact HS2.out _ od | exact HS2.out _ (Only.refl _ _) | exact HS2.out _ o90 | exact HS2.out _ o80 | exact HS2.out _ o70) (first | (go_at_call 68; refine (HSC.out _ od).mono ?_; rintro e w7 ⟨rfl, o7⟩; have o70 := od.trans o7) | (go_at_call 70; refine (cloneS ak' ck' ks _ (HTX.out _ o70) (by have := HK2.out; omega)).mono ?_; rintro e w8 ⟨v8, rfl, h8, o8⟩; have o80 := o70.trans o8; have h80 := own_mono h8 o70.size) | (go_at_call 69; refine (HCC.out v8 _ h80).mono ?_; rintro e w9 ⟨⟨a9, n9, c9, rfl, hn9, hd9⟩, o9⟩; have o90 := o80.trans' o9 (fun k hk e => by have := (own_form h80).choose_spec.choose_spec.2.2.2 k e; omega))) | fail
    go_wp2_with fail
    refine (fail_any b r3 false _ (H3.out.still o90)).mono ?_
    rintro e wf ⟨rfl, hf, of⟩
    have hRf := HR.out (fun q => q = b) wf ((o90).mono (T := fun q => q = b) (fun _ _ h => h.elim) |>.trans of) (by omega)
    have hOf := (HO.out.trans' (o90) (fun _ _ h => h.elim)).trans of
    have HRf := Lib.hid hRf; have HOf := Lib.hid hOf; have HF := Lib.hid hf; clear hRf hOf of hf
    go_wp2_with fail
    refine (bad_any b r3 true _ HF.out).mono ?_
    rintro e wg ⟨rfl, rfl⟩
    have h1c : ∀ v ∈ ([.string ByteArray.empty, .string ByteArray.empty, .slice none 0 0, .slice none 0 0] : List Value), v.oneCell' = true := by intro v hv; simp only [List.mem_cons, List.not_mem_nil, or_false] at hv; rcases hv with rfl | rfl | rfl | rfl <;> rfl
    have H1C := Lib.hid h1c; clear h1c
    go_wp2_with ((refine wpList_store_box (o := ⟨none, _, _, _, _, _⟩) rfl 69 (.tmp 2) (.tmp 36) (by rfl) w.heap.size [.string ByteArray.empty, .string ByteArray.empty, .slice none 0 0, .slice none 0 0] [.string ByteArray.empty, .string ByteArray.empty, .slice none 0 0, .slice none 0 0] (by rfl) (by rfl) (HRf.out) rfl (by kernel_rfl) H1C.out ?_; intro w6 h6 o6))
    obtain ⟨z0, z1, z2, z3⟩ := box4 h6
    have hfin : REb w b l β (.returned (.agg #[.string ByteArray.empty, .string ByteArray.empty, .slice none 0 0, .slice none 0 0])) w6 := ⟨[], [], [], [], none, none, 0, 0, r3, true, rfl, by simp, by simp, valAt_leaf (s := []) (by decide) (by decide) (by decide) (by simp), HF.out.past o6 (fun k hk => by omega), HOf.out.trans' o6 (fun k hk e => by omega), (fun h => by cases h), fun _ => HNN.out⟩
    exact bodyPost_ret (v := .agg #[.string ByteArray.empty, .string ByteArray.empty, .slice none 0 0, .slice none 0 0]) (by simp [results, Try.results45, go_sem, z0, z1, z2, z3]) rfl hfin
  have HSO := Lib.hid hso; clear hso
  have hcc : ∀ v w', w'.ownsRow wV.heap.size 9 1 v ks.length (ks.map strV) → Calls Try.prog 69 #[v] w' fun e w2 => (∃ a n c, e = .returned (.slice a n c) ∧ n ≤ 1000 ∧ decide (n < ks.length) = false) ∧ Only (fun k => v.ownBlock = some k) w' w2 := fun v w' ho => (compactS v ks w' wV.heap.size ho (by have := HK2.out; omega)).mono fun e w2 hh => by
    obtain ⟨⟨a, n, c, h1, h2, h3⟩, h4⟩ := hh
    refine ⟨⟨a, n, c, h1, by have := HK2.out; omega, ?_⟩, h4⟩
    simp only [decide_eq_false_iff_not]; intro hlt; exact (h3.1 hlt) hap
  have HCC := Lib.hid hcc; clear hcc
  have HAP := Lib.hid hap; clear hap
  first | go_region_held3 (fun w' => w'.cell? ⟨w5.heap.size, 0, none⟩ = some (.int .u8 k') ∧ w'.cell? ⟨w5.heap.size, 3, none⟩ = some (.slice ak' ks.length ck')) (first | exact HS2.out _ od | exact HS2.out _ (Only.refl _ _) | exact HS2.out _ o90 | exact HS2.out _ o80 | exact HS2.out _ o70) (first | (go_at_call 68; refine (HSC.out _ od).mono ?_; rintro e w7 ⟨rfl, o7⟩; have o70 := od.trans o7) | (go_at_call 70; refine (cloneS ak' ck' ks _ (HTX.out _ o70) (by have := HK2.out; omega)).mono ?_; rintro e w8 ⟨v8, rfl, h8, o8⟩; have o80 := o70.trans o8; have h80 := own_mono h8 o70.size) | (go_at_call 69; refine (HCC.out v8 _ h80).mono ?_; rintro e w9 ⟨⟨a9, n9, c9, rfl, hn9, hd9⟩, o9⟩; have o90 := o80.trans' o9 (fun k hk e => by have := (own_form h80).choose_spec.choose_spec.2.2.2 k e; omega))) | fail
  have h9 := H3.out.still o90
  have hR9 := HR.out _ w9 o90 (fun h => h)
  have hX9 := HX.out _ w9 o90 (fun h => h)
  have hV9 := HS2.out _ o90
  have hv9 := HVAL.out _ o90
  have hO9 := HO.out.trans' o90 (fun _ _ h => h.elim)
  have c94 := (cell_only o90 (a := ⟨w5.heap.size, 4, none⟩) HVLT.out (fun h => h)).trans c4
  have hfz : ∀ o, w9.frozen? ⟨w3.heap.size, o, none⟩ = false := fun o => by simp [World.frozen?, hX9]
  have hlt : w3.heap.size < w9.heap.size := (Array.getElem?_eq_some_iff.1 hX9).1
  have H9 := Lib.hid h9; have HR9 := Lib.hid hR9; have HX9 := Lib.hid hX9; have HV9 := Lib.hid hv9; have HO9 := Lib.hid hO9; clear h9 hR9 hv9 hO9 hX9 c0 c1 c2 c3 c4
  obtain ⟨c0, c3⟩ := hV9
  clear o90 o80 o70 h80 h8 o8 o7 o9 hn9
  go_wp2_with fail
  refine (bad_any b r3 false _ H9.out).mono ?_
  rintro e wg ⟨rfl, rfl⟩
  go_upto_region 7 with (fail)
  have h5lt : w5.heap.size < w9.heap.size := cell_lt c3
  have hcs : ∀ w', Only (fun q => q = w3.heap.size) w9 w' → w'.cell? ⟨w5.heap.size, 3, none⟩ = some (.slice ak' ks.length ck') ∧ w'.cell? ⟨w5.heap.size, 4, none⟩ = some (.slice av' vs.length cv') := fun w' ho => ⟨(cell_only ho (a := ⟨w5.heap.size, 3, none⟩) h5lt (by have := HX3.out; show ¬ w5.heap.size = w3.heap.size; omega)).trans c3, (cell_only ho (a := ⟨w5.heap.size, 4, none⟩) h5lt (by have := HX3.out; show ¬ w5.heap.size = w3.heap.size; omega)).trans c94⟩
  have HCS := Lib.hid hcs; clear hcs c0 c3 c94 hfz
  refine wp_region_stepsM 7 (by kernel_rfl) rfl (by kernel_rfl) [some 37, some 38, some 39, some 40, some 41, none, some 42] rfl rfl 5 8 (fun q => q = w3.heap.size) (fun _ => False) [6, 7] (by kernel_rfl) [0, 1, 4] (by kernel_rfl) (by decide) (by decide) (.inl (by decide)) [(fun v _ => v = (.pointer (some ⟨w5.heap.size, 3, none⟩))), (fun v _ => v = (.slice ak' ks.length ck')), (fun v _ => v = (.pointer (some ⟨w5.heap.size, 4, none⟩))), (fun v _ => v = (.slice av' vs.length cv')), (fun v _ => v = (.pointer (some ⟨w3.heap.size, 2, none⟩))), (fun v w1 => w1.heap[w3.heap.size]? = some (.cells #[.string ⟨ty.toArray⟩, .string ⟨id.toArray⟩, .slice ak' ks.length ck', .slice none 0 0] 69 (0, 0))), (fun v _ => v = (.pointer (some ⟨w3.heap.size, 3, none⟩)))] rfl ⟨?_, ?_, ?_, ?_, ?_, ?_, ?_, trivial⟩ _ rfl ⟨?_, ?_, ?_, ?_, ?_, ?_, ?_, trivial⟩ ?_
  · exact Stable.is _ _
  · exact Stable.is _ _
  · exact Stable.is _ _
  · exact Stable.is _ _
  · exact Stable.is _ _
  · intro v w1 w2 h ho
    have ho : Only (fun _ => False) w1 w2 := ho
    exact (by rw [ho.block _ (Array.getElem?_eq_some_iff.1 h).1 (fun h => h)]; exact h)
  · exact Stable.is _ _
  · intro x wx ox hN TT HTT
    have ox : Only (fun _ => False) _ wx := ox
    clear hN
    unfold StepTo
    simp only [putAll, Act.put, List.setIfInBounds_toArray, List.set_cons_succ, List.set_cons_zero]
    go_wp2_with fail
    exact ⟨rfl, _, rfl, HTT.out _ _ (rfl) (Only.refl _ _)⟩
  · intro x wx ox hN TT HTT
    have ox : Only (fun _ => False) _ wx := ox
    have r37 : x 0 = (.pointer (some ⟨w5.heap.size, 3, none⟩)) := hN.1 rfl
    clear hN
    unfold StepTo
    simp only [putAll, Act.put, List.setIfInBounds_toArray, List.set_cons_succ, List.set_cons_zero, r37]
    clear r37
    obtain ⟨c3, c4⟩ := HCS.out wx ((((Only.refl _ w9).drew).trans' ox (fun q _ h => h.elim)))
    go_wp2_with fail
    exact ⟨rfl, _, rfl, HTT.out _ _ (rfl) (Only.refl _ _)⟩
  · intro x wx ox hN TT HTT
    have ox : Only (fun q => (fun q => q = w3.heap.size) q ∨ (fun _ => False) q) _ wx := ox
    clear hN
    unfold StepTo
    simp only [putAll, Act.put, List.setIfInBounds_toArray, List.set_cons_succ, List.set_cons_zero]
    go_wp2_with fail
    exact ⟨rfl, _, rfl, HTT.out _ _ (rfl) (Only.refl _ _)⟩
  · intro x wx ox hN TT HTT
    have ox : Only (fun q => (fun q => q = w3.heap.size) q ∨ (fun _ => False) q) _ wx := ox
    have r39 : x 2 = (.pointer (some ⟨w5.heap.size, 4, none⟩)) := hN.1 rfl
    clear hN
    unfold StepTo
    simp only [putAll, Act.put, List.setIfInBounds_toArray, List.set_cons_succ, List.set_cons_zero, r39]
    clear r39
    obtain ⟨c3, c4⟩ := HCS.out wx ((((Only.refl _ w9).drew).trans' ox (fun q _ h => h.elim (fun e => e) False.elim)))
    go_wp2_with fail
    exact ⟨rfl, _, rfl, HTT.out _ _ (rfl) (Only.refl _ _)⟩
  · intro x wx ox hN TT HTT
    have ox : Only (fun _ => False) _ wx := ox
    have r37 : x 0 = (.pointer (some ⟨w5.heap.size, 3, none⟩)) := hN.1 rfl
    have r38 : x 1 = (.slice ak' ks.length ck') := hN.2.1 rfl
    clear hN
    unfold StepTo
    simp only [putAll, Act.put, List.setIfInBounds_toArray, List.set_cons_succ, List.set_cons_zero, r37, r38]
    clear r37 r38
    go_wp2_with fail
    exact ⟨rfl, _, rfl, HTT.out _ _ (rfl) (Only.refl _ _)⟩
  · intro x wx ox hN TT HTT
    have ox : Only (fun _ => False) _ wx := ox
    have r41 : x 4 = (.pointer (some ⟨w3.heap.size, 2, none⟩)) := hN.1 rfl
    have r38 : x 1 = (.slice ak' ks.length ck') := hN.2.1 rfl
    have r37 : x 0 = (.pointer (some ⟨w5.heap.size, 3, none⟩)) := hN.2.2.1 rfl
    clear hN
    unfold StepTo
    simp only [putAll, Act.put, List.setIfInBounds_toArray, List.set_cons_succ, List.set_cons_zero, r41, r38, r37]
    clear r41 r38 r37
    have hX := (ox.block _ (by exact hlt) (fun h => h)).trans HX9.out
    have hfz : wx.frozen? ⟨w3.heap.size, 2, none⟩ = false := by simp [World.frozen?, hX]
    have hc : wx.cell? ⟨w3.heap.size, 2, none⟩ = some (.slice none 0 0) := by simp [World.cell?, hX]
    have hX2 := heap_set (o := 2) hX (.slice ak' ks.length ck')
    have hX2 : (wx.setCell ⟨w3.heap.size, 2, none⟩ (.slice ak' ks.length ck')).heap[w3.heap.size]? = some (.cells #[.string ⟨ty.toArray⟩, .string ⟨id.toArray⟩, .slice ak' ks.length ck', .slice none 0 0] 69 (0, 0)) := by simpa using hX2
    have o2 := (Only.refl (fun q => q = w3.heap.size) wx).setCell (p := ⟨w3.heap.size, 2, none⟩) (.inl rfl) (.slice ak' ks.length ck')
    have HX2 := Lib.hid hX2; have OO := Lib.hid o2; clear hX2 o2 hX
    go_wp2_with fail
    exact ⟨rfl, undef, rfl, HTT.out undef _ HX2.out OO.out⟩
  · intro x wx ox hN TT HTT
    have ox : Only (fun q => (fun q => q = w3.heap.size) q ∨ (fun _ => False) q) _ wx := ox
    have r37 : x 0 = (.pointer (some ⟨w5.heap.size, 3, none⟩)) := hN.1 rfl
    have r38 : x 1 = (.slice ak' ks.length ck') := hN.2.1 rfl
    have r39 : x 2 = (.pointer (some ⟨w5.heap.size, 4, none⟩)) := hN.2.2.1 rfl
    have r40 : x 3 = (.slice av' vs.length cv') := hN.2.2.2.1 rfl
    have r41 : x 4 = (.pointer (some ⟨w3.heap.size, 2, none⟩)) := hN.2.2.2.2.1 rfl
    have rN : (fun (v : Value) (w1 : World) => w1.heap[w3.heap.size]? = some (.cells #[.string ⟨ty.toArray⟩, .string ⟨id.toArray⟩, .slice ak' ks.length ck', .slice none 0 0] 69 (0, 0))) (x 5) wx := hN.2.2.2.2.2.1 rfl
    clear hN
    unfold StepTo
    simp only [putAll, Act.put, List.setIfInBounds_toArray, List.set_cons_succ, List.set_cons_zero, r37, r38, r39, r40, r41]
    clear r37 r38 r39 r40 r41
    go_wp2_with fail
    exact ⟨rfl, _, rfl, HTT.out _ _ (rfl) (Only.refl _ _)⟩
  intro xb wxb oxb hN
  have oxb : Only (fun q => (fun q => q = w3.heap.size) q ∨ (fun _ => False) q) _ wxb := oxb
  have r37 : xb 0 = (.pointer (some ⟨w5.heap.size, 3, none⟩)) := hN.1
  have r38 : xb 1 = (.slice ak' ks.length ck') := hN.2.1
  have r39 : xb 2 = (.pointer (some ⟨w5.heap.size, 4, none⟩)) := hN.2.2.1
  have r40 : xb 3 = (.slice av' vs.length cv') := hN.2.2.2.1
  have r41 : xb 4 = (.pointer (some ⟨w3.heap.size, 2, none⟩)) := hN.2.2.2.2.1
  have rN : (fun (v : Value) (w1 : World) => w1.heap[w3.heap.size]? = some (.cells #[.string ⟨ty.toArray⟩, .string ⟨id.toArray⟩, .slice ak' ks.length ck', .slice none 0 0] 69 (0, 0))) (xb 5) wxb := hN.2.2.2.2.2.1
  have r42 : xb 6 = (.pointer (some ⟨w3.heap.size, 3, none⟩)) := hN.2.2.2.2.2.2.1
  clear hN
  simp only [putAll, Act.put, List.setIfInBounds_toArray, List.set_cons_succ, List.set_cons_zero, r37, r38, r39, r40, r41, r42]
  clear r37 r38 r39 r40 r41 r42
  have hlb : w3.heap.size < wxb.heap.size := (Array.getElem?_eq_some_iff.1 rN).1
  have hfz3 : wxb.frozen? ⟨w3.heap.size, 3, none⟩ = false := by simp [World.frozen?, rN]
  have hc3 : wxb.cell? ⟨w3.heap.size, 3, none⟩ = some (.slice none 0 0) := by simp [World.cell?, rN]
  have hX3 := heap_set (o := 3) rN (.slice av' vs.length cv')
  have hX3 : (wxb.setCell ⟨w3.heap.size, 3, none⟩ (.slice av' vs.length cv')).heap[w3.heap.size]? = some (.cells #[.string ⟨ty.toArray⟩, .string ⟨id.toArray⟩, .slice ak' ks.length ck', .slice av' vs.length cv'] 69 (0, 0)) := by simpa using hX3
  have o3' := (Only.refl (fun q => q = w3.heap.size) wxb).setCell (p := ⟨w3.heap.size, 3, none⟩) (.inl rfl) (.slice av' vs.length cv')
  have oAll : Only (fun q => q = w3.heap.size) w9 (wxb.setCell ⟨w3.heap.size, 3, none⟩ (.slice av' vs.length cv')) := (((Only.refl _ w9).drew).trans' oxb (fun q _ h => h.elim (fun e => e) False.elim)).trans o3'
  have hRd := H9.out.past oAll (fun k hk => by have := HSW.out; omega)
  have hRr := (oAll.block w.heap.size (Array.getElem?_eq_some_iff.1 HR9.out).1 (by have := HSW.out; omega)).trans HR9.out
  have hOo := HO9.out.trans' oAll (fun k hk e => by have := HSW.out; omega)
  have hVv := obj_cells (valAt_only oAll (fun q hq hk => by omega) _ _ HV9.out)
  obtain ⟨z0, z1, z2, z3⟩ := box4 hX3
  have HRd := Lib.hid hRd; have HRr := Lib.hid hRr; have HOo := Lib.hid hOo; have HVv := Lib.hid hVv; clear hRd hRr hOo hVv hX3 o3' oAll rN oxb
  have h1c : ∀ v ∈ ([.string ⟨ty.toArray⟩, .string ⟨id.toArray⟩, .slice ak' ks.length ck', .slice av' vs.length cv'] : List Value), v.oneCell' = true := by intro v hv; simp only [List.mem_cons, List.not_mem_nil, or_false] at hv; rcases hv with rfl | rfl | rfl | rfl <;> rfl
  have H1C := Lib.hid h1c; clear h1c
  go_wp2_with ((refine wpList_store_box (o := ⟨none, _, _, _, _, _⟩) rfl 69 (.tmp 2) (.tmp 43) (by rfl) w.heap.size [.string ByteArray.empty, .string ByteArray.empty, .slice none 0 0, .slice none 0 0] [.string ⟨ty.toArray⟩, .string ⟨id.toArray⟩, .slice ak' ks.length ck', .slice av' vs.length cv'] (by rfl) (by rfl) (HRr.out) rfl (by kernel_rfl) H1C.out ?_; intro w6 h6 o6; clear z0 z1 z2 z3))
  obtain ⟨z0, z1, z2, z3⟩ := box4 h6
  have hfin : REb w b l β (.returned (.agg #[.string ⟨ty.toArray⟩, .string ⟨id.toArray⟩, .slice ak' ks.length ck', .slice av' vs.length cv'])) w6 := ⟨ty, id, ks, vs, ak', av', ck', cv', r3, false, rfl, HTY.out, HID.out, valAt_weaken (fun q _ hq => by have := HSW.out; omega) _ _ (valAt_only o6 (fun q hq hk => by have := HSW.out; omega) _ _ HVv.out), HRd.out.past o6 (fun k hk => by omega), HOo.out.trans' o6 (fun k hk e => by omega), fun _ => HDONE.out ks vs (by first | rfl | trivial) rfl ⟨HSO.out, HAP.out⟩, fun h => by cases h⟩
  exact bodyPost_ret (v := .agg #[.string ⟨ty.toArray⟩, .string ⟨id.toArray⟩, .slice ak' ks.length ck', .slice av' vs.length cv']) (by simp [results, Try.results45, go_sem, z0, z1, z2, z3]) rfl hfin
end Go.Proofs.Ytoojnpafcdaflaa
