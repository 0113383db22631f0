/- The reader's value: what is known of it, and the plain part; the reader's other calls, whether it has a fault or not. -/
import Derived.Test.YtoojnpafcdaflaaDec
import Derived.Test.YtoojnpafcdaflaaOwn
namespace Go.Proofs.Ytoojnpafcdaflaa
open Go Go.RowKit
set_option linter.unusedVariables false
set_option linter.unusedSimpArgs false
set_option maxRecDepth 100000

/-! ### The reader's calls, whether it has a fault or not -/
def RUb (w : World) (b most : Nat) (l : List UInt8) (β : Bool) (e : Ending) (w' : World) : Prop :=
  ∃ (x : Nat) (r : List UInt8) (β' : Bool), e = .returned (.int .u64 (x : Int)) ∧ x ≤ most ∧ ReaderAt w' b r β' ∧ Only (fun k => k = b) w w' ∧ (β' = false → β = false ∧ decU most l = some (x, r)) ∧ (β' = true → x = 0 ∧ (β = true ∨ decU most l = none))
theorem ruint_b (b most : Nat) (l : List UInt8) (β : Bool) (w : World) (h : ReaderAt w b l β) (hm : most ≤ 18446744073709551615) : Calls Try.prog 32 #[.pointer (some ⟨b, 0, none⟩), .int .u64 most] w (RUb w b most l β) := by
  cases β with
  | false =>
    refine (ruint_any b l most w h (by omega)).mono ?_
    rintro e w2 (⟨x, r, hd, rfl, h2, o2⟩ | ⟨hd, rfl, h2, o2⟩)
    · exact ⟨x, r, false, rfl, (decU_le hd).1, h2, o2, fun _ => ⟨rfl, hd⟩, fun h => by cases h⟩
    · exact ⟨0, l, true, rfl, Nat.zero_le _, h2, o2, (fun h => by cases h), fun _ => ⟨rfl, .inr hd⟩⟩
  | true =>
    refine (ruint_bad b l most w h).mono ?_
    rintro e w2 ⟨rfl, rfl⟩
    exact ⟨0, l, true, rfl, Nat.zero_le _, h, Only.refl _ _, (fun h => by cases h), fun _ => ⟨rfl, .inl rfl⟩⟩
def RIb (w : World) (b : Nat) (l : List UInt8) (β : Bool) (e : Ending) (w' : World) : Prop :=
  ∃ (x : Int) (r : List UInt8) (β' : Bool), e = .returned (.int .i64 x) ∧ (-9223372036854775808 ≤ x ∧ x ≤ 9223372036854775807) ∧ ReaderAt w' b r β' ∧ Only (fun k => k = b) w w' ∧ (β' = false → β = false ∧ decI l = some (x, r)) ∧ (β' = true → x = 0 ∧ (β = true ∨ decI l = none))
theorem rint_bad (b : Nat) (l : List UInt8) (w : World) (h : ReaderAt w b l true) : Calls Try.prog 33 #[.pointer (some ⟨b, 0, none⟩)] w fun e w' => e = .returned (.int .i64 0) ∧ w = w' := by
  have hand := and1_64 0 (by decide)
  have hx2 := xor_00 0 (by decide)
  simp at hand hx2
  go_enter Try.func33, Try.ntmps33
  go_wp2_with fail
  refine (ruint_bad b l _ _ h).mono ?_
  rintro e w2 ⟨rfl, rfl⟩
  go_wp2
  go_ret
  exact ⟨rfl, rfl⟩
theorem rint_b (b : Nat) (l : List UInt8) (β : Bool) (w : World) (h : ReaderAt w b l β) : Calls Try.prog 33 #[.pointer (some ⟨b, 0, none⟩)] w (RIb w b l β) := by
  cases β with
  | false =>
    refine (rint_any b l w h).mono ?_
    rintro e w2 (⟨x, r, hd, rfl, h2, o2⟩ | ⟨hd, rfl, h2, o2⟩)
    · exact ⟨x, r, false, rfl, (decI_canon hd).2, h2, o2, fun _ => ⟨rfl, hd⟩, fun h => by cases h⟩
    · exact ⟨0, l, true, rfl, by omega, h2, o2, (fun h => by cases h), fun _ => ⟨rfl, .inr hd⟩⟩
  | true =>
    refine (rint_bad b l w h).mono ?_
    rintro e w2 ⟨rfl, rfl⟩
    exact ⟨0, l, true, rfl, by omega, h, Only.refl _ _, (fun h => by cases h), fun _ => ⟨rfl, .inl rfl⟩⟩
def RTb (w : World) (b most : Nat) (l : List UInt8) (β : Bool) (e : Ending) (w' : World) : Prop :=
  ∃ (s r : List UInt8) (β' : Bool), e = .returned (.string ⟨s.toArray⟩) ∧ s.length ≤ most ∧ ReaderAt w' b r β' ∧ Only (fun k => k = b) w w' ∧ (β' = false → β = false ∧ decT most l = some (s, r)) ∧ (β' = true → s = [] ∧ (β = true ∨ decT most l = none))
theorem rtext_bad (b : Nat) (l : List UInt8) (most : Int) (w : World) (h : ReaderAt w b l true) : Calls Try.prog 34 #[.pointer (some ⟨b, 0, none⟩), .int .i64 most] w fun e w' => e = .returned (.string ByteArray.empty) ∧ ReaderAt w' b l true ∧ Only (fun k => k = b) w w' := by
  obtain ⟨a, c, c0, c1, fz, g1, g2, _, _⟩ := h.cells
  have H := Lib.hid h; clear h
  go_enter Try.func34, Try.ntmps34
  go_wp2_with fail
  all_goals
    refine (ruint_bad b l _ _ H.out).mono ?_
    rintro e w2 ⟨rfl, rfl⟩
    go_wp2_with fail
    refine (fail_any b l true _ H.out).mono ?_
    rintro e w3 ⟨rfl, h3, o3⟩
    have hpost : ∀ e', e' = Ending.returned (.string ByteArray.empty) → (e' = .returned (.string ByteArray.empty) ∧ ReaderAt w3 b l true ∧ Only (fun k => k = b) w w3) := fun e' he => ⟨he, h3, o3⟩
    have HP := Lib.hid hpost; clear h3 o3 c0 c1 fz hpost
    go_wp2
    go_ret
    exact HP.out _ rfl
theorem rtext_b (b most : Nat) (l : List UInt8) (β : Bool) (w : World) (h : ReaderAt w b l β) (hm : most ≤ 9223372036854775807) : Calls Try.prog 34 #[.pointer (some ⟨b, 0, none⟩), .int .i64 most] w (RTb w b most l β) := by
  cases β with
  | false =>
    refine (rtext_any b l most w h (by omega)).mono ?_
    have hmx : (max (most : Int) 0).toNat = most := by omega
    rw [hmx]
    rintro e w2 (⟨s, r, hd, rfl, h2, o2⟩ | ⟨hd, rfl, ⟨l', h2⟩, o2⟩)
    · exact ⟨s, r, false, rfl, (decT_canon hd).2, h2, o2, fun _ => ⟨rfl, hd⟩, fun h => by cases h⟩
    · exact ⟨[], l', true, rfl, Nat.zero_le _, h2, o2, (fun h => by cases h), fun _ => ⟨rfl, .inr hd⟩⟩
  | true =>
    refine (rtext_bad b l most w h).mono ?_
    rintro e w2 ⟨rfl, h2, o2⟩
    exact ⟨[], l, true, rfl, Nat.zero_le _, h2, o2, (fun h => by cases h), fun _ => ⟨rfl, .inl rfl⟩⟩

/-! ### Rows of values that the call makes -/
mutual
theorem valAt_weaken {w : World} {G G' : Nat → Prop} (h : ∀ q, q < w.heap.size → G q → G' q) : ∀ (t : VT) (cs : List Value), ValAt w G t cs → ValAt w G' t cs
  | .mk k n s ks vs, cs, hv => by
    simp only [ValAt] at hv ⊢
    obtain ⟨ak, ck, av, cv, e, h1, h2, h3, h4, h5, h6, h7⟩ := hv
    refine ⟨ak, ck, av, cv, e, h1, h2, h3, h4, h5, fun hp => ?_, fun hp => ?_⟩
    · obtain ⟨b, off, e, hg, hb, hr⟩ := h6 hp
      exact ⟨b, off, e, h b hb hg, hb, hr⟩
    · obtain ⟨b, off, e, hg, hb, hr⟩ := h7 hp
      exact ⟨b, off, e, h b hb hg, hb, valsAt_weaken h vs b off hr⟩
theorem valsAt_weaken {w : World} {G G' : Nat → Prop} (h : ∀ q, q < w.heap.size → G q → G' q) : ∀ (vs : List VT) (b off : Nat), ValsAt w G vs b off → ValsAt w G' vs b off
  | [], _, _, _ => trivial
  | v :: vs, b, off, hv => by
    simp only [ValsAt] at hv ⊢
    obtain ⟨⟨cs, h1, h2, h3⟩, h4⟩ := hv
    exact ⟨⟨cs, h1, h2, valAt_weaken h v cs h3⟩, valsAt_weaken h vs b (off + 5) h4⟩
end
def Chunks (w : World) (G : Nat → Prop) : List VT → List Value → Prop
  | [], xs => xs = []
  | v :: vs, xs => ∃ cs rest, xs = cs ++ rest ∧ cs.length = 5 ∧ ValAt w G v cs ∧ Chunks w G vs rest
theorem Chunks.only {S G : Nat → Prop} {w w' : World} (ho : Only S w w') (hS : ∀ k, G k → ¬ S k) : ∀ {vs : List VT} {xs : List Value}, Chunks w G vs xs → Chunks w' G vs xs
  | [], _, h => h
  | v :: vs, _, ⟨cs, rest, e, h1, h2, h3⟩ => ⟨cs, rest, e, h1, valAt_only ho hS v cs h2, Chunks.only ho hS h3⟩
theorem Chunks.weaken {w : World} {G G' : Nat → Prop} (h : ∀ q, q < w.heap.size → G q → G' q) : ∀ {vs : List VT} {xs : List Value}, Chunks w G vs xs → Chunks w G' vs xs
  | [], _, hc => hc
  | v :: vs, _, ⟨cs, rest, e, h1, h2, h3⟩ => ⟨cs, rest, e, h1, valAt_weaken h v cs h2, Chunks.weaken h h3⟩
theorem Chunks.snoc {w : World} {G : Nat → Prop} {v : VT} {cs : List Value} (hl : cs.length = 5) (hv : ValAt w G v cs) : ∀ {vs : List VT} {xs : List Value}, Chunks w G vs xs → Chunks w G (vs ++ [v]) (xs ++ cs)
  | [], _, rfl => ⟨cs, [], by simp, hl, hv, rfl⟩
  | u :: vs, _, ⟨ds, rest, e, h1, h2, h3⟩ => ⟨ds, rest ++ cs, by rw [e, List.append_assoc], h1, h2, Chunks.snoc hl hv h3⟩
theorem Chunks.vals {w : World} {G : Nat → Prop} {b : Nat} : ∀ {vs : List VT} {xs : List Value} {off : Nat}, Chunks w G vs xs → w.rangeAt b off xs → ValsAt w G vs b off
  | [], _, _, _, _ => trivial
  | v :: vs, _, off, ⟨cs, rest, e, h1, h2, h3⟩, hr => by
    subst e
    refine ⟨⟨cs, h1, fun j u hu => hr j u (by rw [List.getElem?_append_left (by have := (List.getElem?_eq_some_iff.1 hu).1; omega)]; exact hu), h2⟩, Chunks.vals h3 (fun j u hu => ?_)⟩
    have := hr (5 + j) u (by rw [List.getElem?_append_right (by omega), h1]; simpa using hu)
    rw [← Nat.add_assoc] at this; exact this
/-- A value out of its rows. -/
theorem valAt_rows {w : World} {B : Nat} {k : Nat} {eK eL : TypeId} {vK vL : Value} {ks : List (List UInt8)} {vs : List VT} {xs : List Value} {G : Nat → Prop} (hk : k < 256) (h1 : w.ownsRow B eK 1 vK ks.length (ks.map strV)) (h2 : w.ownsRow B eL 5 vL vs.length xs) (h3 : Chunks w G vs xs) (hG : ∀ q, G q → B ≤ q) :
    ValAt w (fun q => B ≤ q) (.mk k 0 [] ks vs) [.int .u8 k, .int .i64 0, .string ByteArray.empty, vK, vL] := by
  obtain ⟨ak, ck, e1, f1, f2, f3⟩ := own_form h1
  obtain ⟨al, cl, e2, g1, g2, g3⟩ := own_form h2
  simp only [ValAt]
  refine ⟨ak, ck, al, cl, by rw [e1, e2]; rfl, hk, by omega, by simp, ⟨f1, by unfold maxLen at f2; omega⟩, ⟨g1, by unfold maxLen at g2; omega⟩, fun hp => ?_, fun hp => ?_⟩
  · obtain ⟨g, c, e, hg, hb, hr⟩ := own_range h1 hp
    rw [e1] at e; injection e with e _ _
    exact ⟨g, 0, e, hg, hb, hr⟩
  · obtain ⟨g, c, e, hg, hb, hr⟩ := own_range h2 hp
    rw [e2] at e; injection e with e _ _
    exact ⟨g, 0, e, hg, hb, valsAt_weaken (fun q _ h => hG q h) vs g 0 (h3.vals hr)⟩
theorem valAt_leaf {w : World} {G : Nat → Prop} {k : Nat} {n : Int} {s : List UInt8} (hk : k < 256) (h0 : -9223372036854775808 ≤ n) (h1 : n ≤ 9223372036854775807) (hs : s.length ≤ 1000) :
    ValAt w G (.mk k n s [] []) [.int .u8 k, .int .i64 n, .string ⟨s.toArray⟩, .slice none 0 0, .slice none 0 0] := by
  simp only [ValAt]
  exact ⟨none, 0, none, 0, rfl, hk, ⟨h0, h1⟩, by omega, by simp, by simp, (fun h => absurd h (by simp)), fun h => absurd h (by simp)⟩

/-! ### What the call leaves -/
def RVb (w : World) (b f : Nat) (l : List UInt8) (β : Bool) (e : Ending) (w' : World) : Prop :=
  ∃ (t : VT) (cs : List Value) (r : List UInt8) (β' : Bool), e = .returned (.agg cs.toArray) ∧ ValAt w' (fun q => w.heap.size ≤ q) t cs ∧ ReaderAt w' b r β' ∧ Only (fun k => k = b) w w' ∧ (β' = false → β = false ∧ decV f l = some (t, r)) ∧ (β' = true → β = true ∨ decV f l = none)
/-- Behind the kind, and the look at the depth. -/
structure Kinded (f k : Nat) (l r : List UInt8) (β β2 : Bool) : Prop where
  good : β2 = false → β = false ∧ ∃ f', f = f' + 1 ∧ decU 8 l = some (k, r)
  bad : β2 = true → β = true ∨ decV f l = none
theorem Kinded.of {f k : Nat} {l r : List UInt8} {β β1 : Bool} (h1 : β1 = false → β = false ∧ decU 8 l = some (k, r)) (h2 : β1 = true → k = 0 ∧ (β = true ∨ decU 8 l = none)) : Kinded (f + 1) k l r β β1 :=
  ⟨fun h => ⟨(h1 h).1, f, rfl, (h1 h).2⟩, fun h => (h2 h).2.imp id (fun h => by simp only [decV]; rw [h])⟩
theorem Kinded.zero (k : Nat) (l r : List UInt8) (β : Bool) : Kinded 0 k l r β true := ⟨(fun h => by cases h), fun _ => .inr rfl⟩
theorem Kinded.leaf {f : Nat} {l r : List UInt8} {β β2 : Bool} (h : Kinded f 0 l r β β2) : (β2 = false → β = false ∧ decV f l = some (.mk 0 0 [] [] [], r)) ∧ (β2 = true → β = true ∨ decV f l = none) :=
  ⟨fun hb => by
    obtain ⟨h1, f', rfl, h2⟩ := h.good hb
    refine ⟨h1, ?_⟩
    simp only [decV]
    rw [h2]
    simp, h.bad⟩
theorem Kinded.int {f : Nat} {l r r' : List UInt8} {β β2 β3 : Bool} {x : Int} (h : Kinded f 1 l r β β2) (h1 : β3 = false → β2 = false ∧ decI r = some (x, r')) (h2 : β3 = true → x = 0 ∧ (β2 = true ∨ decI r = none)) :
    (β3 = false → β = false ∧ decV f l = some (.mk 1 x [] [] [], r')) ∧ (β3 = true → β = true ∨ decV f l = none) := by
  refine ⟨fun hb => ?_, fun hb => ?_⟩
  · obtain ⟨hb2, hd⟩ := h1 hb
    obtain ⟨g1, f', rfl, g2⟩ := h.good hb2
    refine ⟨g1, ?_⟩
    simp only [decV]
    rw [g2]
    simp [hd]
  · cases β2 with
    | true => exact h.bad rfl
    | false =>
      obtain ⟨g1, f', rfl, g2⟩ := h.good rfl
      have hn := (h2 hb).2.resolve_left (by simp)
      refine .inr ?_
      simp only [decV]
      rw [g2]
      simp [hn]
theorem Kinded.bool {f : Nat} {l r r' : List UInt8} {β β2 β3 : Bool} {x : Int} (h : Kinded f 3 l r β β2) (h1 : β3 = false → β2 = false ∧ decI r = some (x, r')) (h2 : β3 = true → x = 0 ∧ (β2 = true ∨ decI r = none)) :
    (x = 0 ∨ x = 1 → (β3 = false → β = false ∧ decV f l = some (.mk 3 x [] [] [], r')) ∧ (β3 = true → β = true ∨ decV f l = none)) ∧ (¬ (x = 0 ∨ x = 1) → β = true ∨ decV f l = none) := by
  have hbad : β3 = true → β = true ∨ decV f l = none := fun hb => by
    cases β2 with
    | true => exact h.bad rfl
    | false =>
      obtain ⟨g1, f', rfl, g2⟩ := h.good rfl
      have hn := (h2 hb).2.resolve_left (by simp)
      refine .inr ?_
      simp only [decV]
      rw [g2]
      simp [hn]
  refine ⟨fun hx => ⟨fun hb => ?_, hbad⟩, fun hx => ?_⟩
  · obtain ⟨hb2, hd⟩ := h1 hb
    obtain ⟨g1, f', rfl, g2⟩ := h.good hb2
    refine ⟨g1, ?_⟩
    simp only [decV]
    rw [g2]
    simp [hd, hx]
  · cases β3 with
    | true => exact hbad rfl
    | false =>
      obtain ⟨hb2, hd⟩ := h1 rfl
      obtain ⟨g1, f', rfl, g2⟩ := h.good hb2
      refine .inr ?_
      simp only [decV]
      rw [g2]
      simp [hd, hx]
theorem Kinded.text {f k : Nat} {l r r' s : List UInt8} {β β2 β3 : Bool} (h : Kinded f k l r β β2) (hk : k = 2 ∨ k = 4 ∨ k = 7 ∨ k = 8) (h1 : β3 = false → β2 = false ∧ decT 200 r = some (s, r')) (h2 : β3 = true → s = [] ∧ (β2 = true ∨ decT 200 r = none)) :
    (β3 = false → β = false ∧ decV f l = some (.mk k 0 s [] [], r')) ∧ (β3 = true → β = true ∨ decV f l = none) := by
  refine ⟨fun hb => ?_, fun hb => ?_⟩
  · obtain ⟨hb2, hd⟩ := h1 hb
    obtain ⟨g1, f', rfl, g2⟩ := h.good hb2
    refine ⟨g1, ?_⟩
    simp only [decV]
    rw [g2]
    simp only
    rw [if_neg (by omega), if_neg (by omega), if_pos hk, hd]; rfl
  · cases β2 with
    | true => exact h.bad rfl
    | false =>
      obtain ⟨g1, f', rfl, g2⟩ := h.good rfl
      have hn := (h2 hb).2.resolve_left (by simp)
      refine .inr ?_
      simp only [decV]
      rw [g2]
      simp only
      rw [if_neg (by omega), if_neg (by omega), if_pos hk, hn]; rfl
/-- Behind a list's length, some of its things read: q stood ahead of them. -/
structure Listed (f k n : Nat) (l : List UInt8) (β : Bool) (ks : List (List UInt8)) (vs : List VT) (r : List UInt8) (m : Nat) (β' : Bool) : Prop where
  good : β' = false → β = false ∧ ∃ f', f = f' + 1 ∧ decV f l = (decVs (decV f') (decide (k = 6)) m r).map (fun p => (.mk k 0 [] (ks ++ p.1) (vs ++ p.2.1), p.2.2))
  bad : β' = true → β = true ∨ decV f l = none
theorem Kinded.list {f k n : Nat} {l r r' : List UInt8} {β β2 β3 : Bool} (h : Kinded f k l r β β2) (hk : k = 5 ∨ k = 6) (h1 : β3 = false → β2 = false ∧ decU 200 r = some (n, r')) (h2 : β3 = true → n = 0 ∧ (β2 = true ∨ decU 200 r = none)) : Listed f k n l β [] [] r' n β3 := by
  refine ⟨fun hb => ?_, fun hb => ?_⟩
  · obtain ⟨hb2, hd⟩ := h1 hb
    obtain ⟨g1, f', rfl, g2⟩ := h.good hb2
    refine ⟨g1, f', rfl, ?_⟩
    simp only [decV]
    rw [g2]
    simp only
    rw [if_neg (by omega), if_neg (by omega), if_neg (by omega), if_pos hk, hd]; rfl
  · cases β2 with
    | true => exact h.bad rfl
    | false =>
      obtain ⟨g1, f', rfl, g2⟩ := h.good rfl
      have hn := (h2 hb).2.resolve_left (by simp)
      refine .inr ?_
      simp only [decV]
      rw [g2]
      simp only
      rw [if_neg (by omega), if_neg (by omega), if_neg (by omega), if_pos hk, hn]
theorem Listed.done {f k n : Nat} {l r : List UInt8} {β β' : Bool} {ks : List (List UInt8)} {vs : List VT} (h : Listed f k n l β ks vs r 0 β') : (β' = false → β = false ∧ decV f l = some (.mk k 0 [] ks vs, r)) ∧ (β' = true → β = true ∨ decV f l = none) :=
  ⟨fun hb => by
    obtain ⟨h1, f', rfl, h2⟩ := h.good hb
    refine ⟨h1, ?_⟩
    rw [h2]
    simp [decVs], h.bad⟩
theorem Listed.stop {f k n m : Nat} {l r : List UInt8} {β : Bool} {ks : List (List UInt8)} {vs : List VT} (h : Listed f k n l β ks vs r m true) : ((true : Bool) = false → β = false ∧ decV f l = some (.mk k 0 [] ks vs, r)) ∧ (true = true → β = true ∨ decV f l = none) :=
  ⟨(fun hb => by cases hb), h.bad⟩
/-- One thing more of a list. -/
theorem Listed.next5 {f n m : Nat} {l r r' : List UInt8} {β β' : Bool} {vs : List VT} {t : VT} (h : Listed (f + 1) 5 n l β [] vs r (m + 1) false) (h1 : β' = false → (false : Bool) = false ∧ decV f r = some (t, r')) (h2 : β' = true → (false : Bool) = true ∨ decV f r = none) : Listed (f + 1) 5 n l β [] (vs ++ [t]) r' m β' := by
  obtain ⟨g1, f', e, g2⟩ := h.good rfl
  obtain rfl : f = f' := by omega
  refine ⟨fun hb => ?_, fun hb => ?_⟩
  · refine ⟨g1, f, rfl, ?_⟩
    rw [g2]
    simp only [decVs]
    rw [if_neg (by decide), (h1 hb).2]
    simp only [Option.map_map]
    congr 1
    funext p
    simp
  · have hn := (h2 hb).resolve_left (by simp)
    refine .inr ?_
    rw [g2]
    simp only [decVs]
    rw [if_neg (by decide), hn]; rfl
theorem Listed.next6 {f n m : Nat} {l r r1 r' s : List UInt8} {β β1 β' : Bool} {ks : List (List UInt8)} {vs : List VT} {t : VT} (h : Listed (f + 1) 6 n l β ks vs r (m + 1) false) (k1 : β1 = false → (false : Bool) = false ∧ decT 32 r = some (s, r1)) (k2 : β1 = true → s = [] ∧ ((false : Bool) = true ∨ decT 32 r = none))
    (h1 : β' = false → β1 = false ∧ decV f r1 = some (t, r')) (h2 : β' = true → β1 = true ∨ decV f r1 = none) : Listed (f + 1) 6 n l β (ks ++ [s]) (vs ++ [t]) r' m β' := by
  obtain ⟨g1, f', e, g2⟩ := h.good rfl
  obtain rfl : f = f' := by omega
  refine ⟨fun hb => ?_, fun hb => ?_⟩
  · refine ⟨g1, f, rfl, ?_⟩
    obtain ⟨e1, e2⟩ := h1 hb
    rw [g2]
    simp only [decVs]
    rw [if_pos (by decide), (k1 e1).2]
    simp only
    rw [e2]
    simp only [Option.map_map]
    congr 1
    funext p
    simp
  · refine .inr ?_
    rw [g2]
    simp only [decVs]
    rw [if_pos (by decide)]
    cases β1 with
    | true =>
      rw [(k2 rfl).2.resolve_left (by simp)]; rfl
    | false =>
      rw [(k1 rfl).2]
      simp only
      rw [(h2 hb).resolve_left (by simp)]; rfl
theorem decU_cases (β : Bool) (l : List UInt8) : (β = true ∨ decU 8 l = none ∨ ∃ r, decU 8 l = some (0, r)) ∨ (β = false ∧ ∃ k r, decU 8 l = some (k, r) ∧ k ≤ 8) := by
  cases β with
  | true => exact .inl (.inl rfl)
  | false =>
    cases h : decU 8 l with
    | none => exact .inl (.inr (.inl rfl))
    | some p => exact .inr ⟨rfl, p.1, p.2, rfl, (decU_le h).1⟩
theorem valAt_one {w : World} {G : Nat → Prop} {t : VT} {cs : List Value} (h : ValAt w G t cs) : ∀ u ∈ cs, u.oneCell' = true := by
  obtain ⟨k, n, s, ak, lk, ck, av, lv, cv, rfl⟩ := valAt_form h
  intro v hv
  simp only [List.mem_cons, List.not_mem_nil, or_false] at hv
  rcases hv with rfl | rfl | rfl | rfl | rfl <;> rfl
theorem infoStr : (Try.prog.info? 9).map (fun i => (i.zero, i.size, i.bytes)) = some (some (.string ⟨#[]⟩), 1, 16) := by kernel_rfl
theorem infoVal : (Try.prog.info? 35).map (fun i => (i.zero, i.size, i.bytes)) = some (some (.agg #[.int .u8 0, .int .i64 0, .string ByteArray.empty, .slice none 0 0, .slice none 0 0]), 5, 80) := by kernel_rfl
/-- Ahead of a round of the loop: m things are still to come. -/
def LInv (c f x : Nat) (l : List UInt8) (β : Bool) (b B : Nat) (w0 : World) (m : Nat) (wr : World) : Prop :=
  ∃ (ks : List (List UInt8)) (vs : List VT) (vK vL : Value) (xs : List Value) (G : Nat → Prop) (r : List UInt8) (β' : Bool), wr.heap[B]? = some (.cells #[.int .u8 c, .int .i64 0, .string ByteArray.empty, vK, vL] 35 (0, 0)) ∧
    wr.heap[w0.heap.size]? = some (.cells #[.int .u8 0, .int .i64 0, .string ByteArray.empty, .slice none 0 0, .slice none 0 0] 35 (0, 0)) ∧
    wr.ownsRow (w0.heap.size + 1) 9 1 vK ks.length (ks.map strV) ∧ wr.ownsRow (w0.heap.size + 1) 35 5 vL vs.length xs ∧ Chunks wr G vs xs ∧
    (∀ q, G q → w0.heap.size + 1 ≤ q ∧ q < wr.heap.size ∧ q ≠ B ∧ vK.ownBlock ≠ some q ∧ vL.ownBlock ≠ some q) ∧ (∀ q, vK.ownBlock = some q → q ≠ B ∧ vL.ownBlock ≠ some q) ∧ vL.ownBlock ≠ some B ∧
    ReaderAt wr b r β' ∧ Only (fun k => k = b) w0 wr ∧ Listed f c x l β ks vs r m β' ∧ vs.length + m = x ∧ ks.length = (if c = 6 then vs.length else 0)
end Go.Proofs.Ytoojnpafcdaflaa
