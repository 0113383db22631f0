/- parse.Type: the type from a token on. -/
import Derived.Test.YtgephneppgcnlaaGreatDoorPdA
import Derived.Test.YtgephneppgcnlaaGreatDoorPty
namespace Go.Proofs.YtgephneppgcnlaaGreatDoor
open Go Go.RowKit
set_option linter.unusedVariables false
set_option linter.unusedSimpArgs false

def RdIs {α : Type} (B : Nat) (w' : World) (enc : α → List Cell) (Z : List Value) (p : PR α) (cs : List Value) (c : Nat) (q : List Tok) : Prop := match p with
  | .ok x r => c = 0 ∧ q = r ∧ CellsAt w' (fun k => B ≤ k) (enc x) cs
  | .bad a d => c = d ∧ a = atT q ∧ cs = Z
/-- What parse.Type, parse.Value hand back: P is what is read, from the token i of all on. -/
def RdRes {α : Type} (w : World) (all : List Tok) (enc : α → List Cell) (Z : List Value) (p : PR α) (e : Ending) (w' : World) : Prop :=
  ∃ (cs : List Value) (j c : Nat) (q : List Tok), e = .returned (.tuple #[.agg cs.toArray, .int .i64 (j : Int), .int .i64 (c : Int)]) ∧ Only (fun _ => False) w w' ∧ all.drop j = q ∧ j + q.length = all.length ∧ EndR q ∧ RdIs w.heap.size w' enc Z p cs c q
theorem RdP.apart2 {w : World} {b : Nat} {all r : List Tok} {dp : Int} (h : RdP w b all r dp) {k : Nat} {xs : Array Value} {T : TypeId} (hk : w.heap[k]? = some (.cells xs T (0, 0))) (hx : ∀ (i : Nat) (n : Int) (s : ByteArray), xs[i]? = some (.int .u8 n) → xs[i + 1]? ≠ some (.string s)) {g off n c : Nat} (hc : w.cell? ⟨b, 0, none⟩ = some (.slice (some ⟨g, off, none⟩) n c)) : g ≠ k := by
  obtain ⟨g', off', c', N, t, r', rfl, i, c0, c1, c2, fz, hi, hcp, hN, hcm, a1, a2, -⟩ := h.next
  rw [hc] at c0
  injection c0 with c0; injection c0 with c0 _ _; injection c0 with c0; injection c0 with e1 e2 _
  subst e1
  rintro rfl
  simp only [World.cell?, hk] at a1 a2
  exact hx _ _ _ (by simpa using a1) (by simpa using a2)
theorem RdP.idx {w : World} {b : Nat} {all r : List Tok} {dp : Int} (h : RdP w b all r dp) : ∃ i : Nat, w.cell? ⟨b, 1, none⟩ = some (.int .i64 (i : Int)) ∧ all.drop i = r ∧ i + r.length = all.length := by
  obtain ⟨g, off, c, i, h1, h2, h3, h4, h5⟩ := h.row
  exact ⟨i, by simp [World.cell?, h1], h4, h5⟩
def dfRT (E Rb D A : Nat) : Deferred := { target := Target.fn (Fn.func 82) #[.pointer (some ⟨Rb, 0, none⟩), .pointer (some ⟨A, 0, none⟩), .pointer (some ⟨E, 0, none⟩), .pointer (some ⟨D, 0, none⟩)], args := #[] }
set_option maxRecDepth 100000 in
set_option maxHeartbeats 4000000 in
theorem read1T_ok (E Rb D A b : Nat) (x : Int) (i : Int) (u : FrameMode) (w : World) (hE : w.heap[E]? = some (.cells #[.int .i64 0] 24 (0, 0))) (hR : w.heap[Rb]? = some (.cells #[.pointer (some ⟨b, 0, none⟩)] 103 (0, 0))) (hA : w.heap[A]? = some (.cells #[.int .i64 x] 3 (0, 0)))
    (hi : w.cell? ⟨b, 1, none⟩ = some (.int .i64 i)) (hAE : E ≠ A) :
    CallsD Tryz.prog 82 #[.pointer (some ⟨Rb, 0, none⟩), .pointer (some ⟨A, 0, none⟩), .pointer (some ⟨E, 0, none⟩), .pointer (some ⟨D, 0, none⟩)] u w fun e u' w' => u' = u ∧ e = .returned (.tuple #[]) ∧ w'.heap[A]? = some (.cells #[.int .i64 i] 3 (0, 0)) ∧ Only (fun k => k = A) w w' := by
  obtain ⟨c0, fz0⟩ := box1 hR
  obtain ⟨c1, fz1⟩ := box1 hA
  have hA8 := heap_set (o := 0) hA (.int .i64 i)
  have hA8 : (w.setCell ⟨A, 0, none⟩ (.int .i64 i)).heap[A]? = some (.cells #[.int .i64 i] 3 (0, 0)) := by simpa using hA8
  have hE8 := heap_set_ne (a := ⟨A, 0, none⟩) hE (by show E ≠ A; exact hAE) (.int .i64 i)
  obtain ⟨c2, fz2⟩ := box1 hE8
  have ho : Only (fun k => k = A) w (w.setCell ⟨A, 0, none⟩ (.int .i64 i)) := (Only.refl (fun k => k = A) w).setCell (p := ⟨A, 0, none⟩) (.inl rfl) _
  have HA8 := Lib.hid hA8; have HO := Lib.hid ho; have C2 := Lib.hid c2
  clear hA8 hE8 ho hE hR hA hAE c2 fz2
  go_enter_d Tryz.func82, Tryz.ntmps82
  go_upto_region 1 with (fail)
  have c2 := C2.out
  clear c0 c1 fz0 fz1 hi
  go_wp2_with fail
  go_end0
  first
    | exact ⟨rfl, rfl, HA8.out, HO.out⟩
    | exact ⟨rfl, HA8.out, HO.out⟩
    | exact ⟨HA8.out, HO.out⟩
set_option maxRecDepth 100000 in
set_option maxHeartbeats 4000000 in
theorem read1T_bad (E Rb D A b c : Nat) (x : Int) (i : Int) (u : FrameMode) (w : World) (hc : c ≠ 0) (hE : w.heap[E]? = some (.cells #[.int .i64 (c : Int)] 24 (0, 0))) (hR : w.heap[Rb]? = some (.cells #[.pointer (some ⟨b, 0, none⟩)] 103 (0, 0))) (hA : w.heap[A]? = some (.cells #[.int .i64 x] 3 (0, 0)))
    (hD : w.heap[D]? = some (.cells #[.string ⟨#[]⟩, .slice none 0 0, .bool false] 40 (0, 0))) (hi : w.cell? ⟨b, 1, none⟩ = some (.int .i64 i)) (hAE : E ≠ A) (hDA : D ≠ A) :
    CallsD Tryz.prog 82 #[.pointer (some ⟨Rb, 0, none⟩), .pointer (some ⟨A, 0, none⟩), .pointer (some ⟨E, 0, none⟩), .pointer (some ⟨D, 0, none⟩)] u w fun e u' w' => u' = u ∧ e = .returned (.tuple #[]) ∧ w'.heap[A]? = some (.cells #[.int .i64 i] 3 (0, 0)) ∧ w'.heap[D]? = some (.cells #[.string ⟨#[]⟩, .slice none 0 0, .bool false] 40 (0, 0)) ∧ Only (fun k => k = A ∨ k = D) w w' := by
  obtain ⟨c0, fz0⟩ := box1 hR
  obtain ⟨c1, fz1⟩ := box1 hA
  have hne : ((c : Int) != 0) = true := by simp; omega
  have hne2 : ((c : Int) == 0) = false := by simp; omega
  have hA8 := heap_set (o := 0) hA (.int .i64 i)
  have hA8 : (w.setCell ⟨A, 0, none⟩ (.int .i64 i)).heap[A]? = some (.cells #[.int .i64 i] 3 (0, 0)) := by simpa using hA8
  have hE8 := heap_set_ne (a := ⟨A, 0, none⟩) hE (by show E ≠ A; exact hAE) (.int .i64 i)
  have hD8 := heap_set_ne (a := ⟨A, 0, none⟩) hD (by show D ≠ A; exact hDA) (.int .i64 i)
  have hAl := (Array.getElem?_eq_some_iff.1 hA8).1
  have hDl := (Array.getElem?_eq_some_iff.1 hD8).1
  obtain ⟨c2, fz2⟩ := box1 hE8
  have ho : Only (fun k => k = A ∨ k = D) w (w.setCell ⟨A, 0, none⟩ (.int .i64 i)) := (Only.refl (fun k => k = A ∨ k = D) w).setCell (p := ⟨A, 0, none⟩) (.inl (.inl rfl)) _
  obtain ⟨w1, hw1⟩ : ∃ w1, w.setCell ⟨A, 0, none⟩ (.int .i64 i) = w1 := ⟨_, rfl⟩
  rw [hw1] at hA8 hD8 c2 fz2 ho hAl hDl
  have HW1 := Lib.hid hw1; have HA8 := Lib.hid hA8; have HD8 := Lib.hid hD8; have HO := Lib.hid ho; have C2 := Lib.hid c2
  clear hw1 hA8 hE8 hD8 ho hE hR hA hD hAE c2 fz2 hc
  go_enter_d Tryz.func82, Tryz.ntmps82
  go_upto_region 1 with (fail)
  rw [HW1.out]
  have c2 := C2.out
  clear c0 c1 fz0 fz1 hi
  go_upto_region 3 with (fail)
  clear c2
  have hD9 := heap_old HD8.out (.cells #[.string ⟨#[]⟩, .slice none 0 0, .bool false] 40)
  have hX9 := heap_new w1 (.cells #[.string ⟨#[]⟩, .slice none 0 0, .bool false] 40)
  obtain ⟨w2, hw2⟩ : ∃ x, w1.alloc (.cells #[.string ⟨#[]⟩, .slice none 0 0, .bool false] 40) = x := ⟨_, rfl⟩
  obtain ⟨X, hX⟩ : ∃ X, w1.heap.size = X := ⟨_, rfl⟩
  have o2 : Only (fun _ => False) w1 w2 := by rw [← hw2]; exact (Only.refl _ w1).alloc _
  rw [hw2] at hD9 hX9
  rw [hX] at hX9
  rw [hX, hw2]
  obtain ⟨y0, y1, y2, yz⟩ := boxN3 hX9
  have HD9 := Lib.hid hD9; have O2 := Lib.hid o2
  clear hw2 hX hD9 hX9 o2
  go_wp2_with ((refine wpList_store_box (o := ⟨none, _, _, _, _, _⟩) rfl 40 (.tmp 3) (.tmp 11) (by rfl) D [.string ⟨#[]⟩, .slice none 0 0, .bool false] [.string ⟨#[]⟩, .slice none 0 0, .bool false] (by rfl) (by rfl) HD9.out (by rfl) (by kernel_rfl) (by intro u hu; simp at hu; rcases hu with rfl | rfl | rfl <;> rfl) ?_; intro w9 k1 k2))
  have hA9 := (k2.block A (by have := O2.out.size; omega) (by omega)).trans ((O2.out.block A hAl (fun h => h)).trans HA8.out)
  have ho9 := (HO.out.trans' O2.out (fun q _ h => h.elim)).trans' k2 (fun q _ h => .inr h)
  have K1 := Lib.hid k1; have HA9 := Lib.hid hA9; have HO9 := Lib.hid ho9
  clear k1 k2 hA9 ho9
  go_wp2_with fail
  go_end0
  first
    | exact ⟨rfl, rfl, HA9.out, K1.out, HO9.out⟩
    | exact ⟨rfl, HA9.out, K1.out, HO9.out⟩
    | exact ⟨HA9.out, K1.out, HO9.out⟩
/-- The door, where a panic comes. -/
theorem doorRT_bad {fn : Func} {tmps : Array Value} {R : Ending → World → Prop} {D A E Rb b c : Nat} {x : Int} {all r : List Tok} {dp : Int} {w : World} (hc : c ≠ 0)
    (hD : w.heap[D]? = some (.cells #[.string ⟨#[]⟩, .slice none 0 0, .bool false] 40 (0, 0))) (hA : w.heap[A]? = some (.cells #[.int .i64 x] 3 (0, 0))) (hE : w.heap[E]? = some (.cells #[.int .i64 0] 24 (0, 0))) (hRb : w.heap[Rb]? = some (.cells #[.pointer (some ⟨b, 0, none⟩)] 103 (0, 0)))
    (h : RdP w b all r dp) (h1 : D < A) (h2 : A < E) (h3 : E < b) (h4 : b < Rb)
    (hR : ∀ w' (i : Nat), w'.heap[D]? = some (.cells #[.string ⟨#[]⟩, .slice none 0 0, .bool false] 40 (0, 0)) → w'.heap[A]? = some (.cells #[.int .i64 (i : Int)] 3 (0, 0)) → w'.heap[E]? = some (.cells #[.int .i64 (c : Int)] 24 (0, 0)) → all.drop i = r → i + r.length = all.length → Only (fun k => k = D ∨ k = A ∨ k = E) w w' → ∃ v, (results fn tmps).run Tryz.prog w' = .ok v w' ∧ R (.returned v) w') :
    bodyPostD Tryz.prog fn R (Exit.panic (faultV c)) { tmps := tmps, defers := [dfC E, dfRT E Rb D A] } w := by
  refine leaves_cons (f := 83) (args := #[.pointer (some ⟨E, 0, none⟩)]) (by simp) (by simp [go_sem]) ?_
  refine (caught_bad E c _ w hE).mono ?_
  rintro e u' w1 ⟨rfl, hu, e1, o1⟩
  have hD1 := (o1.block D (Array.getElem?_eq_some_iff.1 hD).1 (by omega)).trans hD
  have hA1 := (o1.block A (Array.getElem?_eq_some_iff.1 hA).1 (by omega)).trans hA
  have hR1 := (o1.block Rb (Array.getElem?_eq_some_iff.1 hRb).1 (by omega)).trans hRb
  obtain ⟨i, hi, hi2, hi3⟩ := h.idx
  have hi1 : w1.cell? ⟨b, 1, none⟩ = some (.int .i64 (i : Int)) := (cell_keep o1 (cell_lt hi) (by show b ≠ E; omega)).trans hi
  show Leaves _ _ _ _ _ (settle u') w1
  rw [hu]
  refine leaves_cons (f := 82) (args := #[.pointer (some ⟨Rb, 0, none⟩), .pointer (some ⟨A, 0, none⟩), .pointer (some ⟨E, 0, none⟩), .pointer (some ⟨D, 0, none⟩)]) (by simp) (by simp [go_sem]) ?_
  refine (read1T_bad E Rb D A b c x i _ w1 hc e1 hR1 hA1 hD1 hi1 (by omega) (by omega)).mono ?_
  rintro e u'' w2 ⟨rfl, rfl, k1, k2, k3⟩
  exact hR w2 i k2 k1 ((k3.block E (Array.getElem?_eq_some_iff.1 e1).1 (by omega)).trans e1) hi2 hi3 ((o1.mono (fun q _ h => .inr (.inr h))).trans (k3.mono (fun q _ h => h.elim (fun h => .inr (.inl h)) .inl)))
/-- The door, where the call returns. -/
theorem doorRT_ok {fn : Func} {tmps : Array Value} {R : Ending → World → Prop} {D A E Rb b : Nat} {x : Int} {all r : List Tok} {dp : Int} {w : World}
    (hA : w.heap[A]? = some (.cells #[.int .i64 x] 3 (0, 0))) (hE : w.heap[E]? = some (.cells #[.int .i64 0] 24 (0, 0))) (hRb : w.heap[Rb]? = some (.cells #[.pointer (some ⟨b, 0, none⟩)] 103 (0, 0)))
    (h : RdP w b all r dp) (h2 : A < E)
    (hR : ∀ w' (i : Nat), w'.heap[A]? = some (.cells #[.int .i64 (i : Int)] 3 (0, 0)) → all.drop i = r → i + r.length = all.length → Only (fun k => k = A) w w' → ∃ v, (results fn tmps).run Tryz.prog w' = .ok v w' ∧ R (.returned v) w') :
    bodyPostD Tryz.prog fn R Exit.ret { tmps := tmps, defers := [dfC E, dfRT E Rb D A] } w := by
  refine leaves_cons (f := 83) (args := #[.pointer (some ⟨E, 0, none⟩)]) (by simp) (by simp [go_sem]) ?_
  refine (caught_ok E w).mono ?_
  rintro e u' w1 ⟨rfl, rfl, rfl⟩
  obtain ⟨i, hi, hi2, hi3⟩ := h.idx
  show Leaves _ _ _ _ _ (settle .returning) w1
  rw [show settle .returning = .returning from rfl]
  refine leaves_cons (f := 82) (args := #[.pointer (some ⟨Rb, 0, none⟩), .pointer (some ⟨A, 0, none⟩), .pointer (some ⟨E, 0, none⟩), .pointer (some ⟨D, 0, none⟩)]) (by simp) (by simp [go_sem]) ?_
  refine (read1T_ok E Rb D A b x i _ w1 hE hRb hA hi (by omega)).mono ?_
  rintro e u'' w2 ⟨rfl, rfl, k1, k3⟩
  exact hR w2 i k1 hi2 hi3 k3
set_option maxRecDepth 100000 in
set_option maxHeartbeats 4000000 in
theorem typ1_any (b : Nat) (all r : List Tok) (w : World) (h : RdP w b all r (24 - ((24 : Nat) : Int))) :
    Calls Tryz.prog 71 #[.pointer (some ⟨b, 0, none⟩)] w (Ans w b all (24 - ((24 : Nat) : Int)) (aggP w.heap.size trC) (typP 24 r)) := by
  have hbl := h.lt
  obtain ⟨B, hB⟩ : ∃ B, w.heap.size = B := ⟨_, rfl⟩
  obtain ⟨w0, hw0⟩ : ∃ w0, w.alloc (.cells #[.string ⟨#[]⟩, .slice none 0 0, .bool false] 40) = w0 := ⟨_, rfl⟩
  have hr0 : w0.heap[B]? = some (.cells #[.string ⟨#[]⟩, .slice none 0 0, .bool false] 40 (0, 0)) := by rw [← hw0, ← hB]; exact heap_new _ _
  have o0 : Only (fun _ => False) w w0 := by rw [← hw0]; exact (Only.refl _ w).alloc _
  have hs0 : w0.heap.size = B + 1 := by rw [← hw0, World.size_alloc, hB]
  have h0 := h.still o0
  have J := Lib.hid (typ_any 24 b all r w0 (by decide) h0)
  have HB := Lib.hid hB; have HW0 := Lib.hid hw0; have HR0 := Lib.hid hr0; have O0 := Lib.hid o0; have HS0 := Lib.hid hs0
  have hbB : b < B := by omega
  clear h hB hw0 hr0 o0 hs0 h0
  obtain ⟨Q, hQ⟩ : ∃ Q, Ans w b all (24 - ((24 : Nat) : Int)) (aggP w.heap.size trC) (typP 24 r) = Q := ⟨_, rfl⟩
  have HQ := Lib.hid hQ
  rw [hQ]; clear hQ
  go_enter Tryz.func71, Tryz.ntmps71
  go_upto_region 1 with (fail)
  rw [HB.out, HW0.out]
  clear HW0
  cases hq : typP 24 r with
  | bad a c =>
    rw [hq] at J HQ
    clear hq
    go_wp2_with fail
    refine J.out.mono ?_
    rintro e wz ⟨rfl, h1, h2⟩
    refine ⟨rfl, ?_⟩
    rw [← HQ.out]
    exact ⟨rfl, h1, (O0.out.mono (fun _ _ h => h.elim)).trans h2⟩
  | ok x r1 =>
    rw [hq] at J HQ
    clear hq
    go_wp2_with fail
    refine J.out.mono ?_
    rintro e w3 ⟨v, rfl, ⟨cs, rfl, hcs⟩, h3, o3⟩
    obtain ⟨st, at1, lt1, et1, bt1, rfl⟩ := trC_form2 hcs
    have hr3 := (o3.block B (by have := HS0.out; omega) (by omega)).trans HR0.out
    have HR3 := Lib.hid hr3; have H3 := Lib.hid h3; have HCS := Lib.hid hcs; have O3 := Lib.hid ((O0.out.mono (T := fun k => k = b) (fun _ _ h => h.elim)).trans o3)
    clear hr3 h3 hcs o3
    go_wp2_with ((refine wpList_store_box (o := ⟨none, _, _, _, _, _⟩) rfl 40 (.tmp 2) (.tmp 4) (by rfl) B [.string ⟨#[]⟩, .slice none 0 0, .bool false] [.string ⟨st.toArray⟩, .slice at1 lt1 et1, .bool bt1] (by rfl) (by rfl) HR3.out (by rfl) (by kernel_rfl) (by intro u hu; simp at hu; rcases hu with rfl | rfl | rfl <;> rfl) ?_; intro w9 k1 k2))
    obtain ⟨y0, y1, y2, yz⟩ := boxN3 k1
    refine bodyPost_ret (v := .agg #[.string ⟨st.toArray⟩, .slice at1 lt1 et1, .bool bt1]) (by simp [results, Tryz.results71, go_sem, y0, y1, y2]) rfl ?_
    rw [← HQ.out]
    exact ⟨_, rfl, ⟨_, rfl, CellsAt.weaken (fun q hq h => by have h : w0.heap.size ≤ q := h; have := HS0.out; have := HB.out; show w.heap.size ≤ q; omega) _ _ (CellsAt.only k2 (fun q h e => by have h : w0.heap.size ≤ q := h; have := HS0.out; have e : q = B := e; omega) _ _ HCS.out)⟩, H3.out.only k2 (fun k hk e => by omega), O3.out.trans' k2 (fun q hq e => by have := HB.out; omega)⟩
set_option maxRecDepth 100000 in
set_option maxHeartbeats 40000000 in
theorem readT_any (all r : List Tok) (g off cc : Nat) (i : Nat) (w : World) (ht : TRow w (.slice (some ⟨g, off, none⟩) all.length cc) all) (hdr : all.drop i = r) (hlr : i + r.length = all.length) (hend : EndR r) (hfew : all.length ≤ 1000000) :
    Calls Tryz.prog 70 #[.slice (some ⟨g, off, none⟩) all.length cc, .int .i64 (i : Int), .func (.func 71) #[] #[]] w (RdRes w all trC [.string ⟨#[]⟩, .slice none 0 0, .bool false] (typP 24 r)) := by
  have hil : i < all.length := by cases r with | nil => exact hend.elim | cons t u => simp at hlr; omega
  have hgl : g < w.heap.size := by
    rcases ht with ⟨h, _⟩ | ⟨g', off', c', h1, h2, h3, h4, h5⟩
    · cases h
    · injection h1 with h1; injection h1 with h1; injection h1 with h1; subst h1; exact h4
  obtain ⟨Q, hQ⟩ : ∃ Q, RdRes w all trC [.string ⟨#[]⟩, .slice none 0 0, .bool false] (typP 24 r) = Q := ⟨_, rfl⟩
  rw [hQ]
  obtain ⟨D, hD⟩ : ∃ D, w.heap.size = D := ⟨_, rfl⟩
  obtain ⟨w0, hw0⟩ : ∃ w0, ((w.alloc (.cells #[.string ⟨#[]⟩, .slice none 0 0, .bool false] 40)).alloc (.cells #[.int .i64 0] 3)).alloc (.cells #[.int .i64 0] 24) = w0 := ⟨_, rfl⟩
  have hz0 : w0.heap.size = D + 3 := by rw [← hw0, ← hD]; simp
  have hD0 : w0.heap[D]? = some (.cells #[.string ⟨#[]⟩, .slice none 0 0, .bool false] 40 (0, 0)) := by rw [← hw0, ← hD]; exact heap_old (heap_old (heap_new _ _) _) _
  have hA0 : w0.heap[D + 1]? = some (.cells #[.int .i64 0] 3 (0, 0)) := by
    rw [← hw0, ← hD]; refine heap_old ?_ _
    have := heap_new (w.alloc (.cells #[.string ⟨#[]⟩, .slice none 0 0, .bool false] 40)) (.cells #[.int .i64 0] 3)
    simpa using this
  have hE0 : w0.heap[D + 2]? = some (.cells #[.int .i64 0] 24 (0, 0)) := by
    rw [← hw0, ← hD]
    have := heap_new ((w.alloc (.cells #[.string ⟨#[]⟩, .slice none 0 0, .bool false] 40)).alloc (.cells #[.int .i64 0] 3)) (.cells #[.int .i64 0] 24)
    simpa using this
  have ho0 : Only (fun _ => False) w w0 := by rw [← hw0]; exact (((Only.refl _ w).alloc _).alloc _).alloc _
  obtain ⟨w2, hw2⟩ : ∃ x, (w0.alloc (.cells #[.slice (some ⟨g, off, none⟩) all.length cc, .int .i64 (i : Int), .int .i64 0] 118)).alloc (.cells #[.pointer (some ⟨D + 3, 0, none⟩)] 103) = x := ⟨_, rfl⟩
  have oa2 : Only (fun _ => False) w0 w2 := by rw [← hw2]; exact ((Only.refl _ w0).alloc _).alloc _
  have hb2 : w2.heap[D + 3]? = some (.cells #[.slice (some ⟨g, off, none⟩) all.length cc, .int .i64 (i : Int), .int .i64 0] 118 (0, 0)) := by
    rw [← hw2, ← hz0]; exact heap_old (heap_new _ _) _
  have hrb2 : w2.heap[D + 3 + 1]? = some (.cells #[.pointer (some ⟨D + 3, 0, none⟩)] 103 (0, 0)) := by
    rw [← hw2]
    have := heap_new (w0.alloc (.cells #[.slice (some ⟨g, off, none⟩) all.length cc, .int .i64 (i : Int), .int .i64 0] 118)) (.cells #[.pointer (some ⟨D + 3, 0, none⟩)] 103)
    simpa [hz0] using this
  have hrd : RdP w2 (D + 3) all r (24 - ((24 : Nat) : Int)) := ⟨⟨g, off, cc, i, hb2, (ht.still ho0).still oa2, by omega, hdr, hlr⟩, hend, hfew⟩
  have J := Lib.hid (typ1_any (D + 3) all r w2 hrd)
  have hD2 := (oa2.block D (Array.getElem?_eq_some_iff.1 hD0).1 (fun h => h)).trans hD0
  have hA2 := (oa2.block (D + 1) (Array.getElem?_eq_some_iff.1 hA0).1 (fun h => h)).trans hA0
  have hE2 := (oa2.block (D + 2) (Array.getElem?_eq_some_iff.1 hE0).1 (fun h => h)).trans hE0
  have ho2 := ho0.trans oa2
  have hend2 : ∀ w3 r3 dp3, RdP w3 (D + 3) all r3 dp3 → EndR r3 := fun _ _ _ h => h.ends
  have hmf : ∀ (fn : Fn) (first cap : Array Value) (w : World), (Instr.makeFunc fn first cap).run Tryz.prog w = .ok (.func fn first cap) w := fun _ _ _ _ => rfl
  have t1 : decide ((i : Int) < 0) = false := decide_eq_false (by omega)
  have t2 : decide (all.length ≤ i) = false := decide_eq_false (by omega)
  have HQ := Lib.hid hQ; have HDD := Lib.hid hD; have HW0 := Lib.hid hw0; have HZ0 := Lib.hid hz0; have HW2 := Lib.hid hw2; have HD2 := Lib.hid hD2; have HA2 := Lib.hid hA2; have HE2 := Lib.hid hE2; have HRB := Lib.hid hrb2; have HO2 := Lib.hid ho2; have CRB := Lib.hid (box1 hrb2)
  have HWD := Lib.hid (show w.heap.size ≤ D by omega)
  clear hQ hD hw0 hz0 hD0 hA0 hE0 ho0 hw2 oa2 hb2 hrb2 hrd ht hdr hlr hend hfew hil hgl hD2 hA2 hE2 ho2
  go_enter_defers Tryz.func70, Tryz.ntmps70
  go_upto_region 1 with (fail)
  rw [HDD.out, HW0.out]
  go_upto_region 3 with (fail)
  go_upto_region 4 with (fail)
  rw [HZ0.out, HW2.out]
  clear HW0 HW2 t1 t2
  obtain ⟨cR, fR⟩ := CRB.out
  cases hq : typP 24 r with
  | bad a c =>
    rw [hq] at J
    have hcz : c ≠ 0 := by have := nz_typ 24 r; rw [hq] at this; exact this
    have HEQ := Lib.hid (HQ.out.symm.trans (by rw [hq] : RdRes w all trC [.string ⟨#[]⟩, .slice none 0 0, .bool false] (typP 24 r) = RdRes w all trC [.string ⟨#[]⟩, .slice none 0 0, .bool false] (.bad a c))); clear hq HQ
    have HCZ := Lib.hid hcz; clear hcz
    go_wp2_with fail
    refine J.out.mono ?_
    rintro e w3 ⟨rfl, ⟨r3, dp3, h3, h4, h5, h6⟩, o3⟩
    have hD3 := (o3.block D (Array.getElem?_eq_some_iff.1 HD2.out).1 (by omega)).trans HD2.out
    have hA3 := (o3.block (D + 1) (Array.getElem?_eq_some_iff.1 HA2.out).1 (by omega)).trans HA2.out
    have hE3 := (o3.block (D + 2) (Array.getElem?_eq_some_iff.1 HE2.out).1 (by omega)).trans HE2.out
    have hR3 := (o3.block (D + 3 + 1) (Array.getElem?_eq_some_iff.1 HRB.out).1 (by omega)).trans HRB.out
    refine doorRT_bad HCZ.out hD3 hA3 hE3 hR3 h3 (by omega) (by omega) (by omega) (by omega) (fun w' j k1 k2 k3 k4 k5 k6 => ?_)
    obtain ⟨y0, y1, y2, yz⟩ := boxN3 k1
    obtain ⟨z0, -⟩ := box1 k2
    have z1 : w'.cell? ⟨D + 1 + 1, 0, none⟩ = some (.int .i64 (c : Int)) := (box1 k3).1
    have hfin : Only (fun _ => False) w w' := (HO2.out.trans' o3 (fun q hq h => by have := HWD.out; omega)).trans' k6 (fun q hq h => by have := HWD.out; rcases h with h | h | h <;> omega)
    refine ⟨.tuple #[.agg #[.string ⟨#[]⟩, .slice none 0 0, .bool false], .int .i64 (j : Int), .int .i64 (c : Int)], by simp [results, Tryz.results70, go_sem, y0, y1, y2, z0, z1], ?_⟩
    rw [HEQ.out]
    exact ⟨[.string ⟨#[]⟩, .slice none 0 0, .bool false], j, c, r3, rfl, hfin, k4, k5, h3.ends, rfl, h4.symm, rfl⟩
  | ok x r1 =>
    rw [hq] at J
    have HEQ := Lib.hid (HQ.out.symm.trans (by rw [hq] : RdRes w all trC [.string ⟨#[]⟩, .slice none 0 0, .bool false] (typP 24 r) = RdRes w all trC [.string ⟨#[]⟩, .slice none 0 0, .bool false] (.ok x r1))); clear hq HQ
    go_wp2_with fail
    refine J.out.mono ?_
    rintro e w3 ⟨v, rfl, ⟨cs, rfl, hcs⟩, h3, o3⟩
    obtain ⟨st, at1, lt1, et1, bt1, rfl⟩ := trC_form2 hcs
    have hD3 := (o3.block D (Array.getElem?_eq_some_iff.1 HD2.out).1 (by omega)).trans HD2.out
    have hA3 := (o3.block (D + 1) (Array.getElem?_eq_some_iff.1 HA2.out).1 (by omega)).trans HA2.out
    have hE3 := (o3.block (D + 2) (Array.getElem?_eq_some_iff.1 HE2.out).1 (by omega)).trans HE2.out
    have hR3 := (o3.block (D + 3 + 1) (Array.getElem?_eq_some_iff.1 HRB.out).1 (by omega)).trans HRB.out
    have HD3 := Lib.hid hD3; have HA3 := Lib.hid hA3; have HE3 := Lib.hid hE3; have HR3 := Lib.hid hR3; have H3 := Lib.hid h3; have HCS := Lib.hid hcs; have O3 := Lib.hid (HO2.out.trans' o3 (fun q hq h => by have := HWD.out; omega)); have SZ2 := Lib.hid (show D + 4 < w2.heap.size from (Array.getElem?_eq_some_iff.1 HRB.out).1)
    clear hD3 hA3 hE3 hR3 h3 hcs o3 cR fR
    go_wp2_with ((refine wpList_store_box (o := ⟨none, _, _, _, _, _⟩) rfl 40 (.tmp 6) (.tmp 26) (by rfl) D [.string ⟨#[]⟩, .slice none 0 0, .bool false] [.string ⟨st.toArray⟩, .slice at1 lt1 et1, .bool bt1] (by rfl) (by rfl) HD3.out (by rfl) (by kernel_rfl) (by intro u hu; simp at hu; rcases hu with rfl | rfl | rfl <;> rfl) ?_; intro w9 k1 k2; obtain ⟨cA, fA⟩ := box1 ((k2.block (D + 1) (Array.getElem?_eq_some_iff.1 HA3.out).1 (by omega)).trans HA3.out); have cE : w9.cell? ⟨D + 1 + 1, 0, none⟩ = some (.int .i64 0) := (box1 ((k2.block (D + 2) (Array.getElem?_eq_some_iff.1 HE3.out).1 (by omega)).trans HE3.out)).1; have fE : ∀ o, w9.frozen? ⟨D + 1 + 1, o, none⟩ = false := (box1 ((k2.block (D + 2) (Array.getElem?_eq_some_iff.1 HE3.out).1 (by omega)).trans HE3.out)).2))
    have hA9 := (k2.block (D + 1) (Array.getElem?_eq_some_iff.1 HA3.out).1 (by omega)).trans HA3.out
    have hE9 := (k2.block (D + 2) (Array.getElem?_eq_some_iff.1 HE3.out).1 (by omega)).trans HE3.out
    have hR9 := (k2.block (D + 3 + 1) (Array.getElem?_eq_some_iff.1 HR3.out).1 (by omega)).trans HR3.out
    obtain ⟨w8, hw8⟩ : ∃ x, (w9.setCell ⟨D + 1, 0, none⟩ (.int .i64 0)).setCell ⟨D + 1 + 1, 0, none⟩ (.int .i64 0) = x := ⟨_, rfl⟩
    have o8 : Only (fun k => k = D + 1 ∨ k = D + 2) w9 w8 := by rw [← hw8]; exact ((Only.refl (fun k => k = D + 1 ∨ k = D + 2) w9).setCell (p := ⟨D + 1, 0, none⟩) (.inl (.inl rfl)) _).setCell (p := ⟨D + 2, 0, none⟩) (.inl (.inr rfl)) _
    have hA8 : w8.heap[D + 1]? = some (.cells #[.int .i64 0] 3 (0, 0)) := by
      rw [← hw8]; have := heap_set_ne (a := ⟨D + 2, 0, none⟩) (heap_set (o := 0) hA9 (.int .i64 0)) (by show D + 1 ≠ D + 2; omega) (.int .i64 0); simpa using this
    have hE8 : w8.heap[D + 2]? = some (.cells #[.int .i64 0] 24 (0, 0)) := by
      rw [← hw8]; have := heap_set (o := 0) (heap_set_ne (a := ⟨D + 1, 0, none⟩) hE9 (by show D + 2 ≠ D + 1; omega) (.int .i64 0)) (.int .i64 0); simpa using this
    have hD8 := (o8.block D (Array.getElem?_eq_some_iff.1 k1).1 (by omega)).trans k1
    have hR8 := (o8.block (D + 3 + 1) (Array.getElem?_eq_some_iff.1 hR9).1 (by omega)).trans hR9
    have h9 : RdP w9 (D + 3) all r1 (24 - ((24 : Nat) : Int)) := rdP_old H3.out k2 (by omega) (fun g' off' n' c' hcc => H3.out.apart2 HD3.out (by intro i n s; rcases i with _ | _ | _ | i <;> simp) hcc)
    have h7 : RdP w8 (D + 3) all r1 (24 - ((24 : Nat) : Int)) := by
      rw [← hw8]
      refine rdP_old (k := D + 2) (rdP_old (k := D + 1) h9 ((Only.refl (fun k => k = D + 1) w9).setCell (p := ⟨D + 1, 0, none⟩) (.inl rfl) _) (by omega) (fun g' off' n' c' hcc => h9.apart hA9 (i64_no 0) hcc)) ((Only.refl (fun k => k = D + 2) _).setCell (p := ⟨D + 2, 0, none⟩) (.inl rfl) _) (by omega) (fun g' off' n' c' hcc => ?_)
      have hx : w9.cell? ⟨D + 3, 0, none⟩ = some (.slice (some ⟨g', off', none⟩) n' c') := by rw [← hcc]; exact (cell_keep ((Only.refl (fun k => k = D + 1) w9).setCell (p := ⟨D + 1, 0, none⟩) (.inl rfl) _) h9.lt (by show D + 3 ≠ D + 1; omega)).symm
      exact h9.apart hE9 (i64_no 0) hx
    have hc8 : CellsAt w8 (fun q => D + 4 < q) (trC x) [.string ⟨st.toArray⟩, .slice at1 lt1 et1, .bool bt1] := CellsAt.weaken (fun q hq h => by have h : w2.heap.size ≤ q := h; show D + 4 < q; have := SZ2.out; omega) _ _ (CellsAt.only o8 (fun q h e => by have h : w2.heap.size ≤ q := h; have := SZ2.out; rcases e with e | e <;> omega) _ _ (CellsAt.only k2 (fun q h e => by have h : w2.heap.size ≤ q := h; have e : q = D := e; have := SZ2.out; omega) _ _ HCS.out))
    have hO8 : Only (fun _ => False) w w8 := (O3.out.trans' k2 (fun q hq h => by have := HWD.out; omega)).trans' o8 (fun q hq h => by have := HWD.out; rcases h with h | h <;> omega)
    rw [hw8]
    clear cA fA cE fE k1 k2 hA9 hE9 hR9 hw8 o8 h9
    refine doorRT_ok hA8 hE8 hR8 h7 (by omega) (fun w' j q1 q2 q3 q4 => ?_)
    have hD7 := (q4.block D (Array.getElem?_eq_some_iff.1 hD8).1 (by omega)).trans hD8
    have hE7 := (q4.block (D + 2) (Array.getElem?_eq_some_iff.1 hE8).1 (by omega)).trans hE8
    obtain ⟨y0, y1, y2, yz⟩ := boxN3 hD7
    obtain ⟨z0, -⟩ := box1 q1
    have z1 : w'.cell? ⟨D + 1 + 1, 0, none⟩ = some (.int .i64 0) := (box1 hE7).1
    refine ⟨.tuple #[.agg #[.string ⟨st.toArray⟩, .slice at1 lt1 et1, .bool bt1], .int .i64 (j : Int), .int .i64 ((0 : Nat) : Int)], by simp [results, Tryz.results70, go_sem, y0, y1, y2, z0, z1], ?_⟩
    rw [HEQ.out]
    exact ⟨[.string ⟨st.toArray⟩, .slice at1 lt1 et1, .bool bt1], j, 0, r1, rfl, hO8.trans' q4 (fun q hq h => by have := HWD.out; omega), q2, q3, h7.ends, rfl, rfl, CellsAt.weaken (fun q hq h => by have h : D + 4 < q := h; show w.heap.size ≤ q; have := HWD.out; omega) _ _ (CellsAt.only q4 (fun q h e => by have h : D + 4 < q := h; have e : q = D + 1 := e; omega) _ _ hc8)⟩
set_option maxRecDepth 100000 in
set_option maxHeartbeats 4000000 in
theorem pT_any (all r : List Tok) (g off cc : Nat) (i : Nat) (w : World) (ht : TRow w (.slice (some ⟨g, off, none⟩) all.length cc) all) (hdr : all.drop i = r) (hlr : i + r.length = all.length) (hend : EndR r) (hfew : all.length ≤ 1000000) :
    Calls Tryz.prog 64 #[.slice (some ⟨g, off, none⟩) all.length cc, .int .i64 (i : Int)] w (RdRes w all trC [.string ⟨#[]⟩, .slice none 0 0, .bool false] (typP 24 r)) := by
  obtain ⟨B, hB⟩ : ∃ B, w.heap.size = B := ⟨_, rfl⟩
  obtain ⟨w0, hw0⟩ : ∃ w0, w.alloc (.cells #[.string ⟨#[]⟩, .slice none 0 0, .bool false] 40) = w0 := ⟨_, rfl⟩
  have hr0 : w0.heap[B]? = some (.cells #[.string ⟨#[]⟩, .slice none 0 0, .bool false] 40 (0, 0)) := by rw [← hw0, ← hB]; exact heap_new _ _
  have o0 : Only (fun _ => False) w w0 := by rw [← hw0]; exact (Only.refl _ w).alloc _
  have hs0 : w0.heap.size = B + 1 := by rw [← hw0, World.size_alloc, hB]
  have hwB : w.heap.size ≤ B := by omega
  have J := Lib.hid (readT_any all r g off cc i w0 (ht.still o0) hdr hlr hend hfew)
  obtain ⟨Q, hQ⟩ : ∃ Q, RdRes w all trC [.string ⟨#[]⟩, .slice none 0 0, .bool false] (typP 24 r) = Q := ⟨_, rfl⟩
  have hq : ∀ (cs : List Value) (j c : Nat) w3 w', (∃ q, all.drop j = q ∧ j + q.length = all.length ∧ EndR q ∧ RdIs w0.heap.size w3 trC [.string ⟨#[]⟩, .slice none 0 0, .bool false] (typP 24 r) cs c q) → Only (fun _ => False) w0 w3 → Only (fun k => k = B) w3 w' → Q (.returned (.tuple #[.agg cs.toArray, .int .i64 (j : Int), .int .i64 (c : Int)])) w' := fun cs j c w3 w' h1 h2 h3 => by
    obtain ⟨q, k1, k2, k3, k4⟩ := h1
    rw [← hQ]
    refine ⟨cs, j, c, q, rfl, (o0.trans h2).trans' h3 (fun q hq h => by omega), k1, k2, k3, ?_⟩
    cases hp : typP 24 r with
    | ok x r =>
      rw [hp] at k4
      exact ⟨k4.1, k4.2.1, CellsAt.weaken (fun q hq h => by have h : w0.heap.size ≤ q := h; show w.heap.size ≤ q; omega) _ _ (CellsAt.only h3 (fun q h e => by have h : w0.heap.size ≤ q := h; have e : q = B := e; omega) _ _ k4.2.2)⟩
    | bad a d => rw [hp] at k4; exact k4
  have hform : ∀ (cs : List Value) w3 (c : Nat) (q : List Tok), (RdIs w0.heap.size w3 trC [.string ⟨#[]⟩, .slice none 0 0, .bool false] (typP 24 r) cs c q) → ∃ (s : List UInt8) (a : Option Addr) (l c : Nat) (bb : Bool), cs = [.string ⟨s.toArray⟩, .slice a l c, .bool bb] := fun cs w3 c q h => by
    cases hp : typP 24 r with
    | ok x r => rw [hp] at h; exact trC_form2 h.2.2
    | bad a d => rw [hp] at h; exact ⟨[], none, 0, 0, false, h.2.2⟩
  have hmf : ∀ (fn : Fn) (first cap : Array Value) (w : World), (Instr.makeFunc fn first cap).run Tryz.prog w = .ok (.func fn first cap) w := fun _ _ _ _ => rfl
  have HB := Lib.hid hB; have HW0 := Lib.hid hw0; have HR0 := Lib.hid hr0; have HQ := Lib.hid hq; have HF := Lib.hid hform; have HS0 := Lib.hid hs0
  rw [hQ]
  clear hB hw0 hr0 o0 hs0 hq hform hQ hwB ht hdr hlr hend hfew
  go_enter Tryz.func64, Tryz.ntmps64
  go_upto_region 1 with (fail)
  rw [HB.out, HW0.out]
  clear HW0
  go_wp2_with fail
  refine J.out.mono ?_
  rintro e w3 ⟨cs, j, c, q, rfl, o3, k1, k2, k3, k4⟩
  obtain ⟨st, at1, lt1, et1, bt1, rfl⟩ := HF.out cs w3 c q k4
  have hr3 := (o3.block B (by have := HS0.out; omega) (fun h => h)).trans HR0.out
  have HR3 := Lib.hid hr3; have HK := Lib.hid (fun w' h3 => HQ.out _ j c w3 w' ⟨q, k1, k2, k3, k4⟩ o3 h3)
  clear hr3 o3 k1 k2 k3 k4
  go_wp2_with ((refine wpList_store_box (o := ⟨none, _, _, _, _, _⟩) rfl 40 (.tmp 4) (.tmp 10) (by rfl) B [.string ⟨#[]⟩, .slice none 0 0, .bool false] [.string ⟨st.toArray⟩, .slice at1 lt1 et1, .bool bt1] (by rfl) (by rfl) HR3.out (by rfl) (by kernel_rfl) (by intro u hu; simp at hu; rcases hu with rfl | rfl | rfl <;> rfl) ?_; intro w9 k1 k2))
  obtain ⟨y0, y1, y2, yz⟩ := boxN3 k1
  exact bodyPost_ret (v := .tuple #[.agg #[.string ⟨st.toArray⟩, .slice at1 lt1 et1, .bool bt1], .int .i64 (j : Int), .int .i64 (c : Int)]) (by simp [results, Tryz.results64, go_sem, y0, y1, y2]) rfl (HK.out w9 k2)
end Go.Proofs.YtgephneppgcnlaaGreatDoor
