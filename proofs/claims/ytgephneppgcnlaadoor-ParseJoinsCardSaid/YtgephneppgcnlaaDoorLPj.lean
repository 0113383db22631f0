/- ParseJoins: the walk. -/
import Derived.Test.YtgephneppgcnlaaDoorLPc
import Derived.Test.YtgephneppgcnlaaDoorSmd
import Derived.Test.YtgephneppgcnlaaDoorApw
namespace Go.Proofs.YtgephneppgcnlaaDoor
open Go Go.RowKit
set_option linter.unusedVariables false
set_option linter.unusedSimpArgs false

theorem line_list (a b : ByteArray) : ((a ++ ⟨#[10]⟩) ++ b).data.toList = a.data.toList ++ 10 :: b.data.toList := by simp
theorem line_size (a b : ByteArray) : ((a ++ ⟨#[10]⟩) ++ b).size = a.size + b.size + 1 := by
  have : ((a ++ ⟨#[10]⟩) ++ b).size = ((a ++ ⟨#[10]⟩) ++ b).data.toList.length := rfl
  rw [this, line_list, List.length_append, List.length_cons]
  show a.size + (b.size + 1) = _
  omega
def DocIs (w w' : World) (a1 : Option Addr) (n1 c1 : Nat) (a2 : Option Addr) (n2 c2 x c : Nat) : DR1 → Prop
  | .ok d => x = 0 ∧ c = 0 ∧ n1 = d.ops.length ∧ n2 = d.frags.length ∧ CellsAt w' (fun q => w.heap.size ≤ q) (docC d) [.slice a1 n1 c1, .slice a2 n2 c2]
  | .bad y f => x = y ∧ c = f
/-- What parse.Document hands back, whatever it comes to. -/
theorem DocRes.any {w w' : World} {P : DR1} {e : Ending} (h : DocRes w P e w') : ∃ (a1 : Option Addr) (n1 c1 : Nat) (a2 : Option Addr) (n2 c2 : Nat) (x c : Nat), e = .returned (.tuple #[.agg #[.slice a1 n1 c1, .slice a2 n2 c2], .int .i64 (x : Int), .int .i64 (c : Int)]) ∧ Only (fun _ => False) w w' ∧ DocIs w w' a1 n1 c1 a2 n2 c2 x c P := by
  cases P with
  | ok d =>
    obtain ⟨a1, c1, a2, c2, rfl, h1, h2⟩ := h
    exact ⟨a1, _, c1, a2, _, c2, 0, 0, rfl, h2, rfl, rfl, rfl, rfl, h1⟩
  | bad y f =>
    obtain ⟨rfl, h2⟩ := h
    exact ⟨none, 0, 0, none, 0, 0, y, f, rfl, h2, rfl, rfl⟩
/-- A document has at most a million parts. -/
theorem docF_few : ∀ (n : Nat) (acc : DC) (r : List Tok) (d : DC) (r1 : List Tok), docF n acc r = .ok d r1 → d.ops.length + d.frags.length + r1.length ≤ acc.ops.length + acc.frags.length + r.length
  | 0, _, _, _, _, h => by cases h
  | n + 1, acc, r, d, r1, h => by
    rw [docF] at h
    obtain ⟨d1, r2, k1, h⟩ := bind_inv h
    have hl := defP_takes' acc _ _ _ k1
    have h1 : d1.ops.length + d1.frags.length ≤ acc.ops.length + acc.frags.length + 1 := by
      unfold defP at k1
      split at k1
      · obtain ⟨x, r3, -, k2⟩ := bind_inv k1
        injection k2 with k2 _; subst k2; simp; omega
      · split at k1
        · obtain ⟨x, r3, -, k2⟩ := bind_inv k1
          injection k2 with k2 _; subst k2; simp; omega
        · obtain ⟨x, r3, -, k2⟩ := bind_inv k1
          injection k2 with k2 _; subst k2; simp; omega
    split at h
    · injection h with h2 h3; subst h2; subst h3; omega
    · have := docF_few n d1 r2 d r1 h; omega
theorem docP_few {s : List UInt8} {d : DC} (h : docP s = .ok d) : d.ops.length + d.frags.length ≤ 2001 := by
  unfold docP at h
  cases ht : toks s with
  | bad a e => rw [ht] at h; cases h
  | ok ts =>
    rw [ht] at h
    have h : (match docF (ts.length + 1) ⟨[], []⟩ ts with | .ok d _ => DR1.ok d | .bad a e => .bad a e) = .ok d := h
    cases hd : docF (ts.length + 1) ⟨[], []⟩ ts with
    | bad a e => rw [hd] at h; cases h
    | ok d1 r1 =>
      rw [hd] at h; injection h with h; subst h
      have h1 := docF_few _ _ _ _ _ hd
      have h2 := (toks_end ht).2
      simp at h1; omega
theorem toksA_off : ∀ (a : Nat) (l : List UInt8), ∀ p f, toksA a l = .bad p f → a ≤ p ∧ p ≤ a + l.length ∧ 0 < f ∧ f ≤ 4 := by
  refine toksA_ind ?_ ?_ ?_ ?_ ?_
  · intro a p f h
    rw [toksA_nil] at h; cases h
  · intro a c l hb ih p f h
    rw [toksA_blk a hb] at h
    have := ih p f h
    simp only [List.length_cons]; omega
  · intro a c l hr ih p f h
    rw [toksA_rem a hr] at h
    have := ih p f h
    have hl := runL_le lineB l
    rw [List.length_drop] at this
    simp only [List.length_cons]; omega
  · intro a c l off e hb hr hx p f h
    rw [toksA_bad a hb hr hx] at h
    injection h with h1 h2
    have := oneP_off hx
    omega
  · intro a c l k t n len hb hr ho ih p f h
    rw [toksA_one a hb hr ho] at h
    have := ih p f (Out.cons_bad h)
    have hl := oneP_len ho
    rw [List.length_drop] at this
    omega
theorem relT_self {n : Nat} : ∀ {r : List Tok}, (∀ t ∈ r, t.at_ ≤ n) → RelT (fun a b => a = b ∧ a ≤ n) r r
  | [], _ => trivial
  | t :: r, h => ⟨⟨rfl, rfl, rfl, rfl, h t (by simp)⟩, relT_self (fun u hu => h u (by simp [hu]))⟩
theorem docP_place {s : List UInt8} {x e : Nat} (h : docP s = .bad x e) : x ≤ s.length := by
  unfold docP at h
  cases ht : toks s with
  | bad a c =>
    rw [ht] at h
    have h : DR1.bad a c = .bad x e := h
    injection h with h1 _; subst h1
    unfold toks at ht
    split at ht
    · injection ht with h2 _; omega
    · have := toksA_off 0 s _ _ ht; omega
  | ok ts =>
    rw [ht] at h
    have h : (match docF (ts.length + 1) ⟨[], []⟩ ts with | .ok d _ => DR1.ok d | .bad a e => .bad a e) = .bad x e := h
    have hs := doc_sim (ts.length + 1) ⟨[], []⟩ _ ts ts (relT_self (toks_at ht).2) (toks_end ht).1
    cases hd : docF (ts.length + 1) ⟨[], []⟩ ts with
    | ok d r => rw [hd] at h; cases h
    | bad a c => rw [hd] at h hs; injection h with h1 _; subst h1; exact hs.2.2
/-- A state of the law: both's box at b14; the rows that were appended lie behind it; all else is as it was at w5. -/
structure JS (w5 : World) (b14 : Nat) (X : World) (V U : Value) (rs us : List (List Cell)) : Prop where
  size : b14 + 1 ≤ X.heap.size
  box : X.heap[b14]? = some (.cells #[V, U] 26 (0, 0))
  only : Only (fun k => b14 ≤ k) w5 X
  ownV : ∃ xs, X.ownsRow (b14 + 1) 39 4 V rs.length xs ∧ Chk X (fun q => q < b14) 4 rs xs
  ownU : ∃ xs, X.ownsRow (b14 + 1) 53 3 U us.length xs ∧ Chk X (fun q => q < b14) 3 us xs
  apart : ∀ k, V.ownBlock = some k → U.ownBlock ≠ some k
theorem JS.old {w5 : World} {b14 : Nat} {X : World} {V U : Value} {rs us : List (List Cell)} (h : JS w5 b14 X V U rs us) (b : Nat) (hb : b < b14) {o : Obj} (hh : w5.heap[b]? = some o) : X.heap[b]? = some o := (h.only.block b (Array.getElem?_eq_some_iff.1 hh).1 (by omega)).trans hh
theorem JS.cell {w5 : World} {b14 : Nat} {X : World} {V U : Value} {rs us : List (List Cell)} (h : JS w5 b14 X V U rs us) {c : Cell} {v : Value} (hc : CellAt w5 (fun q => q < b14) c v) : CellAt X (fun q => q < b14) c v := CellAt.only h.only (fun k hk e => by have hk : k < b14 := hk; omega) _ _ hc
theorem JS.stepV {w5 : World} {b14 : Nat} {X w9 : World} {V U v' : Value} {rs us add : List (List Cell)} {ys : List Value} (h : JS w5 b14 X V U rs us) (g1 : w9.ownsRow (b14 + 1) 39 4 v' (rs.length + add.length) ys) (g2 : Chk w9 (fun q => q < b14) 4 (rs ++ add) ys) (g3 : Only (fun k => b14 + 1 ≤ k ∧ V.ownBlock = some k) X w9) (g4 : ∀ k, v'.ownBlock = some k → V.ownBlock = some k ∨ X.heap.size ≤ k) : JS w5 b14 (w9.setCell ⟨b14, 0, none⟩ v') v' U (rs ++ add) us := by
  have os : Only (fun k => k = b14) w9 (w9.setCell ⟨b14, 0, none⟩ v') := (Only.refl (fun k => k = b14) w9).setCell (p := ⟨b14, 0, none⟩) (.inl rfl) v'
  have h9 := (g3.block b14 (Array.getElem?_eq_some_iff.1 h.box).1 (by omega)).trans h.box
  have hset := heap_set (o := 0) h9 v'
  obtain ⟨us1, hu1, hu2⟩ := h.ownU
  obtain ⟨_, _, _, _, _, hub⟩ := own_form hu1
  obtain ⟨_, _, _, _, _, hvb⟩ := own_form g1
  refine ⟨by have := g3.size; have := os.size; have := h.size; omega, by simpa using hset, (h.only.trans (g3.mono (fun q _ hq => by omega))).trans (os.mono (fun q _ hq => by omega)), ⟨ys, ?_, ?_⟩, ⟨us1, ?_, ?_⟩, fun k hk e => ?_⟩
  · rw [List.length_append]; exact own_only' g1 os (fun k hk e => by have := (hvb k hk).1; omega)
  · exact g2.only os (fun k hk e => by have hk : k < b14 := hk; omega)
  · exact own_only' (own_only' hu1 g3 (fun k hk e => h.apart k e.2 hk)) os (fun k hk e => by have := (hub k hk).1; omega)
  · exact (hu2.only g3 (fun k hk e => by have hk : k < b14 := hk; omega)).only os (fun k hk e => by have hk : k < b14 := hk; omega)
  · rcases g4 k hk with h1 | h1
    · exact h.apart k h1 e
    · have := (hub k e).2; omega
theorem JS.stepU {w5 : World} {b14 : Nat} {X w9 : World} {V U v' : Value} {rs us add : List (List Cell)} {ys : List Value} (h : JS w5 b14 X V U rs us) (g1 : w9.ownsRow (b14 + 1) 53 3 v' (us.length + add.length) ys) (g2 : Chk w9 (fun q => q < b14) 3 (us ++ add) ys) (g3 : Only (fun k => b14 + 1 ≤ k ∧ U.ownBlock = some k) X w9) (g4 : ∀ k, v'.ownBlock = some k → U.ownBlock = some k ∨ X.heap.size ≤ k) : JS w5 b14 (w9.setCell ⟨b14, 1, none⟩ v') V v' rs (us ++ add) := by
  have os : Only (fun k => k = b14) w9 (w9.setCell ⟨b14, 1, none⟩ v') := (Only.refl (fun k => k = b14) w9).setCell (p := ⟨b14, 1, none⟩) (.inl rfl) v'
  have h9 := (g3.block b14 (Array.getElem?_eq_some_iff.1 h.box).1 (by omega)).trans h.box
  have hset := heap_set (o := 1) h9 v'
  obtain ⟨us1, hu1, hu2⟩ := h.ownV
  obtain ⟨_, _, _, _, _, hub⟩ := own_form hu1
  obtain ⟨_, _, _, _, _, hvb⟩ := own_form g1
  refine ⟨by have := g3.size; have := os.size; have := h.size; omega, by simpa using hset, (h.only.trans (g3.mono (fun q _ hq => by omega))).trans (os.mono (fun q _ hq => by omega)), ⟨us1, ?_, ?_⟩, ⟨ys, ?_, ?_⟩, fun k hk e => ?_⟩
  · exact own_only' (own_only' hu1 g3 (fun k hk e => h.apart k hk e.2)) os (fun k hk e => by have := (hub k hk).1; omega)
  · exact (hu2.only g3 (fun k hk e => by have hk : k < b14 := hk; omega)).only os (fun k hk e => by have hk : k < b14 := hk; omega)
  · rw [List.length_append]; exact own_only' g1 os (fun k hk e => by have := (hvb k hk).1; omega)
  · exact g2.only os (fun k hk e => by have hk : k < b14 := hk; omega)
  · rcases g4 k e with h1 | h1
    · exact h.apart k hk h1
    · have := (hub k hk).2; omega
set_option maxRecDepth 100000 in
set_option maxHeartbeats 16000000 in
theorem pjoins_walk (a b : ByteArray) (w : World) (ha : a.size ≤ 140737488351232) (hb : b.size ≤ 140737488351232) : Calls Tryd.prog 4 #[.string a, .string b] w fun e w' => e = .returned (.bool true) ∧ Below w.heap.size w w' := by
  have A := Lib.hid (awake06 w)
  go_enter Tryd.func4, Tryd.ntmps4
  go_wp2_with fail
  refine A.out.mono ?_
  rintro e w1 ⟨rfl, O1⟩
  have HO1 := Lib.hid O1; clear O1 A
  by_cases hbig : 1999 < a.size + b.size
  · have A := Lib.hid (awake06 w1)
    have t1 : decide ((a.size : Int) + (b.size : Int) > 1999) = true := decide_eq_true (by omega)
    go_wp2_with fail
    refine A.out.mono ?_
    rintro e w2 ⟨rfl, O2⟩
    have HO2 := Lib.hid (HO1.out.trans O2); clear O2 A
    go_wp2_with fail
    go_ret
    exact ⟨rfl, HO2.out.below (Nat.le_refl _) (fun _ _ h => h)⟩
  have t1 : decide ((a.size : Int) + (b.size : Int) > 1999) = false := decide_eq_false (by omega)
  have hl9 : a.size + b.size ≤ 1999 := by omega
  clear hbig ha hb
  have D := Lib.hid (document_b a w1 (by unfold maxLen; omega))
  go_wp2_with fail
  refine D.out.mono ?_
  intro e w2 hr1
  obtain ⟨p1, l1, c1, q1, m1, k1, x1, f1, rfl, O2, hm1⟩ := hr1.any
  have E2 := Lib.hid (document_b b (w2.alloc (.cells #[.slice p1 l1 c1, .slice q1 m1 k1] 26)) (by unfold maxLen; omega))
  have HO2 := Lib.hid (HO1.out.trans O2)
  have HM1 := Lib.hid hm1
  clear hr1 D hm1 O2
  go_wp2_with fail
  refine E2.out.mono ?_
  intro e w3 hr2
  obtain ⟨p2, l2, c2, q2, m2, k2, x2, f2, rfl, O3, hm2⟩ := hr2.any
  have F2 := Lib.hid (document_b ((a ++ ⟨#[10]⟩) ++ b) (w3.alloc (.cells #[.slice p2 l2 c2, .slice q2 m2 k2] 26)) (by rw [line_size]; unfold maxLen; omega))
  have HO3 := Lib.hid O3; have HM2 := Lib.hid hm2
  clear hr2 E2 hm2 O3
  go_wp2_with fail
  refine F2.out.mono ?_
  intro e w4 hr3
  obtain ⟨p3, l3, c3, q3, m3, k3, x3, f3, rfl, O4, hm3⟩ := hr3.any
  have HO4 := Lib.hid O4; have HM3 := Lib.hid hm3
  clear hr3 F2 hm3 O4
  go_upto_region 6 with (fail)
  obtain ⟨w5, hw5⟩ : ∃ x, w4.alloc (.cells #[.slice p3 l3 c3, .slice q3 m3 k3] 26) = x := ⟨_, rfl⟩
  have O5 : Only (fun _ => False) w w5 := by
    rw [← hw5]; exact ((((HO2.out.alloc _).trans HO3.out).alloc _).trans HO4.out).alloc _
  have HO5 := Lib.hid O5; have HW5 := Lib.hid hw5
  cases hd : docP a.data.toList with
  | bad y f =>
    rw [hd] at HM1
    obtain ⟨rfl, rfl⟩ := HM1.out
    have hne : ((f1 : Int) != 0) = true := by have := docP_bad hd; simp; omega
    clear hw5 O5
    go_wp2_with fail
    go_ret
    rw [HW5.out]
    exact ⟨rfl, HO5.out.below (Nat.le_refl _) (fun _ _ h => h)⟩
  | ok d =>
    rw [hd] at HM1
    obtain ⟨rfl, rfl, hl1, hn1, hcd⟩ := HM1.out
    have hjoin := docP_join hd (show a.data.toList.length + b.data.toList.length ≤ 1999 from hl9)
    cases he : docP b.data.toList with
    | bad y f =>
      rw [he] at HM2 hjoin
      obtain ⟨rfl, rfl⟩ := HM2.out
      have hfz := docP_bad he
      have hne : ((f2 : Int) != 0) = true := by simp; omega
      by_cases hf4 : f2 = 4
      · have h4 : ((f2 : Int) == 4) = true := by simp; omega
        have hxp : x2 ≤ b.size := docP_place he
        clear hw5 O5 hjoin hcd
        by_cases h1 : f3 = f2
        · have hbb : ((f3 : Int) == (f2 : Int)) = true := by simp; omega
          by_cases h2 : (x3 : Int) = (a.size : Int) + 1 + (x2 : Int)
          · have hbc : ((x3 : Int) == (a.size : Int) + 1 + (x2 : Int)) = true := by simpa using h2
            go_wp2_with fail
            go_ret
            rw [HW5.out]; exact ⟨rfl, HO5.out.below (Nat.le_refl _) (fun _ _ h => h)⟩
          · have hbc : ((x3 : Int) == (a.size : Int) + 1 + (x2 : Int)) = false := by simpa using h2
            by_cases h3 : b.toList = []
            · go_wp2_with fail
              go_ret
              rw [HW5.out]; exact ⟨rfl, HO5.out.below (Nat.le_refl _) (fun _ _ h => h)⟩
            · go_wp2_with fail
              go_ret
              rw [HW5.out]; exact ⟨rfl, HO5.out.below (Nat.le_refl _) (fun _ _ h => h)⟩
        · have hbb : ((f3 : Int) == (f2 : Int)) = false := by simp; omega
          by_cases h3 : b.toList = []
          · go_wp2_with fail
            go_ret
            rw [HW5.out]; exact ⟨rfl, HO5.out.below (Nat.le_refl _) (fun _ _ h => h)⟩
          · go_wp2_with fail
            go_ret
            rw [HW5.out]; exact ⟨rfl, HO5.out.below (Nat.le_refl _) (fun _ _ h => h)⟩
      · have hj : docP (a.data.toList ++ 10 :: b.data.toList) = .bad (x2 + (a.data.toList.length + 1)) f2 := by
          rcases hjoin with h | ⟨x, h⟩
          · exact h
          · injection h with _ h; exact absurd h hf4
        rw [line_list, hj] at HM3
        obtain ⟨hx3, rfl⟩ := HM3.out
        have hxp : x2 ≤ b.size := docP_place he
        have hbb : ((f3 : Int) == (f3 : Int)) = true := by simp
        have hbc : ((x3 : Int) == (a.size : Int) + 1 + (x2 : Int)) = true := by
          have : a.data.toList.length = a.size := rfl
          simp; omega
        clear hw5 O5 hjoin hcd hj
        go_wp2_with fail
        go_ret
        rw [HW5.out]
        exact ⟨rfl, HO5.out.below (Nat.le_refl _) (fun _ _ h => h)⟩
    | ok m =>
      rw [he] at HM2 hjoin
      obtain ⟨rfl, rfl, hl2, hn2, hcm⟩ := HM2.out
      have hj : docP (a.data.toList ++ 10 :: b.data.toList) = .ok (d.app m) := by
        rcases hjoin with h | ⟨x, h⟩
        · exact h
        · cases h
      have hfd := docP_few hd
      have hfm := docP_few he
      rw [line_list, hj] at HM3
      obtain ⟨rfl, rfl, hl3, hn3, hck⟩ := HM3.out
      subst hl1; subst hn1; subst hl2; subst hn2; subst hl3; subst hn3
      obtain ⟨hdo, hdf⟩ := doc_cells hcd
      obtain ⟨hmo, hmf⟩ := doc_cells hcm
      obtain ⟨hko, hkf⟩ := doc_cells hck
      -- all of it at w5
      obtain ⟨b14, hb14⟩ : ∃ x, w5.heap.size = x := ⟨_, rfl⟩
      have o25 : Only (fun _ => False) w2 w5 := by
        rw [← hw5]; exact (((((Only.refl _ w2).alloc _).trans HO3.out).alloc _).trans HO4.out).alloc _
      have o35 : Only (fun _ => False) w3 w5 := by
        rw [← hw5]; exact (((Only.refl _ w3).alloc _).trans HO4.out).alloc _
      have o45 : Only (fun _ => False) w4 w5 := by rw [← hw5]; exact (Only.refl _ w4).alloc _
      have low : ∀ {u : World} {G : Nat → Prop} {c : Cell} {v : Value}, Only (fun _ => False) u w5 → CellAt u G c v → CellAt w5 (fun q => q < b14) c v := fun o h => CellAt.weaken (fun q hq _ => by show q < b14; omega) _ _ (CellAt.only o (fun _ _ h => h) _ _ h)
      have hdo := low o25 hdo; have hdf := low o25 hdf; have hmo := low o35 hmo; have hmf := low o35 hmf; have hko := low o45 hko; have hkf := low o45 hkf
      have hB1 := heap_new w2 (.cells #[.slice p1 d.ops.length c1, .slice q1 d.frags.length k1] 26)
      have hB2 := heap_new w3 (.cells #[.slice p2 m.ops.length c2, .slice q2 m.frags.length k2] 26)
      have hB3 := heap_new w4 (.cells #[.slice p3 (d.app m).ops.length c3, .slice q3 (d.app m).frags.length k3] 26)
      obtain ⟨b1, hb1⟩ : ∃ x, w2.heap.size = x := ⟨_, rfl⟩
      obtain ⟨b2, hb2⟩ : ∃ x, w3.heap.size = x := ⟨_, rfl⟩
      obtain ⟨b3, hb3⟩ : ∃ x, w4.heap.size = x := ⟨_, rfl⟩
      have O35 : Only (fun _ => False) (w2.alloc (.cells #[.slice p1 d.ops.length c1, .slice q1 d.frags.length k1] 26)) w5 := by rw [← hw5]; exact ((HO3.out.alloc _).trans HO4.out).alloc _
      have O45 : Only (fun _ => False) (w3.alloc (.cells #[.slice p2 m.ops.length c2, .slice q2 m.frags.length k2] 26)) w5 := by rw [← hw5]; exact HO4.out.alloc _
      have hB1 := (O35.block _ (Array.getElem?_eq_some_iff.1 hB1).1 (fun h => h)).trans hB1
      have hB2 := (O45.block _ (Array.getElem?_eq_some_iff.1 hB2).1 (fun h => h)).trans hB2
      rw [hw5] at hB3
      rw [hb1] at hB1; rw [hb2] at hB2; rw [hb3] at hB3
      have lb1 : b1 < b14 := by have := (Array.getElem?_eq_some_iff.1 hB1).1; omega
      have lb2 : b2 < b14 := by have := (Array.getElem?_eq_some_iff.1 hB2).1; omega
      have lb3 : b3 < b14 := by have := (Array.getElem?_eq_some_iff.1 hB3).1; omega
      have lw : w.heap.size ≤ b14 := by have := O5.size; omega
      obtain ⟨w6, hw6⟩ : ∃ x, w5.alloc (.cells #[.slice none 0 0, .slice none 0 0] 26) = x := ⟨_, rfl⟩
      have o56 : Only (fun _ => False) w5 w6 := by rw [← hw6]; exact (Only.refl _ w5).alloc _
      have hBB := heap_new w5 (.cells #[.slice none 0 0, .slice none 0 0] 26)
      rw [hw6, hb14] at hBB
      have hs6 : w6.heap.size = b14 + 1 := by rw [← hw6, World.size_alloc, hb14]
      have F0 := Lib.hid (JS.mk (w5 := w5) (b14 := b14) (X := w6) (V := .slice none 0 0) (U := .slice none 0 0) (rs := []) (us := []) (Nat.le_of_eq hs6.symm) hBB (o56.mono (fun _ _ h => h.elim)) ⟨[], own_nil _ _ _ _, rfl⟩ ⟨[], own_nil _ _ _ _, rfl⟩ (fun k hk => by cases hk))
      have K5 := Lib.hid (And.intro hdo (And.intro hmo (And.intro hdf (And.intro hmf (And.intro hko hkf)))))
      have HB1 := Lib.hid hB1; have HB2 := Lib.hid hB2; have HB3 := Lib.hid hB3
      have HW5 := Lib.hid hw5; have HW6 := Lib.hid hw6; have H14 := Lib.hid hb14; have H1 := Lib.hid hb1; have H2 := Lib.hid hb2; have H3 := Lib.hid hb3; have HLW := Lib.hid lw
      clear hw5 O5 hjoin hcd hcm hck hB1 hB2 hB3 hb1 hb2 hb3 hb14 o25 o35 o45 O35 O45 o56 hBB hw6 hs6 low lw hj hd he HM1 HM2 HM3 hl9 t1
      clear hdo hmo hdf hmf hko hkf
      go_upto_region 10 with (fail)
      rw [HW5.out, H1.out, H2.out, H3.out]
      go_upto_region 11 with (fail)
      rw [H14.out, HW6.out]
      obtain ⟨y0, y1, yz⟩ := boxN2 F0.out.box
      obtain ⟨u0, u1, uz⟩ := boxN2 (F0.out.old b1 lb1 HB1.out)
      obtain ⟨xs1, ow1, ck1⟩ := F0.out.ownV
      have cv1 := F0.out.cell K5.out.1
      have sz1 := F0.out.size
      obtain ⟨n1, hn1⟩ : ∃ n, ([] : List (List Cell)).length + (d.ops.map opC).length = n := ⟨_, rfl⟩
      have OW1 := Lib.hid ow1; have CK1 := Lib.hid ck1; have CV1 := Lib.hid cv1; have HN1 := Lib.hid hn1
      clear ow1 ck1 cv1 hn1
      go_upto_region 12 with ((refine wpList_append_whole (o := ⟨some 75, _, _, _, _, _⟩) rfl (.tmp 72) (.tmp 74) 23 39 (by rfl) Tryd.underlying23 infoO rfl (by decide) (b14 + 1) b14 (Nat.le_succ _) (.slice none 0 0) _ [] (d.ops.map opC) xs1 (by rfl) (by rfl) OW1.out CK1.out CV1.out (by simp; unfold maxLen; omega) (by simp; omega) sz1 ?_; intro v1 ys1 w9 g1 g2 g3 g4; rw [HN1.out] at g1; obtain ⟨a1, z1, ev1, hz1, hz2, -⟩ := own_form g1; subst ev1; clear y0 y1 yz u0 u1 uz; obtain ⟨y0, y1, yz⟩ := boxN2 ((g3.block b14 (Array.getElem?_eq_some_iff.1 F0.out.box).1 (by omega)).trans F0.out.box)))
      have F1 := Lib.hid (F0.out.stepV (by rw [HN1.out]; exact g1) g2 g3 g4)
      clear y0 y1 yz OW1 CK1 CV1 g1 g2 g3 g4 hz1 hz2 sz1
      generalize (w9.setCell ⟨b14, 0, none⟩ (.slice a1 n1 z1)) = X1 at *
      obtain ⟨y0, y1, yz⟩ := boxN2 F1.out.box
      obtain ⟨u0, u1, uz⟩ := boxN2 (F1.out.old b2 lb2 HB2.out)
      obtain ⟨xs2, ow2, ck2⟩ := F1.out.ownV
      have cv2 := F1.out.cell K5.out.2.1
      have sz2 := F1.out.size
      obtain ⟨n2, hn2⟩ : ∃ n, (([] : List (List Cell)) ++ (d.ops.map opC)).length + (m.ops.map opC).length = n := ⟨_, rfl⟩
      have OW2 := Lib.hid ow2; have CK2 := Lib.hid ck2; have CV2 := Lib.hid cv2; have HN2 := Lib.hid hn2
      clear ow2 ck2 cv2 hn2
      go_upto_region 13 with ((refine wpList_append_whole (o := ⟨some 81, _, _, _, _, _⟩) rfl (.tmp 78) (.tmp 80) 23 39 (by rfl) Tryd.underlying23 infoO rfl (by decide) (b14 + 1) b14 (Nat.le_succ _) (.slice a1 n1 z1) _ ([] ++ (d.ops.map opC)) (m.ops.map opC) xs2 (by rfl) (by rfl) OW2.out CK2.out CV2.out (by simp; unfold maxLen; omega) (by simp; omega) sz2 ?_; intro v2 ys2 w9 g1 g2 g3 g4; rw [HN2.out] at g1; obtain ⟨a2, z2, ev2, hz1, hz2, -⟩ := own_form g1; subst ev2; clear y0 y1 yz u0 u1 uz; obtain ⟨y0, y1, yz⟩ := boxN2 ((g3.block b14 (Array.getElem?_eq_some_iff.1 F1.out.box).1 (by omega)).trans F1.out.box)))
      have F2 := Lib.hid (F1.out.stepV (by rw [HN2.out]; exact g1) g2 g3 g4)
      clear y0 y1 yz OW2 CK2 CV2 g1 g2 g3 g4 hz1 hz2 sz2
      generalize (w9.setCell ⟨b14, 0, none⟩ (.slice a2 n2 z2)) = X2 at *
      obtain ⟨y0, y1, yz⟩ := boxN2 F2.out.box
      obtain ⟨u0, u1, uz⟩ := boxN2 (F2.out.old b1 lb1 HB1.out)
      obtain ⟨xs3, ow3, ck3⟩ := F2.out.ownU
      have cv3 := F2.out.cell K5.out.2.2.1
      have sz3 := F2.out.size
      obtain ⟨n3, hn3⟩ : ∃ n, ([] : List (List Cell)).length + (d.frags.map frC).length = n := ⟨_, rfl⟩
      have OW3 := Lib.hid ow3; have CK3 := Lib.hid ck3; have CV3 := Lib.hid cv3; have HN3 := Lib.hid hn3
      clear ow3 ck3 cv3 hn3
      go_upto_region 14 with ((refine wpList_append_whole (o := ⟨some 87, _, _, _, _, _⟩) rfl (.tmp 84) (.tmp 86) 24 53 (by rfl) Tryd.underlying24 infoF rfl (by decide) (b14 + 1) b14 (Nat.le_succ _) (.slice none 0 0) _ [] (d.frags.map frC) xs3 (by rfl) (by rfl) OW3.out CK3.out CV3.out (by simp; unfold maxLen; omega) (by simp; omega) sz3 ?_; intro v3 ys3 w9 g1 g2 g3 g4; rw [HN3.out] at g1; obtain ⟨a3, z3, ev3, hz1, hz2, -⟩ := own_form g1; subst ev3; clear y0 y1 yz u0 u1 uz; obtain ⟨y0, y1, yz⟩ := boxN2 ((g3.block b14 (Array.getElem?_eq_some_iff.1 F2.out.box).1 (by omega)).trans F2.out.box)))
      have F3 := Lib.hid (F2.out.stepU (by rw [HN3.out]; exact g1) g2 g3 g4)
      clear y0 y1 yz OW3 CK3 CV3 g1 g2 g3 g4 hz1 hz2 sz3
      generalize (w9.setCell ⟨b14, 1, none⟩ (.slice a3 n3 z3)) = X3 at *
      obtain ⟨y0, y1, yz⟩ := boxN2 F3.out.box
      obtain ⟨u0, u1, uz⟩ := boxN2 (F3.out.old b2 lb2 HB2.out)
      obtain ⟨xs4, ow4, ck4⟩ := F3.out.ownU
      have cv4 := F3.out.cell K5.out.2.2.2.1
      have sz4 := F3.out.size
      obtain ⟨n4, hn4⟩ : ∃ n, (([] : List (List Cell)) ++ (d.frags.map frC)).length + (m.frags.map frC).length = n := ⟨_, rfl⟩
      have OW4 := Lib.hid ow4; have CK4 := Lib.hid ck4; have CV4 := Lib.hid cv4; have HN4 := Lib.hid hn4
      clear ow4 ck4 cv4 hn4
      go_upto_region 15 with ((refine wpList_append_whole (o := ⟨some 93, _, _, _, _, _⟩) rfl (.tmp 90) (.tmp 92) 24 53 (by rfl) Tryd.underlying24 infoF rfl (by decide) (b14 + 1) b14 (Nat.le_succ _) (.slice a3 n3 z3) _ ([] ++ (d.frags.map frC)) (m.frags.map frC) xs4 (by rfl) (by rfl) OW4.out CK4.out CV4.out (by simp; unfold maxLen; omega) (by simp; omega) sz4 ?_; intro v4 ys4 w9 g1 g2 g3 g4; rw [HN4.out] at g1; obtain ⟨a4, z4, ev4, hz1, hz2, -⟩ := own_form g1; subst ev4; clear y0 y1 yz u0 u1 uz; obtain ⟨y0, y1, yz⟩ := boxN2 ((g3.block b14 (Array.getElem?_eq_some_iff.1 F3.out.box).1 (by omega)).trans F3.out.box)))
      have F4 := Lib.hid (F3.out.stepU (by rw [HN4.out]; exact g1) g2 g3 g4)
      clear y0 y1 yz OW4 CK4 CV4 g1 g2 g3 g4 hz1 hz2 sz4
      generalize (w9.setCell ⟨b14, 1, none⟩ (.slice a4 n4 z4)) = X4 at *
      obtain ⟨y0, y1, yz⟩ := boxN2 F4.out.box
      obtain ⟨u0, u1, uz⟩ := boxN2 (F4.out.old b3 lb3 HB3.out)
      obtain ⟨xa, wa1, wa2⟩ := F4.out.ownV
      obtain ⟨xb, wb1, wb2⟩ := F4.out.ownU
      have hboth : CellsAt X4 (fun _ => True) (docC (d.app m)) [.slice a2 n2 z2, .slice a4 n4 z4] := CellsAt.cons (by have := own_cell wa1 wa2; simpa [DC.app] using this) (CellsAt.cons (by have := own_cell wb1 wb2; simpa [DC.app] using this) (CellsAt.nil _ _))
      have hk : CellsAt X4 (fun q => q < b14) (docC (d.app m)) [.slice p3 (d.app m).ops.length c3, .slice q3 (d.app m).frags.length k3] := CellsAt.cons (F4.out.cell K5.out.2.2.2.2.1) (CellsAt.cons (F4.out.cell K5.out.2.2.2.2.2) (CellsAt.nil _ _))
      have HS := Lib.hid (sameD_true (d.app m) _ _ X4 _ _ _ _ hk hboth)
      have HFIN := Lib.hid (HO5.out.trans' F4.out.only (fun q hq h => by have := HLW.out; omega))
      clear hboth hk wa1 wa2 wb1 wb2
      go_wp2_with fail
      refine HS.out.mono ?_
      rintro e w9 ⟨rfl, o9⟩
      have HF9 := Lib.hid (HFIN.out.trans o9); clear o9
      go_wp2_with fail
      clear y0 y1 yz u0 u1 uz
      go_ret
      exact ⟨rfl, HF9.out.below (Nat.le_refl _) (fun _ _ h => h)⟩
end Go.Proofs.YtgephneppgcnlaaDoor
