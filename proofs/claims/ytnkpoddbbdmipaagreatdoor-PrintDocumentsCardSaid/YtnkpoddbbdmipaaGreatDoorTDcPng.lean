/- . -/
import Derived.Test.YtnkpoddbbdmipaaGreatDoorTDcPnr
import Derived.Test.YtnkpoddbbdmipaaGreatDoorTDcPlA
namespace Go.Proofs.YtnkpoddbbdmipaaGreatDoor
set_option linter.unusedVariables false
set_option linter.unusedSimpArgs false
def GTok (t : Tok) : Prop := (t.kind = 1 → NameOk t.text) ∧ (t.kind = 2 → NumOk t.n) ∧ (t.kind = 3 → t.text.length ≤ 200)
def GT (r : List Tok) : Prop := ∀ t ∈ r, GTok t
theorem oneP_good {l : List UInt8} {k : Nat} {t : List UInt8} {n : Int} {len : Nat} (h : oneP l = .ok k t n len) (a : Nat) : GTok ⟨k, t, n, a⟩ := by
 cases l with
 | nil => cases h
 | cons c l =>
  rw [oneP_cons] at h
  split at h
  ·rename_i hc
   split at h
   ·cases h
   ·rename_i hl
    injection h with h1 h2 h3 h4
    subst h1; subst h2; refine ⟨fun _ => ?_, fun h => absurd h (by simp), fun h => absurd h (by simp)⟩
    have hp : 1 ≤ runL ldB (c :: l) := runL_pos (by unfold ldB; rw [hc]; rfl); have hle := runL_le ldB (c :: l); refine ⟨⟨c, l.take (runL ldB (c :: l) - 1), ?_, hc⟩, runL_take_all (c :: l), ?_⟩
    ·obtain ⟨m, hm⟩ : ∃ m, runL ldB (c :: l) = m + 1 := ⟨runL ldB (c :: l) - 1, by omega⟩
     show List.take (runL ldB (c :: l)) (c :: l) = _
     rw [hm]; rfl
    ·show (List.take (runL ldB (c :: l)) (c :: l)).length ≤ 32
     rw [List.length_take]; omega
  ·split at h
   ·obtain ⟨D, h1, h2, h3, h4, h5, h6, h7, -⟩ := numP_ok h; subst h4; refine ⟨fun h => absurd h (by simp), fun _ => ?_, fun h => absurd h (by simp)⟩
    have hall : ∀ x ∈ ((c :: l).drop (numFrom (c :: l))).take D, digB x = true := by
     rw [← h6]; exact runL_take_all _
    have hv := decV_lt (((c :: l).drop (numFrom (c :: l))).take D) 0 0 hall (by decide); have hll : (((c :: l).drop (numFrom (c :: l))).take D).length ≤ 18 := by rw [List.length_take]; omega
    have hp := pow18 _ hll; have hn : n.natAbs = decV 0 (((c :: l).drop (numFrom (c :: l))).take D) := by rw [h7]; split <;> omega
    unfold NumOk; rw [hn]; simp only [Nat.add_zero] at hv; have : 10 ^ 18 = 1000000000000000000 := by decide
    omega
   ·split at h
    ·have := txtP_len _ _ _ h; refine ⟨fun h => absurd h (by show ¬ k = 1; omega), fun h => absurd h (by show ¬ k = 2; omega), fun _ => this.2.2.2.2⟩
    ·split at h
     ·injection h with h1 h2 h3 h4
      subst h1; exact ⟨fun h => absurd h (by simp), fun h => absurd h (by simp), fun h => absurd h (by simp)⟩
     ·split at h
      ·injection h with h1 h2 h3 h4
       subst h1; exact ⟨fun h => absurd h (by simp), fun h => absurd h (by simp), fun h => absurd h (by simp)⟩
      ·cases h
theorem toksA_good : ∀ (a : Nat) (l : List UInt8), ∀ ts, toksA a l = .ok ts → GT ts := by
 refine toksA_ind ?_ ?_ ?_ ?_ ?_
 ·intro a ts h; rw [toksA_nil] at h; injection h with h; subst h; intro t ht; rw [List.mem_singleton] at ht; subst ht; exact ⟨fun h => absurd h (by simp), fun h => absurd h (by simp), fun h => absurd h (by simp)⟩
 ·intro a c l hb ih ts h; rw [toksA_blk a hb] at h; exact ih ts h
 ·intro a c l hr ih ts h; rw [toksA_rem a hr] at h; exact ih ts h
 ·intro a c l off e hb hr hx ts h; rw [toksA_bad a hb hr hx] at h; cases h
 ·intro a c l k t n len hb hr ho ih ts h; rw [toksA_one a hb hr ho] at h; obtain ⟨us, h1, rfl⟩ := Out.cons_ok h; intro u hu
  rcases List.mem_cons.1 hu with rfl | hu
  ·exact oneP_good ho a
  ·exact ih us h1 u hu
theorem toks_good {s : List UInt8} {ts : List Tok} (h : toks s = .ok ts) : GT ts := toksA_good 0 s ts (toks_ok h).2
def Gd {α : Type} (f : List Tok → PR α) (P : α → Prop) : Prop := ∀ r x r1, GT r → f r = .ok x r1 → P x ∧ GT r1
theorem GT.tail {r : List Tok} (h : GT r) : GT r.tail := fun t ht => h t (List.mem_of_mem_tail ht)
theorem Gd.ok {α : Type} {P : α → Prop} (x : α) (h : P x) : Gd (fun r => .ok x r) P := fun r y r1 hg e => by
 injection e with e1 e2; subst e1; subst e2; exact ⟨h, hg⟩
theorem Gd.bad {α : Type} {P : α → Prop} (a : List Tok → Nat) (e : Nat) : Gd (fun r => (.bad (a r) e : PR α)) P := fun r y r1 hg e => by cases e
theorem Gd.bind {α β : Type} {f : List Tok → PR α} {g : α → List Tok → PR β} {P : α → Prop} {Q : β → Prop} (hf : Gd f P) (hg : ∀ x, P x → Gd (g x) Q) : Gd (fun r => (f r).bind g) Q := fun r y r1 h e => by
 obtain ⟨x, r2, h1, h2⟩ := bind_inv e; obtain ⟨k1, k2⟩ := hf r x r2 h h1; exact hg x k1 r2 y r1 k2 h2
theorem Gd.ite {α : Type} {c : List Tok → Bool} {f g : List Tok → PR α} {P : α → Prop} (hf : Gd f P) (hg : Gd g P) : Gd (fun r => if c r then f r else g r) P := fun r y r1 h e => by
 have e : (if c r then f r else g r) = .ok y r1 := e
 split at e
 ·exact hf r y r1 h e
 ·exact hg r y r1 h e
theorem Gd.tl {α : Type} {f : List Tok → PR α} {P : α → Prop} (hf : Gd f P) : Gd (fun r => f r.tail) P := fun r y r1 h e => hf r.tail y r1 h.tail e
theorem Gd.mono {α : Type} {f : List Tok → PR α} {P Q : α → Prop} (hf : Gd f P) (h : ∀ x, P x → Q x) : Gd f Q := fun r y r1 hg e => ⟨h y (hf r y r1 hg e).1, (hf r y r1 hg e).2⟩
theorem gd_name : Gd nameP NameOk := fun r x r1 h e => by
 cases r with
 | nil => cases e
 | cons t r =>
  have e : (if t.kind = 1 then PR.ok t.text r else .bad t.at_ 4) = .ok x r1 := e
  split at e
  ·rename_i hk
   injection e with e1 e2; subst e1; subst e2
   exact ⟨(h t (by simp)).1 hk, fun u hu => h u (by simp [hu])⟩
  ·cases e
theorem gd_want (s : List UInt8) : Gd (wantP s) (fun _ => True) := fun r x r1 h e => by
 unfold wantP at e
 split at e
 ·injection e with e1 e2; subst e2; exact ⟨trivial, h.tail⟩
 ·cases e
theorem gd_many {α : Type} {f : List Tok → PR α} {P : α → Prop} (hf : Gd f P) (c : List UInt8) : ∀ (n : Nat) (acc : List α), (∀ x ∈ acc, P x) → Gd (manyP f c n acc) (fun l => l ≠ [] ∧ ∀ x ∈ l, P x)
 | 0, acc, _ => fun r x r1 h e => by cases e
 | n + 1, acc, ha => fun r x r1 h e => by
  rw [manyP] at e; obtain ⟨y, r2, h1, h2⟩ := bind_inv e; obtain ⟨k1, k2⟩ := hf r y r2 h h1; have ha2 : ∀ z ∈ acc ++ [y], P z := fun z hz => by
   rcases List.mem_append.1 hz with hz | hz
   ·exact ha z hz
   ·rw [List.mem_singleton] at hz; subst hz; exact k1
  split at h2
  ·injection h2 with e1 e2; subst e1; subst e2; exact ⟨⟨by simp, ha2⟩, k2.tail⟩
  ·exact gd_many hf c n _ ha2 r2 x r1 k2 h2
theorem gd_any {α : Type} {f : List Tok → PR α} {P : α → Prop} (hf : Gd f P) (c : List UInt8) : ∀ (n : Nat) (acc : List α), (∀ x ∈ acc, P x) → Gd (anyP f c n acc) (fun l => ∀ x ∈ l, P x)
 | 0, acc, _ => fun r x r1 h e => by cases e
 | n + 1, acc, ha => fun r x r1 h e => by
  rw [anyP] at e
  split at e
  ·injection e with e1 e2; subst e1; subst e2; exact ⟨ha, h.tail⟩
  ·obtain ⟨y, r2, h1, h2⟩ := bind_inv e; obtain ⟨k1, k2⟩ := hf r y r2 h h1
   exact gd_any hf c n _ (fun z hz => by
    rcases List.mem_append.1 hz with hz | hz
    ·exact ha z hz
    ·rw [List.mem_singleton] at hz; subst hz; exact k1) r2 x r1 k2 h2
theorem Gd.fuel {α : Type} {F : Nat → List Tok → PR α} {P : α → Prop} (h : ∀ n, Gd (F n) P) (m : List Tok → Nat) : Gd (fun r => F (m r) r) P := fun r y r1 hg e => h (m r) r y r1 hg e
theorem gd_pair {f : List Tok → PR VT} {P : VT → Prop} (hf : Gd f P) : Gd (pairP f) (fun p => NameOk p.1 ∧ P p.2) :=
 gd_name.bind fun s hs => (gd_want _).bind fun _ _ => hf.bind fun v hv => Gd.ok _ ⟨hs, hv⟩
theorem gd_val (fx : Bool) : ∀ d, Gd (valueP fx d) (GoodV fx d)
 | 0 => fun r x r1 h e => by cases e
 | d + 1 => fun r x r1 h e => by
  have ih := gd_val fx d
  cases r with
  | nil => cases e
  | cons t r =>
   rw [valueP, vB_cons] at e; have ht := h t (by simp); have hr : GT r := fun u hu => h u (by simp [hu])
   split at e
   ·rename_i hk
    injection e with e1 e2; subst e1; subst e2
    exact ⟨.inl ⟨rfl, ht.2.1 hk, rfl, rfl, rfl⟩, hr⟩
   split at e
   ·rename_i hk
    injection e with e1 e2; subst e1; subst e2
    exact ⟨.inr (.inl ⟨rfl, rfl, ht.2.2 hk, rfl, rfl⟩), hr⟩
   split at e
   ·injection e with e1 e2; subst e1; subst e2
    exact ⟨.inr (.inr (.inl ⟨rfl, .inr rfl, rfl, rfl, rfl⟩)), hr⟩
   rename_i h1
   split at e
   ·injection e with e1 e2; subst e1; subst e2
    exact ⟨.inr (.inr (.inl ⟨rfl, .inl rfl, rfl, rfl, rfl⟩)), hr⟩
   rename_i h2
   split at e
   ·injection e with e1 e2; subst e1; subst e2
    exact ⟨.inr (.inr (.inr (.inl ⟨rfl, rfl, rfl, rfl, rfl⟩))), hr⟩
   rename_i h3
   split at e
   ·rename_i hk
    injection e with e1 e2; subst e1; subst e2
    have hw : ∀ s, isT s (t :: r) = true ↔ t.text = s := fun s => by simp [isT, isS, isW, hk]
    exact ⟨.inr (.inr (.inr (.inr (.inl ⟨rfl, rfl, ht.1 hk, fun q => h1 ((hw _).2 q), fun q => h2 ((hw _).2 q), fun q => h3 ((hw _).2 q), rfl, rfl⟩)))), hr⟩
   split at e
   ·rename_i hf
    rw [Bool.and_eq_true] at hf; obtain ⟨s, r2, k1, k2⟩ := bind_inv e; obtain ⟨g1, g2⟩ := gd_name r s r2 hr k1
    injection k2 with e1 e2; subst e1; subst e2
    exact ⟨.inr (.inr (.inr (.inr (.inr (.inl ⟨rfl, by simpa using hf.1, rfl, g1, rfl, rfl⟩))))), g2⟩
   split at e
   ·obtain ⟨vs, r2, k1, k2⟩ := bind_inv e; obtain ⟨g1, g2⟩ := gd_any ih _ _ [] (by simp) r vs r2 hr k1
    injection k2 with e1 e2; subst e1; subst e2
    exact ⟨.inr (.inr (.inr (.inr (.inr (.inr (.inl ⟨rfl, rfl, rfl, rfl, g1⟩)))))), g2⟩
   split at e
   ·obtain ⟨ps, r2, k1, k2⟩ := bind_inv e; obtain ⟨g1, g2⟩ := gd_any (gd_pair ih) _ _ [] (by simp) r ps r2 hr k1
    injection k2 with e1 e2; subst e1; subst e2
    exact ⟨.inr (.inr (.inr (.inr (.inr (.inr (.inr ⟨rfl, rfl, rfl, ps, rfl, rfl, g1⟩)))))), g2⟩
   ·cases e
theorem gd_bang {P : TR → Prop} {mk : Bool → TR} (h : ∀ b, P (mk b)) : Gd (bangP mk) P := Gd.ite (c := fun r => isT [33] r) (Gd.tl (Gd.ok _ (h true))) (Gd.ok _ (h false))
theorem gd_typ : ∀ d, Gd (typP d) (GoodT d)
 | 0 => fun r x r1 h e => by cases e
 | d + 1 => Gd.ite (c := fun r => isT [91] r) (Gd.tl ((gd_typ d).bind fun t ht => (gd_want [93]).bind (Q := GoodT (d + 1)) fun _ _ => gd_bang (mk := TR.ls t) fun b => ht)) (gd_name.bind fun s hs => gd_bang (P := GoodT (d + 1)) (mk := TR.nm s) fun b => hs)
theorem gd_arg (d : Nat) : Gd (argP d) (GoodA d) := gd_name.bind fun s hs => (gd_want _).bind fun _ _ => (gd_val false d).bind fun v hv => Gd.ok _ ⟨hs, hv⟩
theorem gd_args (d : Nat) : Gd (argsP d) (fun l => ∀ a ∈ l, GoodA d a) :=
 Gd.ite (c := fun r => isS [40] r) (fun r x r1 h e => by have := gd_many (gd_arg d) _ _ [] (by simp) _ x r1 h.tail e; exact ⟨this.1.2, this.2⟩) (Gd.ok _ (by simp))
theorem gd_dir (d : Nat) : Gd (dirP d) (GoodD d) := gd_name.bind fun s hs => (gd_args d).bind fun l hl => Gd.ok _ ⟨hs, hl⟩
theorem gd_dirs (d : Nat) : ∀ (n : Nat) (acc : List DR), (∀ x ∈ acc, GoodD d x) → Gd (dirsP d n acc) (fun l => ∀ x ∈ l, GoodD d x)
 | 0, acc, _ => fun r x r1 h e => by cases e
 | n + 1, acc, ha => fun r x r1 h e => by
  rw [dirsP] at e
  split at e
  ·obtain ⟨y, r2, h1, h2⟩ := bind_inv e; obtain ⟨k1, k2⟩ := gd_dir d _ y r2 h.tail h1
   exact gd_dirs d n _ (fun z hz => by
    rcases List.mem_append.1 hz with hz | hz
    ·exact ha z hz
    ·rw [List.mem_singleton] at hz; subst hz; exact k1) r2 x r1 k2 h2
  ·injection e with e1 e2; subst e1; subst e2; exact ⟨ha, h⟩
theorem gd_dirs' (d : Nat) : Gd (fun r => dirsP d (r.length + 1) [] r) (fun l => ∀ x ∈ l, GoodD d x) := fun r x r1 h e => gd_dirs d _ [] (by simp) r x r1 h e
theorem gd_sel (d : Nat) {g : List Tok → PR (List SL)} {G : List SL → Prop} (hg : Gd g G) : Gd (selP d g) (GoodSel d G) := fun r x r1 h e => by
 unfold selP at e
 split at e
 ·split at e
  ·obtain ⟨s, r2, h1, e⟩ := bind_inv e; obtain ⟨k1, q1⟩ := gd_name _ _ _ h.tail.tail h1; obtain ⟨ds, r3, h2, e⟩ := bind_inv e; obtain ⟨k2, q2⟩ := gd_dirs' d _ _ _ q1 h2; obtain ⟨sub, r4, h3, e⟩ := bind_inv e; obtain ⟨k3, q3⟩ := hg _ _ _ q2 h3
   injection e with e1 e2; subst e1; subst e2
   exact ⟨⟨k2, .inr (.inr ⟨rfl, rfl, rfl, .inr k1, rfl, k3⟩)⟩, q3⟩
  ·rename_i hon
   split at e
   ·rename_i hk
    obtain ⟨s, r2, h1, e⟩ := bind_inv e; obtain ⟨k1, q1⟩ := gd_name _ _ _ h.tail h1; obtain ⟨ds, r3, h2, e⟩ := bind_inv e; obtain ⟨k2, q2⟩ := gd_dirs' d _ _ _ q1 h2
    injection e with e1 e2; subst e1; subst e2
    refine ⟨⟨k2, .inr (.inl ⟨rfl, rfl, rfl, k1, ?_, rfl, rfl⟩)⟩, q2⟩
    intro hs
    cases hr : r.tail with
    | nil => rw [hr] at hk; cases hk
    | cons t u =>
     rw [hr] at hk h1 hon; have hk : t.kind = 1 := of_decide_eq_true hk; have h1 : (if t.kind = 1 then PR.ok t.text u else .bad t.at_ 4) = .ok s r2 := h1; rw [if_pos hk] at h1
     injection h1 with h1 _
     exact hon (by simp [isT, isS, isW, hk, h1, hs])
   ·obtain ⟨ds, r3, h2, e⟩ := bind_inv e; obtain ⟨k2, q2⟩ := gd_dirs' d _ _ _ h.tail h2; obtain ⟨sub, r4, h3, e⟩ := bind_inv e; obtain ⟨k3, q3⟩ := hg _ _ _ q2 h3
    injection e with e1 e2; subst e1; subst e2
    exact ⟨⟨k2, .inr (.inr ⟨rfl, rfl, rfl, .inl rfl, rfl, k3⟩)⟩, q3⟩
 ·obtain ⟨s, r2, h1, e⟩ := bind_inv e; obtain ⟨k1, q1⟩ := gd_name _ _ _ h h1; obtain ⟨p, r3, h2, e⟩ := bind_inv e; obtain ⟨k2, q2⟩ : ((p.1 = [] ∨ NameOk p.1) ∧ NameOk p.2) ∧ GT r3 := by
   split at h2
   ·obtain ⟨s2, r4, h3, h4⟩ := bind_inv h2; obtain ⟨k3, q3⟩ := gd_name _ _ _ q1.tail h3
    injection h4 with e1 e2; subst e1; subst e2
    exact ⟨⟨.inr k1, k3⟩, q3⟩
   ·injection h2 with e1 e2; subst e1; subst e2
    exact ⟨⟨.inl rfl, k1⟩, q1⟩
  obtain ⟨gs, r4, h3, e⟩ := bind_inv e; obtain ⟨k3, q3⟩ := gd_args d _ _ _ q2 h3; obtain ⟨ds, r5, h4, e⟩ := bind_inv e; obtain ⟨k4, q4⟩ := gd_dirs' d _ _ _ q3 h4; obtain ⟨sub, r6, h5, e⟩ := bind_inv e; obtain ⟨k5, q5⟩ : (sub = [] ∨ G sub) ∧ GT r6 := by
   split at h5
   ·have := hg _ _ _ q4 h5; exact ⟨.inr this.1, this.2⟩
   ·injection h5 with e1 e2; subst e1; subst e2; exact ⟨.inl rfl, q4⟩
  injection e with e1 e2; subst e1; subst e2
  exact ⟨⟨k4, .inl ⟨rfl, rfl, k2.1, k2.2, k3, k5⟩⟩, q5⟩
theorem gd_set : ∀ d, Gd (setP d) (GoodS d)
 | 0 => fun r x r1 h e => by cases e
 | d + 1 => (gd_want _).bind fun _ _ r x r1 h e => gd_many (gd_sel d (gd_set d)) _ _ [] (by simp) r x r1 h e
theorem gd_var : Gd varP (fun v => GoodI v.name v.t v.has v.v) :=
 (gd_want _).bind fun _ _ => gd_name.bind fun s hs => (gd_want _).bind fun _ _ => (gd_typ 24).bind fun t ht =>
  Gd.ite (c := fun r => isT [61] r) (Gd.tl ((gd_val true 24).bind fun v hv => Gd.ok _ ⟨hs, ht, .inl ⟨rfl, hv⟩⟩)) (Gd.ok _ ⟨hs, ht, .inr ⟨rfl, rfl⟩⟩)
theorem gd_op : Gd opP GoodO := by
 have h1 : Gd (fun r => if isT wMutation r then .ok true r.tail else (wantP wQuery r).bind fun _ r1 => .ok false r1) (fun _ => True) := Gd.ite (c := fun r => isT wMutation r) (Gd.tl (Gd.ok true trivial)) ((gd_want _).bind fun _ _ => Gd.ok false trivial); refine h1.bind fun m _ => Gd.bind (P := fun s => s = [] ∨ NameOk s) (Gd.ite (c := fun r => isK 1 r) (gd_name.mono fun _ h => .inr h) (Gd.ok _ (.inl rfl))) fun s hs => Gd.bind (P := fun vs => ∀ v ∈ vs, GoodI v.name v.t v.has v.v) (Gd.ite (c := fun r => isS [40] r) (fun r x r1 h e => ?_) (Gd.ok _ (by simp))) fun vs hv => (gd_set 24).bind fun sub hsub => Gd.ok _ ⟨hs, hv, hsub⟩
 have := gd_many gd_var _ _ [] (by simp) _ x r1 h.tail e; exact ⟨this.1.2, this.2⟩
theorem gd_frag : Gd fragP GoodF := fun r x r1 h e => by
 unfold fragP at e
 split at e
 ·cases e
 ·rename_i hon
  obtain ⟨s, r2, h1, e⟩ := bind_inv e; obtain ⟨k1, q1⟩ := gd_name _ _ _ h h1; obtain ⟨u, r3, h2, e⟩ := bind_inv e; obtain ⟨-, q2⟩ := gd_want _ _ _ _ q1 h2; obtain ⟨o, r4, h3, e⟩ := bind_inv e; obtain ⟨k3, q3⟩ := gd_name _ _ _ q2 h3; obtain ⟨sub, r5, h4, e⟩ := bind_inv e; obtain ⟨k4, q4⟩ := gd_set 24 _ _ _ q3 h4
  injection e with e1 e2; subst e1; subst e2
  refine ⟨⟨k1, fun hs => ?_, k3, k4⟩, q4⟩
  cases r with
  | nil => cases h1
  | cons t r =>
   have h1 : (if t.kind = 1 then PR.ok t.text r else .bad t.at_ 4) = .ok s r2 := h1
   split at h1
   ·rename_i hk
    injection h1 with h1 _
    exact hon (by simp only [isW, hk, decide_true, Bool.true_and, decide_eq_true_eq]; rw [h1]; exact hs)
   ·cases h1
theorem gd_doc : ∀ (n : Nat) (acc : DC), GoodDoc acc → Gd (docF n acc) (fun d => GoodDoc d ∧ (d.ops ≠ [] ∨ d.frags ≠ []))
 | 0, acc, _ => fun r x r1 h e => by cases e
 | n + 1, acc, ha => fun r x r1 h e => by
  rw [docF] at e; obtain ⟨d1, r2, h1, e⟩ := bind_inv e; obtain ⟨k1, q1⟩ : (GoodDoc d1 ∧ (d1.ops ≠ [] ∨ d1.frags ≠ [])) ∧ GT r2 := by
   unfold defP at h1; have app : ∀ {β : Type} {P : β → Prop} {l : List β} {y : β}, (∀ z ∈ l, P z) → P y → ∀ z ∈ l ++ [y], P z := fun hl hy z hz => by
    rcases List.mem_append.1 hz with hz | hz
    ·exact hl z hz
    ·rw [List.mem_singleton] at hz; subst hz; exact hy
   split at h1
   ·obtain ⟨sub, r3, h2, e⟩ := bind_inv h1; obtain ⟨k, q⟩ := gd_set 24 _ _ _ h h2
    injection e with e1 e2; subst e1; subst e2
    exact ⟨⟨⟨app ha.1 ⟨.inl rfl, by simp, k⟩, ha.2⟩, .inl (by simp)⟩, q⟩
   ·split at h1
    ·obtain ⟨f, r3, h2, e⟩ := bind_inv h1; obtain ⟨k, q⟩ := gd_frag _ _ _ h.tail h2
     injection e with e1 e2; subst e1; subst e2
     exact ⟨⟨⟨ha.1, app ha.2 k⟩, .inr (by simp)⟩, q⟩
    ·obtain ⟨o, r3, h2, e⟩ := bind_inv h1; obtain ⟨k, q⟩ := gd_op _ _ _ h h2
     injection e with e1 e2; subst e1; subst e2
     exact ⟨⟨⟨app ha.1 k, ha.2⟩, .inl (by simp)⟩, q⟩
  split at e
  ·injection e with e1 e2; subst e1; subst e2; exact ⟨k1, q1⟩
  ·exact gd_doc n d1 k1.1 r2 x r1 q1 e
theorem docP_good {s : List UInt8} {d : DC} (h : docP s = .ok d) : GoodDoc d ∧ (d.ops ≠ [] ∨ d.frags ≠ []) := by
 unfold docP at h
 cases ht : toks s with
 | bad a e => rw [ht] at h; cases h
 | ok ts =>
  rw [ht] at h; have h : (match docF (ts.length + 1) ⟨[], []⟩ ts with | .ok d _ => DR1.ok d | .bad a e => .bad a e) = .ok d := h
  cases hd : docF (ts.length + 1) ⟨[], []⟩ ts with
  | bad a e => rw [hd] at h; cases h
  | ok d1 r1 =>
   rw [hd] at h; injection h with h; subst h; exact (gd_doc _ ⟨[], []⟩ ⟨by simp, by simp⟩ ts d1 r1 (toks_good ht) hd).1
theorem LikeP.rel : ∀ {ts us : List Tok}, LikeP ts us → ∀ (E F : Tok), E.kind = F.kind → E.text = F.text → E.n = F.n → RelT (fun _ _ => True) (us ++ [F]) (ts ++ [E])
 | [], [], _, E, F, h1, h2, h3 => ⟨⟨h1.symm, h2.symm, h3.symm, trivial⟩, trivial⟩
 | [], _ :: _, h, _, _, _, _, _ => h.elim
 | _ :: _, [], h, _, _, _, _, _ => h.elim
 | t :: ts, u :: us, h, E, F, h1, h2, h3 => ⟨⟨h.1.1.symm, h.1.2.1.symm, h.1.2.2.symm, trivial⟩, LikeP.rel h.2 E F h1 h2 h3⟩
theorem LikeP.len : ∀ {ts us : List Tok}, LikeP ts us → ts.length = us.length
 | [], [], _ => rfl
 | [], _ :: _, h => h.elim
 | _ :: _, [], h => h.elim
 | t :: ts, u :: us, h => by simp only [List.length_cons]; rw [LikeP.len h.2]
theorem flat_len {α : Type} {T : α → List Tok} : ∀ {l : List α}, (∀ x ∈ l, 0 < (T x).length) → l.length ≤ (l.flatMap T).length
 | [], _ => by simp
 | x :: l, h => by
  have h1 := h x (by simp); have h2 := flat_len (l := l) (fun y hy => h y (by simp [hy])); rw [List.flatMap_cons, List.length_append, List.length_cons]; omega
theorem tok0_doc_len (d : DC) : d.ops.length + d.frags.length ≤ (tok0 (docI d)).length := by
 unfold docI; rw [tok0_sep rfl, List.flatMap_append, List.length_append, List.flatMap_map, List.flatMap_map]; have h1 := flat_len (T := fun o => tok0 (opI o)) (l := d.ops) (fun x _ => by show 0 < (_ :: _ : List Tok).length; simp); have h2 := flat_len (T := fun o => tok0 (frI o)) (l := d.frags) (fun x _ => by show 0 < (_ :: _ : List Tok).length; simp); omega
theorem doc_again {d : DC} (h : GoodDoc d) (hne : d.ops ≠ [] ∨ d.frags ≠ []) : ∃ ts, toksA 0 (ren (docI d)) = .ok ts ∧ ∃ r, docF (ts.length + 1) ⟨[], []⟩ ts = .ok d r := by
 obtain ⟨ts, h1, h2⟩ := toks_ren (docI d) 0 (ok_doc h [] Sep.nil); obtain ⟨E, hE⟩ : ∃ E : Tok, (⟨0, [], 0, 0 + (ren (docI d)).length⟩ : Tok) = E := ⟨_, rfl⟩; rw [hE] at h1; refine ⟨_, h1, ?_⟩
 have hr := h2.rel E ⟨0, [], 0, 0⟩ (by rw [← hE]) (by rw [← hE]) (by rw [← hE]); have he : EndR (tok0 (docI d) ++ [⟨0, [], 0, 0⟩]) := by
  have : ∀ l : List Tok, EndR (l ++ [⟨0, [], 0, 0⟩]) := fun l => by
   induction l with
   | nil => rfl
   | cons t l ih => cases l with
    | nil => exact ih
    | cons u l => exact ih
  exact this _
 have hs := doc_sim ((ts ++ [E]).length + 1) ⟨[], []⟩ _ _ _ hr he; rw [rd_doc (E := ⟨0, [], 0, 0⟩) rfl h hne (by rw [List.length_append, h2.len]; have := tok0_doc_len d; omega)] at hs
 cases hq : docF ((ts ++ [E]).length + 1) ⟨[], []⟩ (ts ++ [E]) with
 | ok x r =>
  rw [hq] at hs; have := hs.1; exact ⟨r, by rw [← this]⟩
 | bad a e => rw [hq] at hs; exact hs.elim
theorem docP_back {s : List UInt8} {d : DC} (h : docP s = .ok d) : docP (ren (docI d)) = .ok d ∨ docP (ren (docI d)) = .bad 0 2 := by
 obtain ⟨hg, hne⟩ := docP_good h; obtain ⟨ts, h1, r, h2⟩ := doc_again hg hne
 by_cases hl : 2000 < (ren (docI d)).length
 ·right
  unfold docP toks; rw [if_pos hl]
 ·left
  unfold docP; rw [toks_short (by omega), h1]
  show (match docF (ts.length + 1) ⟨[], []⟩ ts with | .ok d _ => DR1.ok d | .bad a e => .bad a e) = _
  rw [h2]
end Go.Proofs.YtnkpoddbbdmipaaGreatDoor
