/- . -/
import Derived.Test.YtnkpoddbbdmipaaGreatDoorUaPrx
import Derived.Test.YtnkpoddbbdmipaaGreatDoorUaTys
namespace Go.Proofs.YtnkpoddbbdmipaaGreatDoor
set_option linter.unusedVariables false
set_option linter.unusedSimpArgs false
def refD (t : TR) : DC := ⟨[⟨false, [], [⟨[97], t, false, VT.zero⟩], [.mk 1 [] [97] [] [] [] []]⟩], []⟩
def refI (l : List It) : List It := nmI wQuery :: .sp 32 :: sgI 40 :: sgI 36 :: nmI [97] :: sgI 58 :: .sp 32 :: (l ++ [sgI 41, .sp 32, sgI 123, .sp 32, nmI [97], .sp 32, sgI 125])
def refA : List UInt8 := [113, 117, 101, 114, 121, 32, 40, 36, 97, 58, 32]
def refB : List UInt8 := [41, 32, 123, 32, 97, 32, 125]
def refS (l : List UInt8) : List UInt8 := refA ++ (l ++ refB)
theorem ren_ref (l : List It) : ren (refI l) = refS (ren l) := by
 unfold refI refS; rw [show nmI wQuery :: .sp 32 :: sgI 40 :: sgI 36 :: nmI [97] :: sgI 58 :: .sp 32 :: (l ++ [sgI 41, .sp 32, sgI 123, .sp 32, nmI [97], .sp 32, sgI 125]) = [nmI wQuery, .sp 32, sgI 40, sgI 36, nmI [97], sgI 58, .sp 32] ++ (l ++ [sgI 41, .sp 32, sgI 123, .sp 32, nmI [97], .sp 32, sgI 125]) from rfl, ren_app, ren_app]
 rfl
theorem docI_ref (t : TR) : docI (refD t) = nmI wQuery :: sgI 40 :: sgI 36 :: nmI [97] :: sgI 58 :: .sp 32 :: (typI t ++ [sgI 41, .sp 32, sgI 123, .sp 32, nmI [97], .sp 32, sgI 125]) := by
 simp [docI, refD, sepI, opI, parI, varI, inpI, setI, brI, selsI, selI, headI, argsI]
theorem tok0_ref (t : TR) : tok0 (refI (typI t)) = tok0 (docI (refD t)) := by
 rw [docI_ref]; rfl
theorem nm_a : NameOk [97] := ⟨⟨97, [], rfl, by decide⟩, by intro c hc; rw [List.mem_singleton] at hc; subst hc; decide, by decide⟩
theorem GoodT.up : ∀ {d : Nat} {t : TR}, GoodT d t → ∀ e, d ≤ e → GoodT e t
 | 0, _, h, _, _ => h.elim
 | d + 1, .nm s _, h, e, he => by
  obtain ⟨e', rfl⟩ : ∃ e', e = e' + 1 := ⟨e - 1, by omega⟩; exact h
 | d + 1, .ls t _, h, e, he => by
  obtain ⟨e', rfl⟩ : ∃ e', e = e' + 1 := ⟨e - 1, by omega⟩; have h : GoodT d t := h; exact (h.up e' (by omega) : GoodT e' t)
def nmL : TR → Nat
 | .nm s _ => s.length
 | .ls t _ => nmL t
theorem plainL_let {c : UInt8} (h : plainL c = true) : letB c = true ∧ ldB c = true := by
 simp only [plainL, Bool.and_eq_true, decide_eq_true_eq] at h; have : letB c = true := by unfold letB; simp only [Bool.or_eq_true, Bool.and_eq_true, decide_eq_true_eq]; omega
 exact ⟨this, by unfold ldB; rw [this]; rfl⟩
theorem plain_good : ∀ (n : Nat) (t : TT), smallB n t = true → plainB (toTR t) = true → nmL (toTR t) ≤ 32 → GoodT n (toTR t)
 | 0, _, h, _, _ => by cases h
 | n + 1, .mk s of b, h, hp, hl => by
  match of, h with
  | [], h =>
   simp only [toTR] at hp hl ⊢; simp only [plainB, Bool.and_eq_true] at hp
   cases s with
   | nil => simp at hp
   | cons c r =>
    have hp := hp.1; refine ⟨⟨c, r, rfl, (plainL_let (List.all_eq_true.1 hp c (by simp))).1⟩, fun x hx => (plainL_let (List.all_eq_true.1 hp x hx)).2, hl⟩
  | [t], h =>
   simp only [smallB, Bool.and_eq_true, decide_eq_true_eq] at h; simp only [toTR] at hp hl ⊢; exact plain_good n t h.2 hp hl
  | _ :: _ :: _, h => cases h
theorem good_ref {t : TR} (h : GoodT 24 t) : GoodDoc (refD t) := by
 refine ⟨fun o ho => ?_, fun f hf => by cases hf⟩
 rw [show (refD t).ops = [⟨false, [], [⟨[97], t, false, VT.zero⟩], [.mk 1 [] [97] [] [] [] []]⟩] from rfl, List.mem_singleton] at ho; subst ho; refine ⟨.inl rfl, fun v hv => ?_, by simp, fun x hx => ?_⟩
 ·rw [List.mem_singleton] at hv; subst hv; exact ⟨nm_a, h, .inr ⟨rfl, rfl⟩⟩
 ·rw [List.mem_singleton] at hx; subst hx
  show (∀ x ∈ ([] : List DR), GoodD 23 x) ∧ _
  exact ⟨(fun x hx => by cases hx), .inl ⟨rfl, rfl, .inl rfl, nm_a, (fun a ha => by cases ha), .inl rfl⟩⟩
theorem nm_query : NameOk wQuery := ⟨⟨113, [117, 101, 114, 121], rfl, by decide⟩, by decide, by decide⟩
theorem okF_ref {t : TR} (h : GoodT 24 t) : OkF (refI (typI t)) [] := by
 have h1 := ok_doc (good_ref h) [] Sep.nil; rw [docI_ref] at h1; exact ⟨ok_nm nm_query (Sep.cons _ (by decide) (by decide)), by show blkB 32 = true; decide, h1.2⟩
theorem doc_like {l : List It} {d : DC} (hok : OkF l []) (ht : tok0 l = tok0 (docI d)) (h : GoodDoc d) (hne : d.ops ≠ [] ∨ d.frags ≠ []) (hl : (ren l).length ≤ 2000) : docP (ren l) = .ok d := by
 obtain ⟨ts, h1, h2⟩ := toks_ren l 0 hok; rw [ht] at h2; obtain ⟨E, hE⟩ : ∃ E : Tok, (⟨0, [], 0, 0 + (ren l).length⟩ : Tok) = E := ⟨_, rfl⟩; rw [hE] at h1; unfold docP; rw [toks_short hl, h1]; have hr := h2.rel E ⟨0, [], 0, 0⟩ (by rw [← hE]) (by rw [← hE]) (by rw [← hE]); have he : EndR (tok0 (docI d) ++ [⟨0, [], 0, 0⟩]) := by
  have : ∀ l : List Tok, EndR (l ++ [⟨0, [], 0, 0⟩]) := fun l => by
   induction l with
   | nil => rfl
   | cons t l ih => cases l with
    | nil => exact ih
    | cons u l => exact ih
  exact this _
 have hs := doc_sim ((ts ++ [E]).length + 1) ⟨[], []⟩ _ _ _ hr he; rw [rd_doc (E := ⟨0, [], 0, 0⟩) rfl h hne (by rw [List.length_append, h2.len]; have := tok0_doc_len d; omega)] at hs
 show (match docF ((ts ++ [E]).length + 1) ⟨[], []⟩ (ts ++ [E]) with | .ok d _ => DR1.ok d | .bad a e => .bad a e) = _
 cases hq : docF ((ts ++ [E]).length + 1) ⟨[], []⟩ (ts ++ [E]) with
 | ok x r =>
  rw [hq] at hs; have := hs.1; rw [← this]
 | bad a e => rw [hq] at hs; exact hs.elim
theorem toks_behind {p e : Nat} : ∀ (l : List It) (x : List UInt8) (a : Nat), OkF l x → toksA (a + (ren l).length) x = .bad p e → toksA a (ren l ++ x) = .bad p e
 | [], x, a, _, h => h
 | .sp c :: l, x, a, h, hx => by
  have hb : blkB c = true := h.1; rw [ren_cons]
  show toksA a (c :: (ren l ++ x)) = _
  rw [toksA_blk a hb]; exact toks_behind l x (a + 1) h.2 (by rw [show a + 1 + (ren l).length = a + (ren (.sp c :: l)).length from by rw [ren_cons, List.length_append]; show _ = a + (1 + _); omega]; exact hx)
 | .tk k s t n :: l, x, a, h, hx => by
  obtain ⟨c, s', rfl, hb, hr, ho⟩ := h.1; have ho : oneP (c :: (s' ++ (ren l ++ x))) = .ok k t n (c :: s').length := ho; rw [ren_cons]
  show toksA a (((c :: s') ++ ren l) ++ x) = _
  rw [List.append_assoc]
  show toksA a (c :: (s' ++ (ren l ++ x))) = _
  have hd : (c :: (s' ++ (ren l ++ x))).drop (c :: s').length = ren l ++ x := by
   rw [show c :: (s' ++ (ren l ++ x)) = (c :: s') ++ (ren l ++ x) from rfl, List.drop_left]
  rw [toksA_one a hb hr ho, hd, toks_behind l x (a + (c :: s').length) h.2 (by rw [show a + (c :: s').length + (ren l).length = a + (ren (.tk k (c :: s') t n :: l)).length from by rw [ren_cons, List.length_append, Nat.add_assoc]; rfl]; exact hx)]
  rfl
theorem typ_long : ∀ (t : TR) (a : Nat) (x : List UInt8), plainB t = true → 32 < nmL t → Sep x → ∃ p, toksA a (ren (typI t) ++ x) = .bad p 2
 | .nm s b, a, x, h, hl, hx => by
  simp only [plainB, Bool.and_eq_true] at h; have hl : 32 < s.length := hl
  cases s with
  | nil => simp at hl
  | cons c r =>
   have hp := h.1; have hc := (plainL_let (List.all_eq_true.1 hp c (by simp))).1; have hm := letter_misc hc; have hs : Sep ((if b then [33] else []) ++ x) := by
    cases b
    ·exact hx
    ·exact Sep.cons _ (by decide) (by decide)
   rw [show ren (typI (.nm (c :: r) b)) = (c :: r) ++ (if b then [33] else []) from by rw [typI, ren_cons]; cases b <;> rfl, List.append_assoc]; obtain ⟨y, hy⟩ := eX ((if b then [33] else []) ++ x); rw [hy] at hs ⊢; have hrun : runL ldB ((c :: r) ++ y) = (c :: r).length := by
    rw [runL_cut _ _ (.inr fun hr => ?_), runL_full _ (fun x hx => (plainL_let (List.all_eq_true.1 hp x hx)).2)]
    cases y with
    | nil => simp at hr
    | cons g r => exact (hs g r rfl).1
   refine ⟨a + 0, ?_⟩
   show toksA a (c :: (r ++ y)) = _
   refine toksA_bad a hm.1 hm.2 ?_
   rw [oneP_cons, if_pos hc, show c :: (r ++ y) = (c :: r) ++ y from rfl, hrun, if_pos hl]
 | .ls t b, a, x, h, hl, hx => by
  rw [show ren (typI (.ls t b)) = 91 :: (ren (typI t) ++ 93 :: (if b then [33] else [])) from by rw [typI, ren_cons, ren_app, ren_cons]; cases b <;> simp [bangI, ren, It.src, sgI]]; obtain ⟨p, hp⟩ := typ_long t (a + 1) (93 :: ((if b then [33] else []) ++ x)) h hl (Sep.cons _ (by decide) (by decide)); refine ⟨p, ?_⟩
  show toksA a (91 :: ((ren (typI t) ++ 93 :: (if b then [33] else [])) ++ x)) = _
  rw [List.append_assoc]; have ho : ∀ y, oneP (91 :: y) = .ok 4 [91] 0 1 := fun y => by
   rw [oneP_cons, if_neg (by decide), if_neg (by decide), if_neg (by decide), if_neg (by cases y <;> simp [dotsB]), if_pos (by decide)]
  rw [toksA_one a (by decide) (by decide) (ho _)]
  show (toksA (a + 1) (ren (typI t) ++ (93 :: ((if b then [33] else []) ++ x)))).cons _ = _
  rw [hp]; rfl
theorem refs_doc {t : TT} (h : smallB 20 t = true) (hp : plainB (toTR t) = true) : docP (refS (ren (typI (toTR t)))) = .ok (refD (toTR t)) ∨ ∃ p, docP (refS (ren (typI (toTR t)))) = .bad p 2 := by
 by_cases hl : 2000 < (refS (ren (typI (toTR t)))).length
 ·right
  refine ⟨0, ?_⟩
  unfold docP toks; rw [if_pos hl]
 by_cases hn : nmL (toTR t) ≤ 32
 ·left
  have hg := (plain_good 20 t h hp hn).up 24 (by omega); rw [← ren_ref] at hl ⊢; exact doc_like (okF_ref hg) (tok0_ref _) (good_ref hg) (.inl (by simp [refD])) (by omega)
 ·right
  obtain ⟨p, hq⟩ := typ_long (toTR t) (0 + refA.length) refB hp (by omega) (Sep.cons _ (by decide) (by decide)); refine ⟨p, ?_⟩
  have hk : OkF [nmI wQuery, .sp 32, sgI 40, sgI 36, nmI [97], sgI 58, .sp 32] (ren (typI (toTR t)) ++ refB) := by
   refine ⟨ok_nm nm_query (Sep.cons _ (by decide) (by decide)), by show blkB 32 = true; decide, ok_sg (by decide), ok_sg (by decide), ok_nm nm_a (Sep.cons _ (by decide) (by decide)), ok_sg (by decide), by show blkB 32 = true; decide, trivial⟩
  have := toks_behind _ _ 0 hk hq; unfold docP; rw [toks_short (by omega), show refS (ren (typI (toTR t))) = ren [nmI wQuery, .sp 32, sgI 40, sgI 36, nmI [97], sgI 58, .sp 32] ++ (ren (typI (toTR t)) ++ refB) from rfl, this]
end Go.Proofs.YtnkpoddbbdmipaaGreatDoor
