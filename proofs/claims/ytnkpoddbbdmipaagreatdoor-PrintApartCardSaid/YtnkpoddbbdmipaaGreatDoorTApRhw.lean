/- . -/
import Derived.Test.YtnkpoddbbdmipaaGreatDoorTApRht
import Derived.Test.YtnkpoddbbdmipaaGreatDoorTApRhv
import Derived.Test.YtnkpoddbbdmipaaGreatDoorTApRtks
namespace Go.Proofs.YtnkpoddbbdmipaaGreatDoor
open Go Go.RowKit
open Go.Lib (hid)
set_option linter.unusedVariables false
set_option linter.unusedSimpArgs false
theorem isW_kind {s : List UInt8} {r : List Tok} (h : isW s r = true) : ∃ t r', r = t :: r' ∧ t.kind = 1 ∧ t.text = s := by
 cases r with
 | nil => cases h
 | cons t r' =>
  have h : (decide (t.kind = 1) && decide (t.text = s)) = true := h; rw [Bool.and_eq_true, decide_eq_true_eq, decide_eq_true_eq] at h; exact ⟨t, r', rfl, h.1, h.2⟩
theorem isW_pos {s : List UInt8} {r : List Tok} (h : isW s r = true) : isK 0 r = false := by
 obtain ⟨t, r', rfl, h1, -⟩ := isW_kind h
 show decide (t.kind = 0) = false
 rw [h1]; decide
theorem isW_notS {s s' : List UInt8} {r : List Tok} (h : isW s r = true) : isS s' r = false := by
 obtain ⟨t, r', rfl, h1, -⟩ := isW_kind h
 show (decide (t.kind = 4) && decide (t.text = s')) = false
 rw [h1]; rfl
set_option maxRecDepth 100000 in
theorem fword_any (b : Nat) (all : RL) (σ : PR Unit) (c : UInt8) (l : List UInt8) (hc : letB c = true) (w : World) (h : Rf w b all σ) :
  Calls Tryz.prog 42 #[.pointer (some ⟨b, 0, none⟩), .string ⟨(c :: l).toArray⟩] w fun e w' => e = .returned (.tuple #[]) ∧ Rf w' b all (σ.bind fun _ => wantP (c :: l)).unit ∧ Only (fun k => k = b) w w' := by
 obtain ⟨e0, ce, fz, he⟩ := h.err; have H := hid h; rw [fwant_took, h.word c l hc]
 rcases he with ⟨r, rfl, rfl⟩ | ⟨a, rfl, hc0⟩
 ·have T := hid (fWord_any b all (.ok () r) (c :: l) w h); obtain ⟨bb, hb⟩ := eX (tst (.ok () r : PR Unit) (isW (c :: l))); rw [hb] at T ⊢; have HBW := hid (show isW (c :: l) r = bb from hb); clear hb h; obtain ⟨s, hs⟩ := eX (c :: l); rw [hs] at T HBW ⊢; clear hs hc
  cases bb
  ·rw [if_neg (by decide)]; clear HBW
   go_enter Tryz.func42, Tryz.ntmps42
   go_wp2_with fail
   refine T.out.mono ?_
   rintro e w1 ⟨rfl, o1⟩; have J := hid (fFault_any b all (.ok () r) 4 (by decide) w1 (H.out.still o1)); have O1 := hid (o1.mono (T := fun k => k = b) (fun _ _ h => h.elim)); clear o1 ce fz
   go_wp2_with fail
   refine J.out.mono ?_
   rintro e w2 ⟨rfl, h2, o2⟩; have H2 := hid h2; have O2 := hid (O1.out.trans o2); clear h2 o2
   go_wp2_with fail
   first
    | exact ⟨rfl, H2.out, O2.out⟩
    | (go_ret; exact ⟨rfl, H2.out, O2.out⟩)
    | (refine bodyPost_ret (results_none rfl _ _ _) rfl ?_; exact ⟨rfl, H2.out, O2.out⟩)
  ·rw [if_pos rfl]
   go_enter Tryz.func42, Tryz.ntmps42
   go_wp2_with fail
   refine T.out.mono ?_
   rintro e w1 ⟨rfl, o1⟩; have h2 := H.out.still o1; clear ce fz; obtain ⟨g, off, cc, N, t, r', hr, i, bd, c0, c1, c2, c3, c4, fz, hi, hNc, hN, hcm, hgb, -⟩ := h2.next; have h3 := h2.step (isW_pos HBW.out) c1; have hO : Only (fun k => k = b) w (w1.setCell ⟨b, 1, none⟩ (.int .i64 ((i : Int) + 1))) := (o1.mono (T := fun k => k = b) (fun _ _ h => h.elim)).setCell (.inl rfl) _; have H3 := hid (show Rf _ b all (adv (.ok () r)) from h3); have HO := hid hO; clear h2 h3 hO o1 hr HBW
   go_wp2_with fail
   clear c0 c1 c2 c3 c4 fz
   go_end0
   exact ⟨rfl, H3.out, HO.out⟩
 ·have t1 : ((e0 : Int) == 0) = false := by simp; omega
  obtain ⟨h1, v, i, dv, c0, c1, c2, c3, c4, fz2⟩ := h.bad_cells; obtain ⟨x, hx⟩ := eX (IntKind.i64.wrap (i + 1)); have h2 : Rf (w.setCell ⟨b, 1, none⟩ (.int .i64 x)) b all (.bad a e0) := by
   obtain ⟨i', dv', bd', e', h, hs⟩ := h; exact ⟨_, _, _, _, (h.set 1 x all rfl).resolve_right (by omega), hs⟩
  have ho : Only (fun k => k = b) w (w.setCell ⟨b, 1, none⟩ (.int .i64 x)) := (Only.refl (fun k => k = b) w).setCell (.inl rfl) _; obtain ⟨w1, hw1⟩ := eX (w.setCell ⟨b, 1, none⟩ (.int .i64 x)); rw [hw1] at h2 ho; have HW1 := hid hw1; have H2 := hid (show Rf w1 b all (if tst (.bad a e0) (isW (c :: l)) then adv (.bad a e0) else flt (.bad a e0) 4) from h2); have HO := hid ho; clear h h2 ho hw1 hc0 c0 c2 c3 h1 H
  generalize (if tst (.bad a e0) (isW (c :: l)) then adv (.bad a e0) else flt (.bad a e0) 4 : PR Unit) = σ2 at *
  obtain ⟨s, hs⟩ := eX (c :: l); rw [hs]; clear hs hc
  go_enter Tryz.func42, Tryz.ntmps42
  go_wp2_with fail
  rw [HW1.out]; clear c1 c4 fz2 fz ce hx
  go_end0
  exact ⟨rfl, H2.out, HO.out⟩
section
variable {τ τ' α : Type} {total : PR α} {σ : PR Unit} {K : τ → Prop}
theorem Jn.map {K' : τ' → Prop} {F : τ → List Tok → PR α} {F' : τ' → List Tok → PR α} (f : τ → τ') (h : Jn total σ K F) (hF : ∀ t, F t = F' (f t)) (hK : ∀ t, K t → K' (f t)) : Jn total σ K' F' := by
 obtain ⟨Q, h1, h2, h3⟩ := h; refine ⟨Q.bind fun t r => .ok (f t) r, ?_, ?_, fun t q e => ?_⟩
 ·rw [h1]
  cases Q with
  | ok t q => exact congrFun (hF t) q
  | bad a e => rfl
 ·rw [h2]; cases Q <;> rfl
 ·cases Q with
  | ok t0 q0 => injection e with e1 e2; subst e1; exact hK _ (h3 _ _ rfl)
  | bad a c => cases e
theorem Jn.fail {F : τ → List Tok → PR α} {c : Nat} (h : Jn total σ K (fun _ r => .bad (atT r) c)) : Jn total (flt σ c) K F := by
 obtain ⟨Q, h1, h2, h3⟩ := h; refine ⟨Q.bind fun t r => .bad (atT r) c, ?_, ?_, fun t q e => ?_⟩
 ·rw [h1]; cases Q <;> rfl
 ·rw [h2]; cases Q <;> rfl
 ·cases Q <;> cases e
end
def fragQ (r : List Tok) : PR FR := (nameP r).bind fun s r1 => (wantP wOn r1).bind fun _ r2 => (nameP r2).bind fun o r3 => (setP 24 r3).bind fun sub r4 => .ok ⟨s, o, sub⟩ r4
theorem fragP_fun : fragP = fun r => if isW wOn r then .bad (atT r) 4 else fragQ r := rfl
def opS (m : Bool) (s : List UInt8) (vs : List VD) (r : List Tok) : PR OP := (setP 24 r).bind fun sub r4 => .ok ⟨m, s, vs, sub⟩ r4
def opV (m : Bool) (s : List UInt8) (r : List Tok) : PR OP := if isS [40] r then (manyP varP [41] (r.tail.length + 1) [] r.tail).bind fun vs r3 => opS m s vs r3 else opS m s [] r
def opN (m : Bool) (r : List Tok) : PR OP := if isK 1 r then (nameP r).bind fun s r2 => opV m s r2 else opV m [] r
def opdP (r : List Tok) : PR OP := if isS [123] r then opS false [] [] r else if isT wMutation r then opN true r.tail else (wantP wQuery r).bind fun _ r1 => opN false r1
theorem opV_eq (m : Bool) (s : List UInt8) (r2 : List Tok) : ((if isS [40] r2 then manyP varP [41] (r2.length + 1) [] r2.tail else .ok [] r2).bind fun vs r3 => (setP 24 r3).bind fun sub r4 => PR.ok (⟨m, s, vs, sub⟩ : OP) r4) = opV m s r2 := by
 unfold opV
 by_cases hb : isS [40] r2 = true
 ·have hl : r2.tail.length < r2.length := by
   cases r2 with
   | nil => cases hb
   | cons t r => simp
  rw [if_pos hb, if_pos hb, manyP_fuel varP_takes [41] (r2.length + 1) (r2.tail.length + 1) [] r2.tail (by omega) (by omega)]; rfl
 ·rw [if_neg hb, if_neg hb]; rfl
theorem opN_eq (m : Bool) (r1 : List Tok) : ((if isK 1 r1 then nameP r1 else .ok [] r1).bind fun s r2 => (if isS [40] r2 then manyP varP [41] (r2.length + 1) [] r2.tail else .ok [] r2).bind fun vs r3 => (setP 24 r3).bind fun sub r4 => PR.ok (⟨m, s, vs, sub⟩ : OP) r4) = opN m r1 := by
 simp only [opV_eq]; unfold opN
 by_cases hb : isK 1 r1 = true
 ·rw [if_pos hb, if_pos hb]
 ·rw [if_neg hb, if_neg hb]; rfl
theorem opP_eq (r : List Tok) : opP r = if isT wMutation r then opN true r.tail else (wantP wQuery r).bind fun _ r1 => opN false r1 := by
 unfold opP; simp only [opN_eq]
 by_cases hb : isT wMutation r = true
 ·rw [if_pos hb, if_pos hb]; rfl
 ·rw [if_neg hb, if_neg hb]
  cases wantP wQuery r <;> rfl
theorem opdP_takes : Takes opdP := fun r x r1 h => by
 unfold opdP at h
 by_cases hs : isS [123] r = true
 ·rw [if_pos hs] at h; unfold opS at h; obtain ⟨sub, r4, h1, h2⟩ := bind_inv h
  injection h2 with _ e; subst e
  exact setP_takes _ _ _ _ h1
 ·rw [if_neg hs, ← opP_eq] at h; exact opP_takes _ _ _ h
theorem defP_op (d : DC) {r : List Tok} (h : isT wFragment r = false) : defP d r = (opdP r).bind fun o r1 => .ok ⟨d.ops ++ [o], d.frags⟩ r1 := by
 unfold defP opdP
 by_cases hs : isS [123] r = true
 ·rw [if_pos hs, if_pos hs]; unfold opS
  cases setP 24 r <;> rfl
 ·rw [if_neg hs, if_neg hs, if_neg (by rw [h]; decide), opP_eq]
theorem defP_frag (d : DC) {r : List Tok} (h : isW wFragment r = true) : defP d r = (fragP r.tail).bind fun f r1 => .ok ⟨d.ops, d.frags ++ [f]⟩ r1 := by
 unfold defP; rw [if_neg (by rw [isW_notS h]; decide), if_pos (by show (isS wFragment r || isW wFragment r) = true; rw [h, Bool.or_true])]
def docS (first : Bool) (d : DC) (r : List Tok) : PR DC := if first then docF (r.length + 1) d r else if isK 0 r then .ok d r else docF (r.length + 1) d r
theorem doc_step {first : Bool} {d : DC} {r : List Tok} (h : first = true ∨ isK 0 r = false) : docS first d r = (defP d r).bind fun d1 r1 => docS false d1 r1 := by
 have e : docS first d r = docF (r.length + 1) d r := by
  unfold docS
  cases first with
  | true => rfl
  | false => rw [if_neg (by decide), if_neg (by rw [h.resolve_left (by decide)]; decide)]
 rw [e, docF]
 cases hq : defP d r with
 | bad a e => rfl
 | ok t r1 =>
  have hl := defP_takes _ _ _ _ hq
  show (if isK 0 r1 = true then PR.ok t r1 else docF r.length t r1) = docS false t r1
  unfold docS; rw [if_neg (show ¬ (false = true) by decide)]
  by_cases hk : isK 0 r1 = true
  ·rw [if_pos hk, if_pos hk]
  ·rw [if_neg hk, if_neg hk]; exact docF_fuel _ _ _ _ (by omega) (by omega)
def docG (total : PR DC) : DR1 := match total with | .ok d _ => .ok d | .bad a e => .bad a e
theorem docP_toks {s : List UInt8} {ts : List Tok} (h : toks s = .ok ts) : docP s = docG (docS true ⟨[], []⟩ ts) := by
 unfold docP; rw [h]
 show (match docF (ts.length + 1) ⟨[], []⟩ ts with | .ok d _ => DR1.ok d | .bad a e => .bad a e) = docG (docF (ts.length + 1) ⟨[], []⟩ ts)
 generalize docF (ts.length + 1) ⟨[], []⟩ ts = z
 cases z <;> rfl
def DocResF (w : World) (p : DR1) (e : Ending) (w' : World) : Prop := match p with
 | .ok d => ∃ a1 c1 a2 c2, e = .returned (.tuple #[.agg #[.slice a1 d.ops.length c1, .slice a2 d.frags.length c2], .int .i64 0, .int .i64 0]) ∧ CellsAt w' (fun q => w.heap.size ≤ q) (docC d) [.slice a1 d.ops.length c1, .slice a2 d.frags.length c2] ∧ Only (fun _ => False) w w'
 | .bad x c => e = .returned (.tuple #[.agg #[.slice none 0 0, .slice none 0 0], .int .i64 (x : Int), .int .i64 (c : Int)]) ∧ Only (fun _ => False) w w'
end Go.Proofs.YtnkpoddbbdmipaaGreatDoor
