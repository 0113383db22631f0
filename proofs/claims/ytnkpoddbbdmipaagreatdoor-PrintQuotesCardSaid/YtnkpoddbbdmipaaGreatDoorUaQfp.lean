/- . -/
import Derived.Test.YtnkpoddbbdmipaaGreatDoorUaRfp
import Derived.Test.YtnkpoddbbdmipaaGreatDoorUaPrx
namespace Go.Proofs.YtnkpoddbbdmipaaGreatDoor
set_option linter.unusedVariables false
set_option linter.unusedSimpArgs false
def qutD (s : List UInt8) : DC := ⟨[⟨false, [], [], [.mk 1 [] [97] [] [⟨[98], .mk 2 0 s [] []⟩] [] []]⟩], []⟩
def qutI (s : List UInt8) : List It := [sgI 123, nmI [97], sgI 40, nmI [98], sgI 58, quI s, sgI 41, sgI 125]
def qutA : List UInt8 := [123, 97, 40, 98, 58]
def qutB : List UInt8 := [41, 125]
def qutS (q : List UInt8) : List UInt8 := qutA ++ (q ++ qutB)
theorem ren_qut (s : List UInt8) : ren (qutI s) = qutS (quoS s) := by
 unfold qutI qutS; rw [show [sgI 123, nmI [97], sgI 40, nmI [98], sgI 58, quI s, sgI 41, sgI 125] = [sgI 123, nmI [97], sgI 40, nmI [98], sgI 58] ++ ([quI s] ++ [sgI 41, sgI 125]) from rfl, ren_app, ren_app]; rw [show ren [quI s] = quoS s from by rw [ren_cons, ren_nil, List.append_nil]; rfl]
 rfl
theorem nm_b : NameOk [98] := ⟨⟨98, [], rfl, by decide⟩, by intro c hc; rw [List.mem_singleton] at hc; subst hc; decide, by decide⟩
theorem doc_read {l : List It} {d : DC} (hok : OkF l []) (hd : ∀ n, docF (n + 1) ⟨[], []⟩ (tok0 l ++ [⟨0, [], 0, 0⟩]) = .ok d [⟨0, [], 0, 0⟩]) (hl : (ren l).length ≤ 2000) : docP (ren l) = .ok d := by
 obtain ⟨ts, h1, h2⟩ := toks_ren l 0 hok; obtain ⟨E, hE⟩ : ∃ E : Tok, (⟨0, [], 0, 0 + (ren l).length⟩ : Tok) = E := ⟨_, rfl⟩; rw [hE] at h1; unfold docP; rw [toks_short hl, h1]; have hr := h2.rel E ⟨0, [], 0, 0⟩ (by rw [← hE]) (by rw [← hE]) (by rw [← hE]); have he : EndR (tok0 l ++ [⟨0, [], 0, 0⟩]) := by
  have : ∀ l : List Tok, EndR (l ++ [⟨0, [], 0, 0⟩]) := fun l => by
   induction l with
   | nil => rfl
   | cons t l ih => cases l with
    | nil => exact ih
    | cons u l => exact ih
  exact this _
 have hs := doc_sim ((ts ++ [E]).length + 1) ⟨[], []⟩ _ _ _ hr he; rw [hd] at hs
 show (match docF ((ts ++ [E]).length + 1) ⟨[], []⟩ (ts ++ [E]) with | .ok d _ => DR1.ok d | .bad a e => .bad a e) = _
 cases hq : docF ((ts ++ [E]).length + 1) ⟨[], []⟩ (ts ++ [E]) with
 | ok x r =>
  rw [hq] at hs; have := hs.1; rw [← this]
 | bad a e => rw [hq] at hs; exact hs.elim
theorem quot_doc {s : List UInt8} (h : s.length ≤ 200) : docP (qutS (quoS s)) = .ok (qutD s) := by
 rw [← ren_qut]; refine doc_read ?_ (fun n => ?_) ?_
 ·exact ⟨ok_sg (by decide), ok_nm nm_a (Sep.cons _ (by decide) (by decide)), ok_sg (by decide), ok_nm nm_b (Sep.cons _ (by decide) (by decide)), ok_sg (by decide), ok_qu h, ok_sg (by decide), ok_sg (by decide), trivial⟩
 ·obtain ⟨l, hl⟩ : ∃ l : List SL, [.mk 1 [] [97] [] [⟨[98], .mk 2 0 s [] []⟩] [] []] = l := ⟨_, rfl⟩; have hg : GoodS 24 l := by
   rw [← hl]; refine ⟨by simp, fun x hx => ?_⟩
   rw [List.mem_singleton] at hx; subst hx
   show (∀ x ∈ ([] : List DR), GoodD 23 x) ∧ _
   refine ⟨(fun x hx => by cases hx), .inl ⟨rfl, rfl, .inl rfl, nm_a, (fun a ha => ?_), .inl rfl⟩⟩
   rw [List.mem_singleton] at ha; subst ha; exact ⟨nm_b, .inr (.inl ⟨rfl, rfl, h, rfl, rfl⟩)⟩
  have e : tok0 (qutI s) = tok0 (setI l) := by
   rw [← hl]; simp [setI, brI, selsI, selI, headI, argsI, parI, argI, pairI, sepI, valI, qutI, tok0]
   rfl
  rw [e, docF]; have hb : isS [123] (tok0 (setI l) ++ [⟨0, [], 0, 0⟩]) = true := by rw [← e]; rfl
  unfold defP; rw [if_pos hb, rd_set 24 l hg]; rw [← hl]; rfl
 ·rw [ren_qut]; have := escS_len s; unfold qutS quoS; simp only [List.length_append, List.length_cons, List.length_nil, qutA, qutB]; omega
end Go.Proofs.YtnkpoddbbdmipaaGreatDoor
