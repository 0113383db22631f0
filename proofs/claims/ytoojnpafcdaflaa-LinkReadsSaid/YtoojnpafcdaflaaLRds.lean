/- columbarylaw17.LinkReads: the walk. -/
import Derived.Test.YtoojnpafcdaflaaLdt
import Derived.Test.YtoojnpafcdaflaaLnkA
namespace Go.Proofs.Ytoojnpafcdaflaa
open Go Go.RowKit
set_option linter.unusedVariables false
set_option linter.unusedSimpArgs false
set_option maxRecDepth 100000

theorem box7f {w : World} {g : Nat} {c0 c1 c2 c3 c4 c5 c6 : Value} {T : TypeId} (h : w.heap[g]? = some (.cells #[c0, c1, c2, c3, c4, c5, c6] T (0, 0))) :
    w.cell? ⟨g, 0, none⟩ = some c0 ∧ w.cell? ⟨g, 1, none⟩ = some c1 ∧ w.cell? ⟨g, 2, none⟩ = some c2 ∧ w.cell? ⟨g, 3, none⟩ = some c3 ∧ w.cell? ⟨g, 4, none⟩ = some c4 ∧ w.cell? ⟨g, 5, none⟩ = some c5 ∧ w.cell? ⟨g, 6, none⟩ = some c6 := by
  refine ⟨?_, ?_, ?_, ?_, ?_, ?_, ?_⟩ <;> simp [World.cell?, h]
/-- What DecodeAsk tells, by its number. -/
def AskCase (w : World) (l : List UInt8) (c : Int) (cs : List Value) (w' : World) : Prop :=
  (c ≠ 0 ∧ cs = [.int .i64 0, .slice none 0 0, .int .u64 0, .slice none 0 0] ∧ (OpenCode l c ∨ (Sealed l ∧ c = 3))) ∨ (c = 0 ∧ ∃ m a, l = sealed m ∧ AskOf m a ∧ AskAt w' (fun q => w.heap.size ≤ q) a cs)
def TellCase (w : World) (l : List UInt8) (c : Int) (cs : List Value) (w' : World) : Prop :=
  (c ≠ 0 ∧ cs = [.int .i64 0, .int .u64 0, .slice none 0 0, .int .u64 0, .int .u64 0, .slice none 0 0, .slice none 0 0] ∧ (OpenCode l c ∨ (Sealed l ∧ c = 3))) ∨ (c = 0 ∧ ∃ m a, l = sealed m ∧ TellOf m a ∧ TellAt w' (fun q => w.heap.size ≤ q) a cs)
theorem RDa.case {w w' : World} {l : List UInt8} {e : Ending} (h : RDa w l e w') : ∃ (c : Int) (d0 d1 d2 d3 : Value), e = .returned (.tuple #[.agg #[d0, d1, d2, d3], .int .i64 c]) ∧ Only (fun _ => False) w w' ∧ AskCase w l c [d0, d1, d2, d3] w' ∧ ∀ u ∈ [d0, d1, d2, d3], u.oneCell' = true := by
  obtain ⟨ho, ⟨c, h1, h2, rfl⟩ | ⟨m, h1, h2, rfl⟩ | ⟨m, a, cs, h1, h2, rfl, h3⟩⟩ := h
  · exact ⟨c, _, _, _, _, rfl, ho, .inl ⟨h2, rfl, .inl h1⟩, (by intro v hv; simp only [List.mem_cons, List.not_mem_nil, or_false] at hv; rcases hv with rfl | rfl | rfl | rfl <;> rfl)⟩
  · exact ⟨3, _, _, _, _, rfl, ho, .inl ⟨by decide, rfl, .inr ⟨⟨m, h1⟩, rfl⟩⟩, (by intro v hv; simp only [List.mem_cons, List.not_mem_nil, or_false] at hv; rcases hv with rfl | rfl | rfl | rfl <;> rfl)⟩
  · have h3' := h3
    obtain ⟨ak, ck, al, cl, rfl, _⟩ := h3
    exact ⟨0, _, _, _, _, rfl, ho, .inr ⟨rfl, m, a, h1, h2, h3'⟩, (by intro v hv; simp only [List.mem_cons, List.not_mem_nil, or_false] at hv; rcases hv with rfl | rfl | rfl | rfl <;> rfl)⟩
theorem RDt.case {w w' : World} {l : List UInt8} {e : Ending} (h : RDt w l e w') : ∃ (c : Int) (d0 d1 d2 d3 d4 d5 d6 : Value), e = .returned (.tuple #[.agg #[d0, d1, d2, d3, d4, d5, d6], .int .i64 c]) ∧ Only (fun _ => False) w w' ∧ TellCase w l c [d0, d1, d2, d3, d4, d5, d6] w' ∧ ∀ u ∈ [d0, d1, d2, d3, d4, d5, d6], u.oneCell' = true := by
  obtain ⟨ho, ⟨c, h1, h2, rfl⟩ | ⟨m, h1, h2, rfl⟩ | ⟨m, a, cs, h1, h2, rfl, h3⟩⟩ := h
  · exact ⟨c, _, _, _, _, _, _, _, rfl, ho, .inl ⟨h2, rfl, .inl h1⟩, (by intro v hv; simp only [List.mem_cons, List.not_mem_nil, or_false] at hv; rcases hv with rfl | rfl | rfl | rfl | rfl | rfl | rfl <;> rfl)⟩
  · exact ⟨3, _, _, _, _, _, _, _, rfl, ho, .inl ⟨by decide, rfl, .inr ⟨⟨m, h1⟩, rfl⟩⟩, (by intro v hv; simp only [List.mem_cons, List.not_mem_nil, or_false] at hv; rcases hv with rfl | rfl | rfl | rfl | rfl | rfl | rfl <;> rfl)⟩
  · have h3' := h3
    obtain ⟨ak, ck, ax, cx, ag, cg, rfl, _⟩ := h3
    exact ⟨0, _, _, _, _, _, _, _, rfl, ho, .inr ⟨rfl, m, a, h1, h2, h3'⟩, (by intro v hv; simp only [List.mem_cons, List.not_mem_nil, or_false] at hv; rcases hv with rfl | rfl | rfl | rfl | rfl | rfl | rfl <;> rfl)⟩
theorem sealed_code {l : List UInt8} {c : Int} (h : Sealed l) (hc : OpenCode l c) : c = 0 := hc.one (.inr (.inr ⟨h, rfl⟩))
/-- Where it is sealed: the number is 0 or 3; where it is not: that of Open. -/
theorem ask_num {w w' : World} {l : List UInt8} {c g : Int} {cs : List Value} (h : AskCase w l c cs w') (hg : OpenCode l g) : (g ≠ 0 → c = g) ∧ (g = 0 → c = 0 ∨ c = 3) := by
  have hs : Sealed l ↔ g = 0 := ⟨fun h => sealed_code h hg, fun e => by
    subst e
    rcases hg with ⟨_, h⟩ | ⟨_, _, h⟩ | ⟨h, _⟩
    · cases h
    · cases h
    · exact h⟩
  rcases h with ⟨h1, _, h2 | ⟨h2, h3⟩⟩ | ⟨h1, m, a, h2, _⟩
  · exact ⟨fun _ => h2.one hg, fun e => by have := h2.one hg; omega⟩
  · have := hs.1 h2; exact ⟨fun h => absurd this h, fun _ => .inr h3⟩
  · have := hs.1 ⟨m, h2⟩; exact ⟨fun h => absurd this h, fun _ => .inl h1⟩
theorem tell_num {w w' : World} {l : List UInt8} {c g : Int} {cs : List Value} (h : TellCase w l c cs w') (hg : OpenCode l g) : (g ≠ 0 → c = g) ∧ (g = 0 → c = 0 ∨ c = 3) := by
  have hs : Sealed l ↔ g = 0 := ⟨fun h => sealed_code h hg, fun e => by
    subst e
    rcases hg with ⟨_, h⟩ | ⟨_, _, h⟩ | ⟨h, _⟩
    · cases h
    · cases h
    · exact h⟩
  rcases h with ⟨h1, _, h2 | ⟨h2, h3⟩⟩ | ⟨h1, m, a, h2, _⟩
  · exact ⟨fun _ => h2.one hg, fun e => by have := h2.one hg; omega⟩
  · have := hs.1 h2; exact ⟨fun h => absurd this h, fun _ => .inr h3⟩
  · have := hs.1 ⟨m, h2⟩; exact ⟨fun h => absurd this h, fun _ => .inl h1⟩
theorem encF_each {α : Type} (enc : α → List UInt8) (f : α → List UInt8) (hf : ∀ x, (f x).length ≤ (enc x).length) : ∀ (xs : List α), ∀ x ∈ xs, (f x).length ≤ (encF enc xs).length
  | [], x, h => by cases h
  | y :: ys, x, h => by
    simp only [encF, List.length_append]
    rcases List.mem_cons.1 h with e | h
    · subst e; have := hf x; omega
    · have := encF_each enc f hf ys x h; omega
/-- What was read is written as it was read. -/
theorem ask_again {w w' w2 : World} {l : List UInt8} {cs : List Value} (h : AskCase w l 0 cs w') (hl : l.length ≤ 1000000) (hw : ∀ a, AskAt w' (fun q => w.heap.size ≤ q) a cs → AskAt w2 (fun q => q < w2.heap.size) a cs) :
    Calls Try.prog 53 #[.agg cs.toArray] w2 (Makes w2 l) := by
  rcases h with ⟨h, _⟩ | ⟨_, m, a, rfl, h1, h2⟩
  · exact absurd rfl h
  obtain ⟨rfl, hok⟩ := ask_canon h1
  obtain ⟨k1, k2, k3, k4, k5, k6⟩ := hok
  have hle : (encAsk a).length ≤ 1000000 := by rw [sealed_len] at hl; omega
  refine wEncAsk a _ w2 cs (hw a h2) (fun q hq => hq) (fun x hx => ⟨form_good _ 0 (k6 x hx).2.2.1, ?_⟩) ⟨by omega, by omega⟩ (by omega)
  have h3 := encF_each encM1 (fun x => encV x.2.2) (fun x => by unfold encM1 encM; simp only [List.length_append]; omega) a.ms x hx
  unfold encAsk encQ at hle
  simp only [List.length_append] at hle
  omega
theorem tell_again {w w' w2 : World} {l : List UInt8} {cs : List Value} (h : TellCase w l 0 cs w') (hl : l.length ≤ 1000000) (hw : ∀ a, TellAt w' (fun q => w.heap.size ≤ q) a cs → TellAt w2 (fun q => q < w2.heap.size) a cs) :
    Calls Try.prog 51 #[.agg cs.toArray] w2 (Makes w2 l) := by
  rcases h with ⟨h, _⟩ | ⟨_, m, a, rfl, h1, h2⟩
  · exact absurd rfl h
  obtain ⟨rfl, hok⟩ := tell_canon h1
  obtain ⟨k1, k2, k3, k4, k5, k6, k7, k8, k9, k10⟩ := hok
  have hle : (encTell a).length ≤ 1000000 := by rw [sealed_len] at hl; omega
  refine wEncTell a _ w2 cs (hw a h2) (fun q hq => hq) (fun x hx => ⟨form_good _ 0 (k8 x hx).2.2.1, ?_⟩) ⟨by omega, by omega, by omega⟩ (by omega)
  have h3 := encF_each encE1 (fun x => encV (objV x.2.2.1 x.2.2.2)) (fun x => by unfold encE1 encE; simp only [List.length_append]; omega) a.xs x hx
  unfold encTell encQ at hle
  simp only [List.length_append] at hle
  omega
theorem AskAt.weaken {w : World} {G G' : Nat → Prop} {a : AskV} {cs : List Value} (h : AskAt w G a cs) (hG : ∀ q, q < w.heap.size → G q → G' q) : AskAt w G' a cs := by
  obtain ⟨ak, ck, al, cl, e, h1, h2, h3, h4, h5, h6⟩ := h
  exact ⟨ak, ck, al, cl, e, h1, h2, h3, h4, h5.weaken textP_weakens hG, h6.weaken mutP_weakens hG⟩
theorem TellAt.weaken {w : World} {G G' : Nat → Prop} {t : TellV} {cs : List Value} (h : TellAt w G t cs) (hG : ∀ q, q < w.heap.size → G q → G' q) : TellAt w G' t cs := by
  obtain ⟨ak, ck, ax, cx, ag, cg, e, h1, h2, h3, h4, h5, h6, h7, h8, h9, h10⟩ := h
  exact ⟨ak, ck, ax, cx, ag, cg, e, h1, h2, h3, h4, h5, h6, h7, h8.weaken textP_weakens hG, h9.weaken entP_weakens hG, h10.weaken textP_weakens hG⟩
theorem AskAt.later {w w' w2 : World} {a : AskV} {cs : List Value} (h : AskAt w' (fun q => w.heap.size ≤ q) a cs) (ho : Only (fun _ => False) w' w2) : AskAt w2 (fun q => q < w2.heap.size) a cs := (h.only ho (fun _ _ h => h)).weaken (fun q hq _ => hq)
theorem TellAt.later {w w' w2 : World} {a : TellV} {cs : List Value} (h : TellAt w' (fun q => w.heap.size ≤ q) a cs) (ho : Only (fun _ => False) w' w2) : TellAt w2 (fun q => q < w2.heap.size) a cs := (h.only ho (fun _ _ h => h)).weaken (fun q hq _ => hq)
theorem awk17r (w : World) : Calls Try.prog 42 #[] w fun e w' => e = .returned (.bool true) ∧ Only (fun _ => False) w w' :=
  (awake_true w).mono fun e w' ⟨h1, h2⟩ => ⟨h1, Only.ofBelow h2 _⟩

set_option maxHeartbeats 16000000 in
theorem reads0 (v : Value) (l : List UInt8) (sb : Bool) (w : World) (hv : Bytes w v l) :
    Calls Try.prog 16 #[v, .bool sb] w fun e w' => e = .returned (.bool true) ∧ Below w.heap.size w w' := by
  have HV := Lib.hid hv
  obtain ⟨a, c, rfl, q1, q2, q3⟩ := hv
  clear q3
  have hb2 : (l.length : Int) ≤ 9223372036854775807 := by omega
  obtain ⟨l1, hl1⟩ : ∃ b, b = decide (3000 < l.length) := ⟨_, rfl⟩
  have ht1 : decide ((3000 : Int) < (l.length : Int)) = l1 := by rw [hl1]; exact decide_eq_decide.2 (by omega)
  have ht2 : decide (3000 < l.length) = l1 := hl1.symm
  have HL1 := Lib.hid hl1; clear hl1
  go_enter Try.func16, Try.ntmps16
  go_wp2_with fail
  refine (awk17r _).mono ?_
  rintro e w1 ⟨rfl, o1⟩
  have O1 := Lib.hid o1; clear o1
  cases l1 with
  | true =>
    go_wp2_with fail
    refine (awk17r _).mono ?_
    rintro e w9 ⟨rfl, o9⟩
    have O9 := Lib.hid o9; clear o9
    go_wp2_with fail
    go_ret
    exact ⟨rfl, (O1.out.trans O9.out).still⟩
  | false =>
  have h3 : l.length ≤ 3000 := by have := HL1.out; simp at this; exact this
  have HV1 := Lib.hid (HV.out.still O1.out)
  have H3 := Lib.hid h3; clear h3
  cases sb with
  | false =>
    go_wp2_with ((refine wpList_append8 (o := ⟨some 22, _, _, _, _, _⟩) rfl (.tmp 20) (.tmp 21) (by rfl) w1.heap.size _ _ [] l (by rfl) (by rfl) (Own8.nil w1 _) HV1.out (by have := H3.out; simp; omega) (Nat.le_refl _) ?_; intro L a3 c3 w3 hL h3 g3))
    have e3 := hL.out
    rw [List.nil_append] at e3
    subst e3
    have o3 := g3.out.step (Only.refl (fun _ => False) w1) (fun k hk => by cases hk)
    have hb3 := h3.out.bytes
    have hv3 := HV1.out.still o3
    have O3 := Lib.hid (O1.out.trans o3); have HB3 := Lib.hid hb3; have HV3 := Lib.hid hv3; clear o3 hb3 hv3 h3 g3 hL
    have hda := dcda_any _ L w3 HB3.out (by have := H3.out; omega)
    have HDA := Lib.hid hda; clear hda
    go_wp2_with fail
    refine HDA.out.mono ?_
    rintro e w5 hr5
    obtain ⟨ca, d0, d1, d2, d3, rfl, o5, hac, h1a⟩ := hr5.case
    have hz5 := heap_new w5 (.cells #[.int .i64 0, .slice none 0 0, .int .u64 0, .slice none 0 0] 89)
    have oz5 := (Only.refl (fun _ => False) w5).alloc (.cells #[.int .i64 0, .slice none 0 0, .int .u64 0, .slice none 0 0] 89)
    have HZ5 := Lib.hid hz5; have OZ5 := Lib.hid oz5; have H1A := Lib.hid h1a; have HAC := Lib.hid hac; have O5 := Lib.hid (O3.out.trans o5); have HBQ := Lib.hid (HB3.out.still o5); clear hz5 oz5 h1a hac o5 hr5
    have hzz := zero_Ask
    go_wp2_with ((refine wpList_store_box (o := ⟨none, _, _, _, _, _⟩) rfl 89 (.tmp 6) (.tmp 29) (by rfl) w5.heap.size [.int .i64 0, .slice none 0 0, .int .u64 0, .slice none 0 0] [d0, d1, d2, d3] (by rfl) (by rfl) HZ5.out rfl (by kernel_rfl) H1A.out ?_; intro w6 h6x o6x; clear hzz))
    have h56 : Only (fun _ => False) w5 w6 := OZ5.out.trans' o6x (fun q hq e => by omega)
    have hb6 := HBQ.out.still h56
    have hdt := dcdt_any _ L w6 hb6 (by have := H3.out; omega)
    have HDT := Lib.hid hdt; have O6 := Lib.hid (O5.out.trans h56); have HXA := Lib.hid h6x; have HB6 := Lib.hid hb6; have H56 := Lib.hid h56; clear hdt h56 h6x hb6 o6x
    refine HDT.out.mono ?_
    rintro e w7 hr7
    obtain ⟨ct, f0, f1, f2, f3, f4, f5, f6, rfl, o7, htc, h1t⟩ := hr7.case
    have hz7 := heap_new w7 (.cells #[.int .i64 0, .int .u64 0, .slice none 0 0, .int .u64 0, .int .u64 0, .slice none 0 0, .slice none 0 0] 83)
    have oz7 := (Only.refl (fun _ => False) w7).alloc (.cells #[.int .i64 0, .int .u64 0, .slice none 0 0, .int .u64 0, .int .u64 0, .slice none 0 0, .slice none 0 0] 83)
    have HZ7 := Lib.hid hz7; have OZ7 := Lib.hid oz7; have H1T := Lib.hid h1t; have HTC := Lib.hid htc; have O7 := Lib.hid o7; clear hz7 oz7 h1t htc o7 hr7
    have hzz := zero_Tell
    go_wp2_with ((refine wpList_store_box (o := ⟨none, _, _, _, _, _⟩) rfl 83 (.tmp 8) (.tmp 34) (by rfl) w7.heap.size [.int .i64 0, .int .u64 0, .slice none 0 0, .int .u64 0, .int .u64 0, .slice none 0 0, .slice none 0 0] [f0, f1, f2, f3, f4, f5, f6] (by rfl) (by rfl) HZ7.out rfl (by kernel_rfl) H1T.out ?_; intro w8 h8x o8x; clear hzz))
    have h78 : Only (fun _ => False) w7 w8 := OZ7.out.trans' o8x (fun q hq e => by omega)
    have h68 := O7.out.trans h78
    have hb8 := HB6.out.still h68
    have hro := rOpen _ L w8 hb8 (by have := H3.out; omega)
    have hxa8 := (h68.block _ (Array.getElem?_eq_some_iff.1 HXA.out).1 (fun h => h)).trans HXA.out
    have h58 : Only (fun _ => False) w5 w8 := H56.out.trans h68
    have HRO := Lib.hid hro; have O8 := Lib.hid (O6.out.trans h68); have HXT := Lib.hid h8x; have HXA8 := Lib.hid hxa8; have HB8 := Lib.hid hb8; have H78 := Lib.hid h78; have H58 := Lib.hid h58; clear hro h8x hxa8 hb8 h78 h58 h68 o8x
    refine HRO.out.mono ?_
    rintro e w9 hr9
    obtain ⟨v9, cg, rfl, hcg, o9⟩ := hr9.code
    have hna := ask_num HAC.out hcg
    have hnt := tell_num HTC.out hcg
    have HNA := Lib.hid hna; have HNT := Lib.hid hnt; have O9 := Lib.hid (O8.out.trans o9); have HXA9 := Lib.hid ((o9.block _ (Array.getElem?_eq_some_iff.1 HXA8.out).1 (fun h => h)).trans HXA8.out); have HXT9 := Lib.hid ((o9.block _ (Array.getElem?_eq_some_iff.1 HXT.out).1 (fun h => h)).trans HXT.out); have HB9 := Lib.hid (HB8.out.still o9); have H59 := Lib.hid (H58.out.trans o9); have H79 := Lib.hid (H78.out.trans o9)
    clear hna hnt hr9 hcg o9
    by_cases hg0 : cg = 0
    rotate_left
    · have e1 := HNA.out.1 hg0
      have e2 := HNT.out.1 hg0
      subst e1
      subst e2
      have t0 : (ct != 0) = true := by simpa using hg0
      have t9 : (ct == ct) = true := by simp
      clear hg0
      go_wp2_with fail
      go_ret
      exact ⟨rfl, O9.out.still⟩
    subst hg0
    have hfin : ∀ wq, Only (fun _ => False) w9 wq → Below w.heap.size w wq := fun wq h => (O9.out.trans h).still
    have HFIN := Lib.hid hfin; clear hfin
    have hnot : ca = 0 → ct = 0 → False := fun h1 h2 => by
      subst h1; subst h2
      rcases HAC.out with ⟨h, _⟩ | ⟨_, m, a', g1, g2, _⟩
      · exact h rfl
      rcases HTC.out with ⟨h, _⟩ | ⟨_, m', t', k1, k2, _⟩
      · exact h rfl
      have := sealed_inj (g1.symm.trans k1)
      subst this
      exact ask_not_tell g2 k2
    rcases HNA.out.2 rfl with ea | ea <;> rcases HNT.out.2 rfl with et | et
    · exact (hnot ea et).elim
    · subst ea; subst et
      clear hnot
      have hag := fun w2 (h : Only (fun _ => False) w9 w2) => ask_again (w2 := w2) HAC.out (by have := H3.out; omega) (fun a' ha => ha.later (H59.out.trans h))
      have HAG := Lib.hid hag; clear hag
      go_wp2_with fail
      refine wp_region_steps 21 (by kernel_rfl) rfl (by kernel_rfl) [some 51, some 52, some 53, some 54, some 55, some 56, some 57, some 58, some 59, some 60, some 61, some 62, some 63, some 64, some 65, some 66, some 67, some 68, some 69, some 70, some 71] rfl rfl (fun _ => False) [(fun v _ => v = (.int .i64 0)), (fun v _ => v = (.bool true)), (fun v _ => v = (.bool true)), (fun v _ => v = (.agg #[d0, d1, d2, d3])), (fun v w1 => Bytes w1 v L), (fun v _ => v = (.string ⟨L.toArray⟩)), (fun v _ => v = (.slice a3 L.length c3)), (fun v _ => v = (.string ⟨L.toArray⟩)), (fun v _ => v = (.bool false)), (fun v _ => v = (.bool false)), (fun v _ => v = (.bool false)), (fun v _ => v = (.int .i64 3)), (fun v _ => v = (.bool false)), (fun v _ => v = (.bool false)), (fun v w1 => True), (fun v w1 => True), (fun v w1 => True), (fun v w1 => True), (fun v w1 => True), (fun v w1 => True), (fun v _ => v = (.bool false))] rfl ⟨?_, ?_, ?_, ?_, ?_, ?_, ?_, ?_, ?_, ?_, ?_, ?_, ?_, ?_, ?_, ?_, ?_, ?_, ?_, ?_, ?_, trivial⟩ _ rfl ⟨?_, ?_, ?_, ?_, ?_, ?_, ?_, ?_, ?_, ?_, ?_, ?_, ?_, ?_, ?_, ?_, ?_, ?_, ?_, ?_, ?_, trivial⟩ ?_
      · exact Stable.is _ _
      · exact Stable.is _ _
      · exact Stable.is _ _
      · exact Stable.is _ _
      · exact (fun v w1 w2 h ho => h.still ho)
      · exact Stable.is _ _
      · exact Stable.is _ _
      · exact Stable.is _ _
      · exact Stable.is _ _
      · exact Stable.is _ _
      · exact Stable.is _ _
      · exact Stable.is _ _
      · exact Stable.is _ _
      · exact Stable.is _ _
      · intro v w1 w2 h ho; exact h
      · intro v w1 w2 h ho; exact h
      · intro v w1 w2 h ho; exact h
      · intro v w1 w2 h ho; exact h
      · intro v w1 w2 h ho; exact h
      · intro v w1 w2 h ho; exact h
      · exact Stable.is _ _
      · intro x wx ox hN TT HTT
        clear hN
        unfold StepTo
        simp only [putAll, Act.put, List.setIfInBounds_toArray, List.set_cons_succ, List.set_cons_zero]
        go_wp2_with fail
        exact ⟨rfl, _, rfl, HTT.out _ _ (rfl) (Only.refl _ _)⟩
      · intro x wx ox hN TT HTT
        have r51 : x 0 = (.int .i64 0) := hN.1 rfl
        clear hN
        unfold StepTo
        simp only [putAll, Act.put, List.setIfInBounds_toArray, List.set_cons_succ, List.set_cons_zero, r51]
        clear r51
        go_wp2_with fail
        exact ⟨rfl, _, rfl, HTT.out _ _ (rfl) (Only.refl _ _)⟩
      · intro x wx ox hN TT HTT
        have r52 : x 1 = (.bool true) := hN.1 rfl
        clear hN
        unfold StepTo
        simp only [putAll, Act.put, List.setIfInBounds_toArray, List.set_cons_succ, List.set_cons_zero, r52]
        clear r52
        go_wp2_with fail
        exact ⟨rfl, _, rfl, HTT.out _ _ (rfl) (Only.refl _ _)⟩
      · intro x wx ox hN TT HTT
        have r53 : x 2 = (.bool true) := hN.1 rfl
        clear hN
        unfold StepTo
        simp only [putAll, Act.put, List.setIfInBounds_toArray, List.set_cons_succ, List.set_cons_zero, r53]
        clear r53
        obtain ⟨z0, z1, z2, z3⟩ := box4 ((ox.block _ (Array.getElem?_eq_some_iff.1 HXA9.out).1 (fun h => h)).trans HXA9.out)
        go_wp2_with fail
        exact ⟨rfl, _, rfl, HTT.out _ _ (rfl) (Only.refl _ _)⟩
      · intro x wx ox hN TT HTT
        have r54 : x 3 = (.agg #[d0, d1, d2, d3]) := hN.1 rfl
        have r53 : x 2 = (.bool true) := hN.2.1 rfl
        clear hN
        unfold StepTo
        simp only [putAll, Act.put, List.setIfInBounds_toArray, List.set_cons_succ, List.set_cons_zero, r54, r53]
        clear r54 r53
        have hc := HAG.out wx (((Only.refl _ w9).drew).trans ox)
        have HC := Lib.hid hc; clear hc
        go_wp2_with fail
        refine HC.out.mono ?_
        rintro e w6' ⟨v6, rfl, h6, o6⟩
        go_wp2_with fail
        exact ⟨rfl, _, rfl, HTT.out _ _ (h6.bytes) (o6)⟩
      · intro x wx ox hN TT HTT
        have r55 : (fun (v : Value) (w1 : World) => Bytes w1 v L) (x 4) wx := hN.1 rfl
        have r53 : x 2 = (.bool true) := hN.2.1 rfl
        clear hN
        unfold StepTo
        simp only [putAll, Act.put, List.setIfInBounds_toArray, List.set_cons_succ, List.set_cons_zero, r53]
        clear r53
        have hcv := r55.conv
        go_wp2_with fail
        exact ⟨rfl, _, rfl, HTT.out _ _ (rfl) (Only.refl _ _)⟩
      · intro x wx ox hN TT HTT
        have r53 : x 2 = (.bool true) := hN.1 rfl
        clear hN
        unfold StepTo
        simp only [putAll, Act.put, List.setIfInBounds_toArray, List.set_cons_succ, List.set_cons_zero, r53]
        clear r53
        go_wp2_with fail
        exact ⟨rfl, _, rfl, HTT.out _ _ (rfl) (Only.refl _ _)⟩
      · intro x wx ox hN TT HTT
        have r57 : x 6 = (.slice a3 L.length c3) := hN.1 rfl
        have r53 : x 2 = (.bool true) := hN.2.1 rfl
        clear hN
        unfold StepTo
        simp only [putAll, Act.put, List.setIfInBounds_toArray, List.set_cons_succ, List.set_cons_zero, r57, r53]
        clear r57 r53
        have hcv := (HB9.out.still (((Only.refl _ w9).drew).trans ox)).conv
        go_wp2_with fail
        exact ⟨rfl, _, rfl, HTT.out _ _ (rfl) (Only.refl _ _)⟩
      · intro x wx ox hN TT HTT
        have r56 : x 5 = (.string ⟨L.toArray⟩) := hN.1 rfl
        have r58 : x 7 = (.string ⟨L.toArray⟩) := hN.2.1 rfl
        have r53 : x 2 = (.bool true) := hN.2.2.1 rfl
        clear hN
        unfold StepTo
        simp only [putAll, Act.put, List.setIfInBounds_toArray, List.set_cons_succ, List.set_cons_zero, r56, r58, r53]
        clear r56 r58 r53
        go_wp2_with fail
        exact ⟨rfl, _, rfl, HTT.out _ _ (rfl) (Only.refl _ _)⟩
      · intro x wx ox hN TT HTT
        have r53 : x 2 = (.bool true) := hN.1 rfl
        have r59 : x 8 = (.bool false) := hN.2.1 rfl
        clear hN
        unfold StepTo
        simp only [putAll, Act.put, List.setIfInBounds_toArray, List.set_cons_succ, List.set_cons_zero, r53, r59]
        clear r53 r59
        go_wp2_with fail
        exact ⟨rfl, _, rfl, HTT.out _ _ (rfl) (Only.refl _ _)⟩
      · intro x wx ox hN TT HTT
        have r60 : x 9 = (.bool false) := hN.1 rfl
        have r55 : (fun (v : Value) (w1 : World) => Bytes w1 v L) (x 4) wx := hN.2.1 rfl
        clear hN
        unfold StepTo
        simp only [putAll, Act.put, List.setIfInBounds_toArray, List.set_cons_succ, List.set_cons_zero, r60]
        clear r60
        go_wp2_with fail
        exact ⟨rfl, _, rfl, HTT.out _ _ (rfl) (Only.refl _ _)⟩
      · intro x wx ox hN TT HTT
        have r61 : x 10 = (.bool false) := hN.1 rfl
        clear hN
        unfold StepTo
        simp only [putAll, Act.put, List.setIfInBounds_toArray, List.set_cons_succ, List.set_cons_zero, r61]
        clear r61
        go_wp2_with fail
        exact ⟨rfl, _, rfl, HTT.out _ _ (rfl) (Only.refl _ _)⟩
      · intro x wx ox hN TT HTT
        have r62 : x 11 = (.int .i64 3) := hN.1 rfl
        have r61 : x 10 = (.bool false) := hN.2.1 rfl
        clear hN
        unfold StepTo
        simp only [putAll, Act.put, List.setIfInBounds_toArray, List.set_cons_succ, List.set_cons_zero, r62, r61]
        clear r62 r61
        go_wp2_with fail
        exact ⟨rfl, _, rfl, HTT.out _ _ (rfl) (Only.refl _ _)⟩
      · intro x wx ox hN TT HTT
        have r63 : x 12 = (.bool false) := hN.1 rfl
        have r61 : x 10 = (.bool false) := hN.2.1 rfl
        clear hN
        unfold StepTo
        simp only [putAll, Act.put, List.setIfInBounds_toArray, List.set_cons_succ, List.set_cons_zero, r63, r61]
        clear r63 r61
        go_wp2_with fail
        exact ⟨rfl, _, rfl, HTT.out _ _ (rfl) (Only.refl _ _)⟩
      · intro x wx ox hN TT HTT
        have r64 : x 13 = (.bool false) := hN.1 rfl
        clear hN
        unfold StepTo
        simp only [putAll, Act.put, List.setIfInBounds_toArray, List.set_cons_succ, List.set_cons_zero, r64]
        clear r64
        go_wp2_with fail
        exact ⟨rfl, _, rfl, HTT.out _ _ (trivial) (Only.refl _ _)⟩
      · intro x wx ox hN TT HTT
        have r65 : (fun (v : Value) (w1 : World) => True) (x 14) wx := hN.1 rfl
        have r64 : x 13 = (.bool false) := hN.2.1 rfl
        clear hN
        unfold StepTo
        simp only [putAll, Act.put, List.setIfInBounds_toArray, List.set_cons_succ, List.set_cons_zero, r64]
        clear r64
        go_wp2_with fail
        exact ⟨rfl, _, rfl, HTT.out _ _ (trivial) (Only.refl _ _)⟩
      · intro x wx ox hN TT HTT
        have r66 : (fun (v : Value) (w1 : World) => True) (x 15) wx := hN.1 rfl
        have r64 : x 13 = (.bool false) := hN.2.1 rfl
        clear hN
        unfold StepTo
        simp only [putAll, Act.put, List.setIfInBounds_toArray, List.set_cons_succ, List.set_cons_zero, r64]
        clear r64
        go_wp2_with fail
        exact ⟨rfl, _, rfl, HTT.out _ _ (trivial) (Only.refl _ _)⟩
      · intro x wx ox hN TT HTT
        have r64 : x 13 = (.bool false) := hN.1 rfl
        clear hN
        unfold StepTo
        simp only [putAll, Act.put, List.setIfInBounds_toArray, List.set_cons_succ, List.set_cons_zero, r64]
        clear r64
        go_wp2_with fail
        exact ⟨rfl, _, rfl, HTT.out _ _ (trivial) (Only.refl _ _)⟩
      · intro x wx ox hN TT HTT
        have r68 : (fun (v : Value) (w1 : World) => True) (x 17) wx := hN.1 rfl
        have r64 : x 13 = (.bool false) := hN.2.1 rfl
        clear hN
        unfold StepTo
        simp only [putAll, Act.put, List.setIfInBounds_toArray, List.set_cons_succ, List.set_cons_zero, r64]
        clear r64
        go_wp2_with fail
        exact ⟨rfl, _, rfl, HTT.out _ _ (trivial) (Only.refl _ _)⟩
      · intro x wx ox hN TT HTT
        have r67 : (fun (v : Value) (w1 : World) => True) (x 16) wx := hN.1 rfl
        have r69 : (fun (v : Value) (w1 : World) => True) (x 18) wx := hN.2.1 rfl
        have r64 : x 13 = (.bool false) := hN.2.2.1 rfl
        clear hN
        unfold StepTo
        simp only [putAll, Act.put, List.setIfInBounds_toArray, List.set_cons_succ, List.set_cons_zero, r64]
        clear r64
        go_wp2_with fail
        exact ⟨rfl, _, rfl, HTT.out _ _ (trivial) (Only.refl _ _)⟩
      · intro x wx ox hN TT HTT
        have r64 : x 13 = (.bool false) := hN.1 rfl
        have r70 : (fun (v : Value) (w1 : World) => True) (x 19) wx := hN.2.1 rfl
        have r61 : x 10 = (.bool false) := hN.2.2.1 rfl
        clear hN
        unfold StepTo
        simp only [putAll, Act.put, List.setIfInBounds_toArray, List.set_cons_succ, List.set_cons_zero, r64, r61]
        clear r64 r61
        go_wp2_with fail
        exact ⟨rfl, _, rfl, HTT.out _ _ (rfl) (Only.refl _ _)⟩
      intro xa wxa oxa hN
      have r51 : xa 0 = (.int .i64 0) := hN.1
      have r52 : xa 1 = (.bool true) := hN.2.1
      have r53 : xa 2 = (.bool true) := hN.2.2.1
      have r54 : xa 3 = (.agg #[d0, d1, d2, d3]) := hN.2.2.2.1
      have r55 : (fun (v : Value) (w1 : World) => Bytes w1 v L) (xa 4) wxa := hN.2.2.2.2.1
      have r56 : xa 5 = (.string ⟨L.toArray⟩) := hN.2.2.2.2.2.1
      have r57 : xa 6 = (.slice a3 L.length c3) := hN.2.2.2.2.2.2.1
      have r58 : xa 7 = (.string ⟨L.toArray⟩) := hN.2.2.2.2.2.2.2.1
      have r59 : xa 8 = (.bool false) := hN.2.2.2.2.2.2.2.2.1
      have r60 : xa 9 = (.bool false) := hN.2.2.2.2.2.2.2.2.2.1
      have r61 : xa 10 = (.bool false) := hN.2.2.2.2.2.2.2.2.2.2.1
      have r62 : xa 11 = (.int .i64 3) := hN.2.2.2.2.2.2.2.2.2.2.2.1
      have r63 : xa 12 = (.bool false) := hN.2.2.2.2.2.2.2.2.2.2.2.2.1
      have r64 : xa 13 = (.bool false) := hN.2.2.2.2.2.2.2.2.2.2.2.2.2.1
      have r65 : (fun (v : Value) (w1 : World) => True) (xa 14) wxa := hN.2.2.2.2.2.2.2.2.2.2.2.2.2.2.1
      have r66 : (fun (v : Value) (w1 : World) => True) (xa 15) wxa := hN.2.2.2.2.2.2.2.2.2.2.2.2.2.2.2.1
      have r67 : (fun (v : Value) (w1 : World) => True) (xa 16) wxa := hN.2.2.2.2.2.2.2.2.2.2.2.2.2.2.2.2.1
      have r68 : (fun (v : Value) (w1 : World) => True) (xa 17) wxa := hN.2.2.2.2.2.2.2.2.2.2.2.2.2.2.2.2.2.1
      have r69 : (fun (v : Value) (w1 : World) => True) (xa 18) wxa := hN.2.2.2.2.2.2.2.2.2.2.2.2.2.2.2.2.2.2.1
      have r70 : (fun (v : Value) (w1 : World) => True) (xa 19) wxa := hN.2.2.2.2.2.2.2.2.2.2.2.2.2.2.2.2.2.2.2.1
      have r71 : xa 20 = (.bool false) := hN.2.2.2.2.2.2.2.2.2.2.2.2.2.2.2.2.2.2.2.2.1
      clear hN
      simp only [putAll, Act.put, List.setIfInBounds_toArray, List.set_cons_succ, List.set_cons_zero, r51, r52, r53, r54, r56, r57, r58, r59, r60, r61, r62, r63, r64, r71]
      clear r51 r52 r53 r54 r56 r57 r58 r59 r60 r61 r62 r63 r64 r71
      have HOA := Lib.hid (HFIN.out _ (((Only.refl _ w9).drew).trans oxa)); clear oxa
      go_wp2_with fail
      go_ret
      exact ⟨rfl, HOA.out⟩
    · subst ea; subst et
      clear hnot
      have hag := fun w2 (h : Only (fun _ => False) w9 w2) => tell_again (w2 := w2) HTC.out (by have := H3.out; omega) (fun a' ha => ha.later (H79.out.trans h))
      have HAG := Lib.hid hag; clear hag
      go_wp2_with fail
      refine wp_region_steps 21 (by kernel_rfl) rfl (by kernel_rfl) [some 51, some 52, some 53, some 54, some 55, some 56, some 57, some 58, some 59, some 60, some 61, some 62, some 63, some 64, some 65, some 66, some 67, some 68, some 69, some 70, some 71] rfl rfl (fun _ => False) [(fun v _ => v = (.int .i64 3)), (fun v _ => v = (.bool false)), (fun v _ => v = (.bool false)), (fun v w1 => True), (fun v w1 => True), (fun v w1 => True), (fun v w1 => True), (fun v w1 => True), (fun v w1 => True), (fun v _ => v = (.bool false)), (fun v _ => v = (.bool false)), (fun v _ => v = (.int .i64 0)), (fun v _ => v = (.bool true)), (fun v _ => v = (.bool true)), (fun v _ => v = (.agg #[f0, f1, f2, f3, f4, f5, f6])), (fun v w1 => Bytes w1 v L), (fun v _ => v = (.string ⟨L.toArray⟩)), (fun v _ => v = (.slice a3 L.length c3)), (fun v _ => v = (.string ⟨L.toArray⟩)), (fun v _ => v = (.bool false)), (fun v _ => v = (.bool false))] rfl ⟨?_, ?_, ?_, ?_, ?_, ?_, ?_, ?_, ?_, ?_, ?_, ?_, ?_, ?_, ?_, ?_, ?_, ?_, ?_, ?_, ?_, trivial⟩ _ rfl ⟨?_, ?_, ?_, ?_, ?_, ?_, ?_, ?_, ?_, ?_, ?_, ?_, ?_, ?_, ?_, ?_, ?_, ?_, ?_, ?_, ?_, trivial⟩ ?_
      · exact Stable.is _ _
      · exact Stable.is _ _
      · exact Stable.is _ _
      · intro v w1 w2 h ho; exact h
      · intro v w1 w2 h ho; exact h
      · intro v w1 w2 h ho; exact h
      · intro v w1 w2 h ho; exact h
      · intro v w1 w2 h ho; exact h
      · intro v w1 w2 h ho; exact h
      · exact Stable.is _ _
      · exact Stable.is _ _
      · exact Stable.is _ _
      · exact Stable.is _ _
      · exact Stable.is _ _
      · exact Stable.is _ _
      · exact (fun v w1 w2 h ho => h.still ho)
      · exact Stable.is _ _
      · exact Stable.is _ _
      · exact Stable.is _ _
      · exact Stable.is _ _
      · exact Stable.is _ _
      · intro x wx ox hN TT HTT
        clear hN
        unfold StepTo
        simp only [putAll, Act.put, List.setIfInBounds_toArray, List.set_cons_succ, List.set_cons_zero]
        go_wp2_with fail
        exact ⟨rfl, _, rfl, HTT.out _ _ (rfl) (Only.refl _ _)⟩
      · intro x wx ox hN TT HTT
        have r51 : x 0 = (.int .i64 3) := hN.1 rfl
        clear hN
        unfold StepTo
        simp only [putAll, Act.put, List.setIfInBounds_toArray, List.set_cons_succ, List.set_cons_zero, r51]
        clear r51
        go_wp2_with fail
        exact ⟨rfl, _, rfl, HTT.out _ _ (rfl) (Only.refl _ _)⟩
      · intro x wx ox hN TT HTT
        have r52 : x 1 = (.bool false) := hN.1 rfl
        clear hN
        unfold StepTo
        simp only [putAll, Act.put, List.setIfInBounds_toArray, List.set_cons_succ, List.set_cons_zero, r52]
        clear r52
        go_wp2_with fail
        exact ⟨rfl, _, rfl, HTT.out _ _ (rfl) (Only.refl _ _)⟩
      · intro x wx ox hN TT HTT
        have r53 : x 2 = (.bool false) := hN.1 rfl
        clear hN
        unfold StepTo
        simp only [putAll, Act.put, List.setIfInBounds_toArray, List.set_cons_succ, List.set_cons_zero, r53]
        clear r53
        go_wp2_with fail
        exact ⟨rfl, _, rfl, HTT.out _ _ (trivial) (Only.refl _ _)⟩
      · intro x wx ox hN TT HTT
        have r54 : (fun (v : Value) (w1 : World) => True) (x 3) wx := hN.1 rfl
        have r53 : x 2 = (.bool false) := hN.2.1 rfl
        clear hN
        unfold StepTo
        simp only [putAll, Act.put, List.setIfInBounds_toArray, List.set_cons_succ, List.set_cons_zero, r53]
        clear r53
        go_wp2_with fail
        exact ⟨rfl, _, rfl, HTT.out _ _ (trivial) (Only.refl _ _)⟩
      · intro x wx ox hN TT HTT
        have r55 : (fun (v : Value) (w1 : World) => True) (x 4) wx := hN.1 rfl
        have r53 : x 2 = (.bool false) := hN.2.1 rfl
        clear hN
        unfold StepTo
        simp only [putAll, Act.put, List.setIfInBounds_toArray, List.set_cons_succ, List.set_cons_zero, r53]
        clear r53
        go_wp2_with fail
        exact ⟨rfl, _, rfl, HTT.out _ _ (trivial) (Only.refl _ _)⟩
      · intro x wx ox hN TT HTT
        have r53 : x 2 = (.bool false) := hN.1 rfl
        clear hN
        unfold StepTo
        simp only [putAll, Act.put, List.setIfInBounds_toArray, List.set_cons_succ, List.set_cons_zero, r53]
        clear r53
        go_wp2_with fail
        exact ⟨rfl, _, rfl, HTT.out _ _ (trivial) (Only.refl _ _)⟩
      · intro x wx ox hN TT HTT
        have r57 : (fun (v : Value) (w1 : World) => True) (x 6) wx := hN.1 rfl
        have r53 : x 2 = (.bool false) := hN.2.1 rfl
        clear hN
        unfold StepTo
        simp only [putAll, Act.put, List.setIfInBounds_toArray, List.set_cons_succ, List.set_cons_zero, r53]
        clear r53
        go_wp2_with fail
        exact ⟨rfl, _, rfl, HTT.out _ _ (trivial) (Only.refl _ _)⟩
      · intro x wx ox hN TT HTT
        have r56 : (fun (v : Value) (w1 : World) => True) (x 5) wx := hN.1 rfl
        have r58 : (fun (v : Value) (w1 : World) => True) (x 7) wx := hN.2.1 rfl
        have r53 : x 2 = (.bool false) := hN.2.2.1 rfl
        clear hN
        unfold StepTo
        simp only [putAll, Act.put, List.setIfInBounds_toArray, List.set_cons_succ, List.set_cons_zero, r53]
        clear r53
        go_wp2_with fail
        exact ⟨rfl, _, rfl, HTT.out _ _ (trivial) (Only.refl _ _)⟩
      · intro x wx ox hN TT HTT
        have r53 : x 2 = (.bool false) := hN.1 rfl
        have r59 : (fun (v : Value) (w1 : World) => True) (x 8) wx := hN.2.1 rfl
        clear hN
        unfold StepTo
        simp only [putAll, Act.put, List.setIfInBounds_toArray, List.set_cons_succ, List.set_cons_zero, r53]
        clear r53
        go_wp2_with fail
        exact ⟨rfl, _, rfl, HTT.out _ _ (rfl) (Only.refl _ _)⟩
      · intro x wx ox hN TT HTT
        have r60 : x 9 = (.bool false) := hN.1 rfl
        have r55 : (fun (v : Value) (w1 : World) => True) (x 4) wx := hN.2.1 rfl
        clear hN
        unfold StepTo
        simp only [putAll, Act.put, List.setIfInBounds_toArray, List.set_cons_succ, List.set_cons_zero, r60]
        clear r60
        go_wp2_with fail
        exact ⟨rfl, _, rfl, HTT.out _ _ (rfl) (Only.refl _ _)⟩
      · intro x wx ox hN TT HTT
        have r61 : x 10 = (.bool false) := hN.1 rfl
        clear hN
        unfold StepTo
        simp only [putAll, Act.put, List.setIfInBounds_toArray, List.set_cons_succ, List.set_cons_zero, r61]
        clear r61
        go_wp2_with fail
        exact ⟨rfl, _, rfl, HTT.out _ _ (rfl) (Only.refl _ _)⟩
      · intro x wx ox hN TT HTT
        have r62 : x 11 = (.int .i64 0) := hN.1 rfl
        have r61 : x 10 = (.bool false) := hN.2.1 rfl
        clear hN
        unfold StepTo
        simp only [putAll, Act.put, List.setIfInBounds_toArray, List.set_cons_succ, List.set_cons_zero, r62, r61]
        clear r62 r61
        go_wp2_with fail
        exact ⟨rfl, _, rfl, HTT.out _ _ (rfl) (Only.refl _ _)⟩
      · intro x wx ox hN TT HTT
        have r63 : x 12 = (.bool true) := hN.1 rfl
        have r61 : x 10 = (.bool false) := hN.2.1 rfl
        clear hN
        unfold StepTo
        simp only [putAll, Act.put, List.setIfInBounds_toArray, List.set_cons_succ, List.set_cons_zero, r63, r61]
        clear r63 r61
        go_wp2_with fail
        exact ⟨rfl, _, rfl, HTT.out _ _ (rfl) (Only.refl _ _)⟩
      · intro x wx ox hN TT HTT
        have r64 : x 13 = (.bool true) := hN.1 rfl
        clear hN
        unfold StepTo
        simp only [putAll, Act.put, List.setIfInBounds_toArray, List.set_cons_succ, List.set_cons_zero, r64]
        clear r64
        obtain ⟨z0, z1, z2, z3, z4, z5, z6⟩ := box7f ((ox.block _ (Array.getElem?_eq_some_iff.1 HXT9.out).1 (fun h => h)).trans HXT9.out)
        obtain ⟨y0, y1, y2, y3, y4, y5, y6⟩ := box7 ((ox.block _ (Array.getElem?_eq_some_iff.1 HXT9.out).1 (fun h => h)).trans HXT9.out)
        go_wp2_with fail
        exact ⟨rfl, _, rfl, HTT.out _ _ (rfl) (Only.refl _ _)⟩
      · intro x wx ox hN TT HTT
        have r65 : x 14 = (.agg #[f0, f1, f2, f3, f4, f5, f6]) := hN.1 rfl
        have r64 : x 13 = (.bool true) := hN.2.1 rfl
        clear hN
        unfold StepTo
        simp only [putAll, Act.put, List.setIfInBounds_toArray, List.set_cons_succ, List.set_cons_zero, r65, r64]
        clear r65 r64
        have hc := HAG.out wx (((Only.refl _ w9).drew).trans ox)
        have HC := Lib.hid hc; clear hc
        go_wp2_with fail
        refine HC.out.mono ?_
        rintro e w6' ⟨v6, rfl, h6, o6⟩
        go_wp2_with fail
        exact ⟨rfl, _, rfl, HTT.out _ _ (h6.bytes) (o6)⟩
      · intro x wx ox hN TT HTT
        have r66 : (fun (v : Value) (w1 : World) => Bytes w1 v L) (x 15) wx := hN.1 rfl
        have r64 : x 13 = (.bool true) := hN.2.1 rfl
        clear hN
        unfold StepTo
        simp only [putAll, Act.put, List.setIfInBounds_toArray, List.set_cons_succ, List.set_cons_zero, r64]
        clear r64
        have hcv := r66.conv
        go_wp2_with fail
        exact ⟨rfl, _, rfl, HTT.out _ _ (rfl) (Only.refl _ _)⟩
      · intro x wx ox hN TT HTT
        have r64 : x 13 = (.bool true) := hN.1 rfl
        clear hN
        unfold StepTo
        simp only [putAll, Act.put, List.setIfInBounds_toArray, List.set_cons_succ, List.set_cons_zero, r64]
        clear r64
        go_wp2_with fail
        exact ⟨rfl, _, rfl, HTT.out _ _ (rfl) (Only.refl _ _)⟩
      · intro x wx ox hN TT HTT
        have r68 : x 17 = (.slice a3 L.length c3) := hN.1 rfl
        have r64 : x 13 = (.bool true) := hN.2.1 rfl
        clear hN
        unfold StepTo
        simp only [putAll, Act.put, List.setIfInBounds_toArray, List.set_cons_succ, List.set_cons_zero, r68, r64]
        clear r68 r64
        have hcv := (HB9.out.still (((Only.refl _ w9).drew).trans ox)).conv
        go_wp2_with fail
        exact ⟨rfl, _, rfl, HTT.out _ _ (rfl) (Only.refl _ _)⟩
      · intro x wx ox hN TT HTT
        have r67 : x 16 = (.string ⟨L.toArray⟩) := hN.1 rfl
        have r69 : x 18 = (.string ⟨L.toArray⟩) := hN.2.1 rfl
        have r64 : x 13 = (.bool true) := hN.2.2.1 rfl
        clear hN
        unfold StepTo
        simp only [putAll, Act.put, List.setIfInBounds_toArray, List.set_cons_succ, List.set_cons_zero, r67, r69, r64]
        clear r67 r69 r64
        go_wp2_with fail
        exact ⟨rfl, _, rfl, HTT.out _ _ (rfl) (Only.refl _ _)⟩
      · intro x wx ox hN TT HTT
        have r64 : x 13 = (.bool true) := hN.1 rfl
        have r70 : x 19 = (.bool false) := hN.2.1 rfl
        have r61 : x 10 = (.bool false) := hN.2.2.1 rfl
        clear hN
        unfold StepTo
        simp only [putAll, Act.put, List.setIfInBounds_toArray, List.set_cons_succ, List.set_cons_zero, r64, r70, r61]
        clear r64 r70 r61
        go_wp2_with fail
        exact ⟨rfl, _, rfl, HTT.out _ _ (rfl) (Only.refl _ _)⟩
      intro xa wxa oxa hN
      have r51 : xa 0 = (.int .i64 3) := hN.1
      have r52 : xa 1 = (.bool false) := hN.2.1
      have r53 : xa 2 = (.bool false) := hN.2.2.1
      have r54 : (fun (v : Value) (w1 : World) => True) (xa 3) wxa := hN.2.2.2.1
      have r55 : (fun (v : Value) (w1 : World) => True) (xa 4) wxa := hN.2.2.2.2.1
      have r56 : (fun (v : Value) (w1 : World) => True) (xa 5) wxa := hN.2.2.2.2.2.1
      have r57 : (fun (v : Value) (w1 : World) => True) (xa 6) wxa := hN.2.2.2.2.2.2.1
      have r58 : (fun (v : Value) (w1 : World) => True) (xa 7) wxa := hN.2.2.2.2.2.2.2.1
      have r59 : (fun (v : Value) (w1 : World) => True) (xa 8) wxa := hN.2.2.2.2.2.2.2.2.1
      have r60 : xa 9 = (.bool false) := hN.2.2.2.2.2.2.2.2.2.1
      have r61 : xa 10 = (.bool false) := hN.2.2.2.2.2.2.2.2.2.2.1
      have r62 : xa 11 = (.int .i64 0) := hN.2.2.2.2.2.2.2.2.2.2.2.1
      have r63 : xa 12 = (.bool true) := hN.2.2.2.2.2.2.2.2.2.2.2.2.1
      have r64 : xa 13 = (.bool true) := hN.2.2.2.2.2.2.2.2.2.2.2.2.2.1
      have r65 : xa 14 = (.agg #[f0, f1, f2, f3, f4, f5, f6]) := hN.2.2.2.2.2.2.2.2.2.2.2.2.2.2.1
      have r66 : (fun (v : Value) (w1 : World) => Bytes w1 v L) (xa 15) wxa := hN.2.2.2.2.2.2.2.2.2.2.2.2.2.2.2.1
      have r67 : xa 16 = (.string ⟨L.toArray⟩) := hN.2.2.2.2.2.2.2.2.2.2.2.2.2.2.2.2.1
      have r68 : xa 17 = (.slice a3 L.length c3) := hN.2.2.2.2.2.2.2.2.2.2.2.2.2.2.2.2.2.1
      have r69 : xa 18 = (.string ⟨L.toArray⟩) := hN.2.2.2.2.2.2.2.2.2.2.2.2.2.2.2.2.2.2.1
      have r70 : xa 19 = (.bool false) := hN.2.2.2.2.2.2.2.2.2.2.2.2.2.2.2.2.2.2.2.1
      have r71 : xa 20 = (.bool false) := hN.2.2.2.2.2.2.2.2.2.2.2.2.2.2.2.2.2.2.2.2.1
      clear hN
      simp only [putAll, Act.put, List.setIfInBounds_toArray, List.set_cons_succ, List.set_cons_zero, r51, r52, r53, r60, r61, r62, r63, r64, r65, r67, r68, r69, r70, r71]
      clear r51 r52 r53 r60 r61 r62 r63 r64 r65 r67 r68 r69 r70 r71
      have HOA := Lib.hid (HFIN.out _ (((Only.refl _ w9).drew).trans oxa)); clear oxa
      go_wp2_with fail
      go_ret
      exact ⟨rfl, HOA.out⟩
    · subst ea; subst et
      clear hnot
      go_wp2_with fail
      refine wp_region_steps 21 (by kernel_rfl) rfl (by kernel_rfl) [some 51, some 52, some 53, some 54, some 55, some 56, some 57, some 58, some 59, some 60, some 61, some 62, some 63, some 64, some 65, some 66, some 67, some 68, some 69, some 70, some 71] rfl rfl (fun _ => False) [(fun v _ => v = (.int .i64 3)), (fun v _ => v = (.bool false)), (fun v _ => v = (.bool false)), (fun v w1 => True), (fun v w1 => True), (fun v w1 => True), (fun v w1 => True), (fun v w1 => True), (fun v w1 => True), (fun v _ => v = (.bool false)), (fun v _ => v = (.bool false)), (fun v _ => v = (.int .i64 3)), (fun v _ => v = (.bool false)), (fun v _ => v = (.bool false)), (fun v w1 => True), (fun v w1 => True), (fun v w1 => True), (fun v w1 => True), (fun v w1 => True), (fun v w1 => True), (fun v _ => v = (.bool false))] rfl ⟨?_, ?_, ?_, ?_, ?_, ?_, ?_, ?_, ?_, ?_, ?_, ?_, ?_, ?_, ?_, ?_, ?_, ?_, ?_, ?_, ?_, trivial⟩ _ rfl ⟨?_, ?_, ?_, ?_, ?_, ?_, ?_, ?_, ?_, ?_, ?_, ?_, ?_, ?_, ?_, ?_, ?_, ?_, ?_, ?_, ?_, trivial⟩ ?_
      · exact Stable.is _ _
      · exact Stable.is _ _
      · exact Stable.is _ _
      · intro v w1 w2 h ho; exact h
      · intro v w1 w2 h ho; exact h
      · intro v w1 w2 h ho; exact h
      · intro v w1 w2 h ho; exact h
      · intro v w1 w2 h ho; exact h
      · intro v w1 w2 h ho; exact h
      · exact Stable.is _ _
      · exact Stable.is _ _
      · exact Stable.is _ _
      · exact Stable.is _ _
      · exact Stable.is _ _
      · intro v w1 w2 h ho; exact h
      · intro v w1 w2 h ho; exact h
      · intro v w1 w2 h ho; exact h
      · intro v w1 w2 h ho; exact h
      · intro v w1 w2 h ho; exact h
      · intro v w1 w2 h ho; exact h
      · exact Stable.is _ _
      · intro x wx ox hN TT HTT
        clear hN
        unfold StepTo
        simp only [putAll, Act.put, List.setIfInBounds_toArray, List.set_cons_succ, List.set_cons_zero]
        go_wp2_with fail
        exact ⟨rfl, _, rfl, HTT.out _ _ (rfl) (Only.refl _ _)⟩
      · intro x wx ox hN TT HTT
        have r51 : x 0 = (.int .i64 3) := hN.1 rfl
        clear hN
        unfold StepTo
        simp only [putAll, Act.put, List.setIfInBounds_toArray, List.set_cons_succ, List.set_cons_zero, r51]
        clear r51
        go_wp2_with fail
        exact ⟨rfl, _, rfl, HTT.out _ _ (rfl) (Only.refl _ _)⟩
      · intro x wx ox hN TT HTT
        have r52 : x 1 = (.bool false) := hN.1 rfl
        clear hN
        unfold StepTo
        simp only [putAll, Act.put, List.setIfInBounds_toArray, List.set_cons_succ, List.set_cons_zero, r52]
        clear r52
        go_wp2_with fail
        exact ⟨rfl, _, rfl, HTT.out _ _ (rfl) (Only.refl _ _)⟩
      · intro x wx ox hN TT HTT
        have r53 : x 2 = (.bool false) := hN.1 rfl
        clear hN
        unfold StepTo
        simp only [putAll, Act.put, List.setIfInBounds_toArray, List.set_cons_succ, List.set_cons_zero, r53]
        clear r53
        go_wp2_with fail
        exact ⟨rfl, _, rfl, HTT.out _ _ (trivial) (Only.refl _ _)⟩
      · intro x wx ox hN TT HTT
        have r54 : (fun (v : Value) (w1 : World) => True) (x 3) wx := hN.1 rfl
        have r53 : x 2 = (.bool false) := hN.2.1 rfl
        clear hN
        unfold StepTo
        simp only [putAll, Act.put, List.setIfInBounds_toArray, List.set_cons_succ, List.set_cons_zero, r53]
        clear r53
        go_wp2_with fail
        exact ⟨rfl, _, rfl, HTT.out _ _ (trivial) (Only.refl _ _)⟩
      · intro x wx ox hN TT HTT
        have r55 : (fun (v : Value) (w1 : World) => True) (x 4) wx := hN.1 rfl
        have r53 : x 2 = (.bool false) := hN.2.1 rfl
        clear hN
        unfold StepTo
        simp only [putAll, Act.put, List.setIfInBounds_toArray, List.set_cons_succ, List.set_cons_zero, r53]
        clear r53
        go_wp2_with fail
        exact ⟨rfl, _, rfl, HTT.out _ _ (trivial) (Only.refl _ _)⟩
      · intro x wx ox hN TT HTT
        have r53 : x 2 = (.bool false) := hN.1 rfl
        clear hN
        unfold StepTo
        simp only [putAll, Act.put, List.setIfInBounds_toArray, List.set_cons_succ, List.set_cons_zero, r53]
        clear r53
        go_wp2_with fail
        exact ⟨rfl, _, rfl, HTT.out _ _ (trivial) (Only.refl _ _)⟩
      · intro x wx ox hN TT HTT
        have r57 : (fun (v : Value) (w1 : World) => True) (x 6) wx := hN.1 rfl
        have r53 : x 2 = (.bool false) := hN.2.1 rfl
        clear hN
        unfold StepTo
        simp only [putAll, Act.put, List.setIfInBounds_toArray, List.set_cons_succ, List.set_cons_zero, r53]
        clear r53
        go_wp2_with fail
        exact ⟨rfl, _, rfl, HTT.out _ _ (trivial) (Only.refl _ _)⟩
      · intro x wx ox hN TT HTT
        have r56 : (fun (v : Value) (w1 : World) => True) (x 5) wx := hN.1 rfl
        have r58 : (fun (v : Value) (w1 : World) => True) (x 7) wx := hN.2.1 rfl
        have r53 : x 2 = (.bool false) := hN.2.2.1 rfl
        clear hN
        unfold StepTo
        simp only [putAll, Act.put, List.setIfInBounds_toArray, List.set_cons_succ, List.set_cons_zero, r53]
        clear r53
        go_wp2_with fail
        exact ⟨rfl, _, rfl, HTT.out _ _ (trivial) (Only.refl _ _)⟩
      · intro x wx ox hN TT HTT
        have r53 : x 2 = (.bool false) := hN.1 rfl
        have r59 : (fun (v : Value) (w1 : World) => True) (x 8) wx := hN.2.1 rfl
        clear hN
        unfold StepTo
        simp only [putAll, Act.put, List.setIfInBounds_toArray, List.set_cons_succ, List.set_cons_zero, r53]
        clear r53
        go_wp2_with fail
        exact ⟨rfl, _, rfl, HTT.out _ _ (rfl) (Only.refl _ _)⟩
      · intro x wx ox hN TT HTT
        have r60 : x 9 = (.bool false) := hN.1 rfl
        have r55 : (fun (v : Value) (w1 : World) => True) (x 4) wx := hN.2.1 rfl
        clear hN
        unfold StepTo
        simp only [putAll, Act.put, List.setIfInBounds_toArray, List.set_cons_succ, List.set_cons_zero, r60]
        clear r60
        go_wp2_with fail
        exact ⟨rfl, _, rfl, HTT.out _ _ (rfl) (Only.refl _ _)⟩
      · intro x wx ox hN TT HTT
        have r61 : x 10 = (.bool false) := hN.1 rfl
        clear hN
        unfold StepTo
        simp only [putAll, Act.put, List.setIfInBounds_toArray, List.set_cons_succ, List.set_cons_zero, r61]
        clear r61
        go_wp2_with fail
        exact ⟨rfl, _, rfl, HTT.out _ _ (rfl) (Only.refl _ _)⟩
      · intro x wx ox hN TT HTT
        have r62 : x 11 = (.int .i64 3) := hN.1 rfl
        have r61 : x 10 = (.bool false) := hN.2.1 rfl
        clear hN
        unfold StepTo
        simp only [putAll, Act.put, List.setIfInBounds_toArray, List.set_cons_succ, List.set_cons_zero, r62, r61]
        clear r62 r61
        go_wp2_with fail
        exact ⟨rfl, _, rfl, HTT.out _ _ (rfl) (Only.refl _ _)⟩
      · intro x wx ox hN TT HTT
        have r63 : x 12 = (.bool false) := hN.1 rfl
        have r61 : x 10 = (.bool false) := hN.2.1 rfl
        clear hN
        unfold StepTo
        simp only [putAll, Act.put, List.setIfInBounds_toArray, List.set_cons_succ, List.set_cons_zero, r63, r61]
        clear r63 r61
        go_wp2_with fail
        exact ⟨rfl, _, rfl, HTT.out _ _ (rfl) (Only.refl _ _)⟩
      · intro x wx ox hN TT HTT
        have r64 : x 13 = (.bool false) := hN.1 rfl
        clear hN
        unfold StepTo
        simp only [putAll, Act.put, List.setIfInBounds_toArray, List.set_cons_succ, List.set_cons_zero, r64]
        clear r64
        go_wp2_with fail
        exact ⟨rfl, _, rfl, HTT.out _ _ (trivial) (Only.refl _ _)⟩
      · intro x wx ox hN TT HTT
        have r65 : (fun (v : Value) (w1 : World) => True) (x 14) wx := hN.1 rfl
        have r64 : x 13 = (.bool false) := hN.2.1 rfl
        clear hN
        unfold StepTo
        simp only [putAll, Act.put, List.setIfInBounds_toArray, List.set_cons_succ, List.set_cons_zero, r64]
        clear r64
        go_wp2_with fail
        exact ⟨rfl, _, rfl, HTT.out _ _ (trivial) (Only.refl _ _)⟩
      · intro x wx ox hN TT HTT
        have r66 : (fun (v : Value) (w1 : World) => True) (x 15) wx := hN.1 rfl
        have r64 : x 13 = (.bool false) := hN.2.1 rfl
        clear hN
        unfold StepTo
        simp only [putAll, Act.put, List.setIfInBounds_toArray, List.set_cons_succ, List.set_cons_zero, r64]
        clear r64
        go_wp2_with fail
        exact ⟨rfl, _, rfl, HTT.out _ _ (trivial) (Only.refl _ _)⟩
      · intro x wx ox hN TT HTT
        have r64 : x 13 = (.bool false) := hN.1 rfl
        clear hN
        unfold StepTo
        simp only [putAll, Act.put, List.setIfInBounds_toArray, List.set_cons_succ, List.set_cons_zero, r64]
        clear r64
        go_wp2_with fail
        exact ⟨rfl, _, rfl, HTT.out _ _ (trivial) (Only.refl _ _)⟩
      · intro x wx ox hN TT HTT
        have r68 : (fun (v : Value) (w1 : World) => True) (x 17) wx := hN.1 rfl
        have r64 : x 13 = (.bool false) := hN.2.1 rfl
        clear hN
        unfold StepTo
        simp only [putAll, Act.put, List.setIfInBounds_toArray, List.set_cons_succ, List.set_cons_zero, r64]
        clear r64
        go_wp2_with fail
        exact ⟨rfl, _, rfl, HTT.out _ _ (trivial) (Only.refl _ _)⟩
      · intro x wx ox hN TT HTT
        have r67 : (fun (v : Value) (w1 : World) => True) (x 16) wx := hN.1 rfl
        have r69 : (fun (v : Value) (w1 : World) => True) (x 18) wx := hN.2.1 rfl
        have r64 : x 13 = (.bool false) := hN.2.2.1 rfl
        clear hN
        unfold StepTo
        simp only [putAll, Act.put, List.setIfInBounds_toArray, List.set_cons_succ, List.set_cons_zero, r64]
        clear r64
        go_wp2_with fail
        exact ⟨rfl, _, rfl, HTT.out _ _ (trivial) (Only.refl _ _)⟩
      · intro x wx ox hN TT HTT
        have r64 : x 13 = (.bool false) := hN.1 rfl
        have r70 : (fun (v : Value) (w1 : World) => True) (x 19) wx := hN.2.1 rfl
        have r61 : x 10 = (.bool false) := hN.2.2.1 rfl
        clear hN
        unfold StepTo
        simp only [putAll, Act.put, List.setIfInBounds_toArray, List.set_cons_succ, List.set_cons_zero, r64, r61]
        clear r64 r61
        go_wp2_with fail
        exact ⟨rfl, _, rfl, HTT.out _ _ (rfl) (Only.refl _ _)⟩
      intro xa wxa oxa hN
      have r51 : xa 0 = (.int .i64 3) := hN.1
      have r52 : xa 1 = (.bool false) := hN.2.1
      have r53 : xa 2 = (.bool false) := hN.2.2.1
      have r54 : (fun (v : Value) (w1 : World) => True) (xa 3) wxa := hN.2.2.2.1
      have r55 : (fun (v : Value) (w1 : World) => True) (xa 4) wxa := hN.2.2.2.2.1
      have r56 : (fun (v : Value) (w1 : World) => True) (xa 5) wxa := hN.2.2.2.2.2.1
      have r57 : (fun (v : Value) (w1 : World) => True) (xa 6) wxa := hN.2.2.2.2.2.2.1
      have r58 : (fun (v : Value) (w1 : World) => True) (xa 7) wxa := hN.2.2.2.2.2.2.2.1
      have r59 : (fun (v : Value) (w1 : World) => True) (xa 8) wxa := hN.2.2.2.2.2.2.2.2.1
      have r60 : xa 9 = (.bool false) := hN.2.2.2.2.2.2.2.2.2.1
      have r61 : xa 10 = (.bool false) := hN.2.2.2.2.2.2.2.2.2.2.1
      have r62 : xa 11 = (.int .i64 3) := hN.2.2.2.2.2.2.2.2.2.2.2.1
      have r63 : xa 12 = (.bool false) := hN.2.2.2.2.2.2.2.2.2.2.2.2.1
      have r64 : xa 13 = (.bool false) := hN.2.2.2.2.2.2.2.2.2.2.2.2.2.1
      have r65 : (fun (v : Value) (w1 : World) => True) (xa 14) wxa := hN.2.2.2.2.2.2.2.2.2.2.2.2.2.2.1
      have r66 : (fun (v : Value) (w1 : World) => True) (xa 15) wxa := hN.2.2.2.2.2.2.2.2.2.2.2.2.2.2.2.1
      have r67 : (fun (v : Value) (w1 : World) => True) (xa 16) wxa := hN.2.2.2.2.2.2.2.2.2.2.2.2.2.2.2.2.1
      have r68 : (fun (v : Value) (w1 : World) => True) (xa 17) wxa := hN.2.2.2.2.2.2.2.2.2.2.2.2.2.2.2.2.2.1
      have r69 : (fun (v : Value) (w1 : World) => True) (xa 18) wxa := hN.2.2.2.2.2.2.2.2.2.2.2.2.2.2.2.2.2.2.1
      have r70 : (fun (v : Value) (w1 : World) => True) (xa 19) wxa := hN.2.2.2.2.2.2.2.2.2.2.2.2.2.2.2.2.2.2.2.1
      have r71 : xa 20 = (.bool false) := hN.2.2.2.2.2.2.2.2.2.2.2.2.2.2.2.2.2.2.2.2.1
      clear hN
      simp only [putAll, Act.put, List.setIfInBounds_toArray, List.set_cons_succ, List.set_cons_zero, r51, r52, r53, r60, r61, r62, r63, r64, r71]
      clear r51 r52 r53 r60 r61 r62 r63 r64 r71
      have HOA := Lib.hid (HFIN.out _ (((Only.refl _ w9).drew).trans oxa)); clear oxa
      go_wp2_with fail
      go_ret
      exact ⟨rfl, HOA.out⟩
  | true =>
    go_wp2_with ((refine wpList_append8 (o := ⟨some 22, _, _, _, _, _⟩) rfl (.tmp 20) (.tmp 21) (by rfl) w1.heap.size _ _ [] l (by rfl) (by rfl) (Own8.nil w1 _) HV1.out (by have := H3.out; simp; omega) (Nat.le_refl _) ?_; intro L a3 c3 w3 hL h3 g3))
    have e3 := hL.out
    rw [List.nil_append] at e3
    subst e3
    have o3 := g3.out.step (Only.refl (fun _ => False) w1) (fun k hk => by cases hk)
    have hb3 := h3.out.bytes
    have hv3 := HV1.out.still o3
    have O3 := Lib.hid (O1.out.trans o3); have HB3 := Lib.hid hb3; have HV3 := Lib.hid hv3; clear o3 hb3 hv3 h3 g3 hL
    have hs := rSeal _ L w3 HV3.out (by have := H3.out; omega)
    have HS := Lib.hid hs; clear hs
    go_wp2_with fail
    refine HS.out.mono ?_
    rintro e w4 ⟨v4, rfl, h4, o4⟩
    obtain ⟨a4, c4, rfl⟩ := h4.form
    have O4 := Lib.hid (O3.out.trans o4); have HB4 := Lib.hid h4.bytes
    obtain ⟨M, hM⟩ : ∃ M, M = sealed L := ⟨_, rfl⟩
    have hML : M.length ≤ 3004 := by have := H3.out; have := sealed_len L; rw [hM]; omega
    have h4b := HB4.out
    rw [← hM] at h4b ⊢
    have HB4 := Lib.hid h4b; have HML := Lib.hid hML; clear h4 o4 h4b hML hM
    have hda := dcda_any _ M w4 HB4.out (by have := HML.out; omega)
    have HDA := Lib.hid hda; clear hda
    go_wp2_with fail
    refine HDA.out.mono ?_
    rintro e w5 hr5
    obtain ⟨ca, d0, d1, d2, d3, rfl, o5, hac, h1a⟩ := hr5.case
    have hz5 := heap_new w5 (.cells #[.int .i64 0, .slice none 0 0, .int .u64 0, .slice none 0 0] 89)
    have oz5 := (Only.refl (fun _ => False) w5).alloc (.cells #[.int .i64 0, .slice none 0 0, .int .u64 0, .slice none 0 0] 89)
    have HZ5 := Lib.hid hz5; have OZ5 := Lib.hid oz5; have H1A := Lib.hid h1a; have HAC := Lib.hid hac; have O5 := Lib.hid (O4.out.trans o5); have HBQ := Lib.hid (HB4.out.still o5); clear hz5 oz5 h1a hac o5 hr5
    have hzz := zero_Ask
    go_wp2_with ((refine wpList_store_box (o := ⟨none, _, _, _, _, _⟩) rfl 89 (.tmp 6) (.tmp 29) (by rfl) w5.heap.size [.int .i64 0, .slice none 0 0, .int .u64 0, .slice none 0 0] [d0, d1, d2, d3] (by rfl) (by rfl) HZ5.out rfl (by kernel_rfl) H1A.out ?_; intro w6 h6x o6x; clear hzz))
    have h56 : Only (fun _ => False) w5 w6 := OZ5.out.trans' o6x (fun q hq e => by omega)
    have hb6 := HBQ.out.still h56
    have hdt := dcdt_any _ M w6 hb6 (by have := HML.out; omega)
    have HDT := Lib.hid hdt; have O6 := Lib.hid (O5.out.trans h56); have HXA := Lib.hid h6x; have HB6 := Lib.hid hb6; have H56 := Lib.hid h56; clear hdt h56 h6x hb6 o6x
    refine HDT.out.mono ?_
    rintro e w7 hr7
    obtain ⟨ct, f0, f1, f2, f3, f4, f5, f6, rfl, o7, htc, h1t⟩ := hr7.case
    have hz7 := heap_new w7 (.cells #[.int .i64 0, .int .u64 0, .slice none 0 0, .int .u64 0, .int .u64 0, .slice none 0 0, .slice none 0 0] 83)
    have oz7 := (Only.refl (fun _ => False) w7).alloc (.cells #[.int .i64 0, .int .u64 0, .slice none 0 0, .int .u64 0, .int .u64 0, .slice none 0 0, .slice none 0 0] 83)
    have HZ7 := Lib.hid hz7; have OZ7 := Lib.hid oz7; have H1T := Lib.hid h1t; have HTC := Lib.hid htc; have O7 := Lib.hid o7; clear hz7 oz7 h1t htc o7 hr7
    have hzz := zero_Tell
    go_wp2_with ((refine wpList_store_box (o := ⟨none, _, _, _, _, _⟩) rfl 83 (.tmp 8) (.tmp 34) (by rfl) w7.heap.size [.int .i64 0, .int .u64 0, .slice none 0 0, .int .u64 0, .int .u64 0, .slice none 0 0, .slice none 0 0] [f0, f1, f2, f3, f4, f5, f6] (by rfl) (by rfl) HZ7.out rfl (by kernel_rfl) H1T.out ?_; intro w8 h8x o8x; clear hzz))
    have h78 : Only (fun _ => False) w7 w8 := OZ7.out.trans' o8x (fun q hq e => by omega)
    have h68 := O7.out.trans h78
    have hb8 := HB6.out.still h68
    have hro := rOpen _ M w8 hb8 (by have := HML.out; omega)
    have hxa8 := (h68.block _ (Array.getElem?_eq_some_iff.1 HXA.out).1 (fun h => h)).trans HXA.out
    have h58 : Only (fun _ => False) w5 w8 := H56.out.trans h68
    have HRO := Lib.hid hro; have O8 := Lib.hid (O6.out.trans h68); have HXT := Lib.hid h8x; have HXA8 := Lib.hid hxa8; have HB8 := Lib.hid hb8; have H78 := Lib.hid h78; have H58 := Lib.hid h58; clear hro h8x hxa8 hb8 h78 h58 h68 o8x
    refine HRO.out.mono ?_
    rintro e w9 hr9
    obtain ⟨v9, cg, rfl, hcg, o9⟩ := hr9.code
    have hna := ask_num HAC.out hcg
    have hnt := tell_num HTC.out hcg
    have HNA := Lib.hid hna; have HNT := Lib.hid hnt; have O9 := Lib.hid (O8.out.trans o9); have HXA9 := Lib.hid ((o9.block _ (Array.getElem?_eq_some_iff.1 HXA8.out).1 (fun h => h)).trans HXA8.out); have HXT9 := Lib.hid ((o9.block _ (Array.getElem?_eq_some_iff.1 HXT.out).1 (fun h => h)).trans HXT.out); have HB9 := Lib.hid (HB8.out.still o9); have H59 := Lib.hid (H58.out.trans o9); have H79 := Lib.hid (H78.out.trans o9)
    clear hna hnt hr9 hcg o9
    by_cases hg0 : cg = 0
    rotate_left
    · have e1 := HNA.out.1 hg0
      have e2 := HNT.out.1 hg0
      subst e1
      subst e2
      have t0 : (ct != 0) = true := by simpa using hg0
      have t9 : (ct == ct) = true := by simp
      clear hg0
      go_wp2_with fail
      go_ret
      exact ⟨rfl, O9.out.still⟩
    subst hg0
    have hfin : ∀ wq, Only (fun _ => False) w9 wq → Below w.heap.size w wq := fun wq h => (O9.out.trans h).still
    have HFIN := Lib.hid hfin; clear hfin
    have hnot : ca = 0 → ct = 0 → False := fun h1 h2 => by
      subst h1; subst h2
      rcases HAC.out with ⟨h, _⟩ | ⟨_, m, a', g1, g2, _⟩
      · exact h rfl
      rcases HTC.out with ⟨h, _⟩ | ⟨_, m', t', k1, k2, _⟩
      · exact h rfl
      have := sealed_inj (g1.symm.trans k1)
      subst this
      exact ask_not_tell g2 k2
    rcases HNA.out.2 rfl with ea | ea <;> rcases HNT.out.2 rfl with et | et
    · exact (hnot ea et).elim
    · subst ea; subst et
      clear hnot
      have hag := fun w2 (h : Only (fun _ => False) w9 w2) => ask_again (w2 := w2) HAC.out (by have := HML.out; omega) (fun a' ha => ha.later (H59.out.trans h))
      have HAG := Lib.hid hag; clear hag
      go_wp2_with fail
      refine wp_region_steps 21 (by kernel_rfl) rfl (by kernel_rfl) [some 51, some 52, some 53, some 54, some 55, some 56, some 57, some 58, some 59, some 60, some 61, some 62, some 63, some 64, some 65, some 66, some 67, some 68, some 69, some 70, some 71] rfl rfl (fun _ => False) [(fun v _ => v = (.int .i64 0)), (fun v _ => v = (.bool true)), (fun v _ => v = (.bool true)), (fun v _ => v = (.agg #[d0, d1, d2, d3])), (fun v w1 => Bytes w1 v M), (fun v _ => v = (.string ⟨M.toArray⟩)), (fun v _ => v = (.slice a4 M.length c4)), (fun v _ => v = (.string ⟨M.toArray⟩)), (fun v _ => v = (.bool false)), (fun v _ => v = (.bool false)), (fun v _ => v = (.bool false)), (fun v _ => v = (.int .i64 3)), (fun v _ => v = (.bool false)), (fun v _ => v = (.bool false)), (fun v w1 => True), (fun v w1 => True), (fun v w1 => True), (fun v w1 => True), (fun v w1 => True), (fun v w1 => True), (fun v _ => v = (.bool false))] rfl ⟨?_, ?_, ?_, ?_, ?_, ?_, ?_, ?_, ?_, ?_, ?_, ?_, ?_, ?_, ?_, ?_, ?_, ?_, ?_, ?_, ?_, trivial⟩ _ rfl ⟨?_, ?_, ?_, ?_, ?_, ?_, ?_, ?_, ?_, ?_, ?_, ?_, ?_, ?_, ?_, ?_, ?_, ?_, ?_, ?_, ?_, trivial⟩ ?_
      · exact Stable.is _ _
      · exact Stable.is _ _
      · exact Stable.is _ _
      · exact Stable.is _ _
      · exact (fun v w1 w2 h ho => h.still ho)
      · exact Stable.is _ _
      · exact Stable.is _ _
      · exact Stable.is _ _
      · exact Stable.is _ _
      · exact Stable.is _ _
      · exact Stable.is _ _
      · exact Stable.is _ _
      · exact Stable.is _ _
      · exact Stable.is _ _
      · intro v w1 w2 h ho; exact h
      · intro v w1 w2 h ho; exact h
      · intro v w1 w2 h ho; exact h
      · intro v w1 w2 h ho; exact h
      · intro v w1 w2 h ho; exact h
      · intro v w1 w2 h ho; exact h
      · exact Stable.is _ _
      · intro x wx ox hN TT HTT
        clear hN
        unfold StepTo
        simp only [putAll, Act.put, List.setIfInBounds_toArray, List.set_cons_succ, List.set_cons_zero]
        go_wp2_with fail
        exact ⟨rfl, _, rfl, HTT.out _ _ (rfl) (Only.refl _ _)⟩
      · intro x wx ox hN TT HTT
        have r51 : x 0 = (.int .i64 0) := hN.1 rfl
        clear hN
        unfold StepTo
        simp only [putAll, Act.put, List.setIfInBounds_toArray, List.set_cons_succ, List.set_cons_zero, r51]
        clear r51
        go_wp2_with fail
        exact ⟨rfl, _, rfl, HTT.out _ _ (rfl) (Only.refl _ _)⟩
      · intro x wx ox hN TT HTT
        have r52 : x 1 = (.bool true) := hN.1 rfl
        clear hN
        unfold StepTo
        simp only [putAll, Act.put, List.setIfInBounds_toArray, List.set_cons_succ, List.set_cons_zero, r52]
        clear r52
        go_wp2_with fail
        exact ⟨rfl, _, rfl, HTT.out _ _ (rfl) (Only.refl _ _)⟩
      · intro x wx ox hN TT HTT
        have r53 : x 2 = (.bool true) := hN.1 rfl
        clear hN
        unfold StepTo
        simp only [putAll, Act.put, List.setIfInBounds_toArray, List.set_cons_succ, List.set_cons_zero, r53]
        clear r53
        obtain ⟨z0, z1, z2, z3⟩ := box4 ((ox.block _ (Array.getElem?_eq_some_iff.1 HXA9.out).1 (fun h => h)).trans HXA9.out)
        go_wp2_with fail
        exact ⟨rfl, _, rfl, HTT.out _ _ (rfl) (Only.refl _ _)⟩
      · intro x wx ox hN TT HTT
        have r54 : x 3 = (.agg #[d0, d1, d2, d3]) := hN.1 rfl
        have r53 : x 2 = (.bool true) := hN.2.1 rfl
        clear hN
        unfold StepTo
        simp only [putAll, Act.put, List.setIfInBounds_toArray, List.set_cons_succ, List.set_cons_zero, r54, r53]
        clear r54 r53
        have hc := HAG.out wx (((Only.refl _ w9).drew).trans ox)
        have HC := Lib.hid hc; clear hc
        go_wp2_with fail
        refine HC.out.mono ?_
        rintro e w6' ⟨v6, rfl, h6, o6⟩
        go_wp2_with fail
        exact ⟨rfl, _, rfl, HTT.out _ _ (h6.bytes) (o6)⟩
      · intro x wx ox hN TT HTT
        have r55 : (fun (v : Value) (w1 : World) => Bytes w1 v M) (x 4) wx := hN.1 rfl
        have r53 : x 2 = (.bool true) := hN.2.1 rfl
        clear hN
        unfold StepTo
        simp only [putAll, Act.put, List.setIfInBounds_toArray, List.set_cons_succ, List.set_cons_zero, r53]
        clear r53
        have hcv := r55.conv
        go_wp2_with fail
        exact ⟨rfl, _, rfl, HTT.out _ _ (rfl) (Only.refl _ _)⟩
      · intro x wx ox hN TT HTT
        have r53 : x 2 = (.bool true) := hN.1 rfl
        clear hN
        unfold StepTo
        simp only [putAll, Act.put, List.setIfInBounds_toArray, List.set_cons_succ, List.set_cons_zero, r53]
        clear r53
        go_wp2_with fail
        exact ⟨rfl, _, rfl, HTT.out _ _ (rfl) (Only.refl _ _)⟩
      · intro x wx ox hN TT HTT
        have r57 : x 6 = (.slice a4 M.length c4) := hN.1 rfl
        have r53 : x 2 = (.bool true) := hN.2.1 rfl
        clear hN
        unfold StepTo
        simp only [putAll, Act.put, List.setIfInBounds_toArray, List.set_cons_succ, List.set_cons_zero, r57, r53]
        clear r57 r53
        have hcv := (HB9.out.still (((Only.refl _ w9).drew).trans ox)).conv
        go_wp2_with fail
        exact ⟨rfl, _, rfl, HTT.out _ _ (rfl) (Only.refl _ _)⟩
      · intro x wx ox hN TT HTT
        have r56 : x 5 = (.string ⟨M.toArray⟩) := hN.1 rfl
        have r58 : x 7 = (.string ⟨M.toArray⟩) := hN.2.1 rfl
        have r53 : x 2 = (.bool true) := hN.2.2.1 rfl
        clear hN
        unfold StepTo
        simp only [putAll, Act.put, List.setIfInBounds_toArray, List.set_cons_succ, List.set_cons_zero, r56, r58, r53]
        clear r56 r58 r53
        go_wp2_with fail
        exact ⟨rfl, _, rfl, HTT.out _ _ (rfl) (Only.refl _ _)⟩
      · intro x wx ox hN TT HTT
        have r53 : x 2 = (.bool true) := hN.1 rfl
        have r59 : x 8 = (.bool false) := hN.2.1 rfl
        clear hN
        unfold StepTo
        simp only [putAll, Act.put, List.setIfInBounds_toArray, List.set_cons_succ, List.set_cons_zero, r53, r59]
        clear r53 r59
        go_wp2_with fail
        exact ⟨rfl, _, rfl, HTT.out _ _ (rfl) (Only.refl _ _)⟩
      · intro x wx ox hN TT HTT
        have r60 : x 9 = (.bool false) := hN.1 rfl
        have r55 : (fun (v : Value) (w1 : World) => Bytes w1 v M) (x 4) wx := hN.2.1 rfl
        clear hN
        unfold StepTo
        simp only [putAll, Act.put, List.setIfInBounds_toArray, List.set_cons_succ, List.set_cons_zero, r60]
        clear r60
        go_wp2_with fail
        exact ⟨rfl, _, rfl, HTT.out _ _ (rfl) (Only.refl _ _)⟩
      · intro x wx ox hN TT HTT
        have r61 : x 10 = (.bool false) := hN.1 rfl
        clear hN
        unfold StepTo
        simp only [putAll, Act.put, List.setIfInBounds_toArray, List.set_cons_succ, List.set_cons_zero, r61]
        clear r61
        go_wp2_with fail
        exact ⟨rfl, _, rfl, HTT.out _ _ (rfl) (Only.refl _ _)⟩
      · intro x wx ox hN TT HTT
        have r62 : x 11 = (.int .i64 3) := hN.1 rfl
        have r61 : x 10 = (.bool false) := hN.2.1 rfl
        clear hN
        unfold StepTo
        simp only [putAll, Act.put, List.setIfInBounds_toArray, List.set_cons_succ, List.set_cons_zero, r62, r61]
        clear r62 r61
        go_wp2_with fail
        exact ⟨rfl, _, rfl, HTT.out _ _ (rfl) (Only.refl _ _)⟩
      · intro x wx ox hN TT HTT
        have r63 : x 12 = (.bool false) := hN.1 rfl
        have r61 : x 10 = (.bool false) := hN.2.1 rfl
        clear hN
        unfold StepTo
        simp only [putAll, Act.put, List.setIfInBounds_toArray, List.set_cons_succ, List.set_cons_zero, r63, r61]
        clear r63 r61
        go_wp2_with fail
        exact ⟨rfl, _, rfl, HTT.out _ _ (rfl) (Only.refl _ _)⟩
      · intro x wx ox hN TT HTT
        have r64 : x 13 = (.bool false) := hN.1 rfl
        clear hN
        unfold StepTo
        simp only [putAll, Act.put, List.setIfInBounds_toArray, List.set_cons_succ, List.set_cons_zero, r64]
        clear r64
        go_wp2_with fail
        exact ⟨rfl, _, rfl, HTT.out _ _ (trivial) (Only.refl _ _)⟩
      · intro x wx ox hN TT HTT
        have r65 : (fun (v : Value) (w1 : World) => True) (x 14) wx := hN.1 rfl
        have r64 : x 13 = (.bool false) := hN.2.1 rfl
        clear hN
        unfold StepTo
        simp only [putAll, Act.put, List.setIfInBounds_toArray, List.set_cons_succ, List.set_cons_zero, r64]
        clear r64
        go_wp2_with fail
        exact ⟨rfl, _, rfl, HTT.out _ _ (trivial) (Only.refl _ _)⟩
      · intro x wx ox hN TT HTT
        have r66 : (fun (v : Value) (w1 : World) => True) (x 15) wx := hN.1 rfl
        have r64 : x 13 = (.bool false) := hN.2.1 rfl
        clear hN
        unfold StepTo
        simp only [putAll, Act.put, List.setIfInBounds_toArray, List.set_cons_succ, List.set_cons_zero, r64]
        clear r64
        go_wp2_with fail
        exact ⟨rfl, _, rfl, HTT.out _ _ (trivial) (Only.refl _ _)⟩
      · intro x wx ox hN TT HTT
        have r64 : x 13 = (.bool false) := hN.1 rfl
        clear hN
        unfold StepTo
        simp only [putAll, Act.put, List.setIfInBounds_toArray, List.set_cons_succ, List.set_cons_zero, r64]
        clear r64
        go_wp2_with fail
        exact ⟨rfl, _, rfl, HTT.out _ _ (trivial) (Only.refl _ _)⟩
      · intro x wx ox hN TT HTT
        have r68 : (fun (v : Value) (w1 : World) => True) (x 17) wx := hN.1 rfl
        have r64 : x 13 = (.bool false) := hN.2.1 rfl
        clear hN
        unfold StepTo
        simp only [putAll, Act.put, List.setIfInBounds_toArray, List.set_cons_succ, List.set_cons_zero, r64]
        clear r64
        go_wp2_with fail
        exact ⟨rfl, _, rfl, HTT.out _ _ (trivial) (Only.refl _ _)⟩
      · intro x wx ox hN TT HTT
        have r67 : (fun (v : Value) (w1 : World) => True) (x 16) wx := hN.1 rfl
        have r69 : (fun (v : Value) (w1 : World) => True) (x 18) wx := hN.2.1 rfl
        have r64 : x 13 = (.bool false) := hN.2.2.1 rfl
        clear hN
        unfold StepTo
        simp only [putAll, Act.put, List.setIfInBounds_toArray, List.set_cons_succ, List.set_cons_zero, r64]
        clear r64
        go_wp2_with fail
        exact ⟨rfl, _, rfl, HTT.out _ _ (trivial) (Only.refl _ _)⟩
      · intro x wx ox hN TT HTT
        have r64 : x 13 = (.bool false) := hN.1 rfl
        have r70 : (fun (v : Value) (w1 : World) => True) (x 19) wx := hN.2.1 rfl
        have r61 : x 10 = (.bool false) := hN.2.2.1 rfl
        clear hN
        unfold StepTo
        simp only [putAll, Act.put, List.setIfInBounds_toArray, List.set_cons_succ, List.set_cons_zero, r64, r61]
        clear r64 r61
        go_wp2_with fail
        exact ⟨rfl, _, rfl, HTT.out _ _ (rfl) (Only.refl _ _)⟩
      intro xa wxa oxa hN
      have r51 : xa 0 = (.int .i64 0) := hN.1
      have r52 : xa 1 = (.bool true) := hN.2.1
      have r53 : xa 2 = (.bool true) := hN.2.2.1
      have r54 : xa 3 = (.agg #[d0, d1, d2, d3]) := hN.2.2.2.1
      have r55 : (fun (v : Value) (w1 : World) => Bytes w1 v M) (xa 4) wxa := hN.2.2.2.2.1
      have r56 : xa 5 = (.string ⟨M.toArray⟩) := hN.2.2.2.2.2.1
      have r57 : xa 6 = (.slice a4 M.length c4) := hN.2.2.2.2.2.2.1
      have r58 : xa 7 = (.string ⟨M.toArray⟩) := hN.2.2.2.2.2.2.2.1
      have r59 : xa 8 = (.bool false) := hN.2.2.2.2.2.2.2.2.1
      have r60 : xa 9 = (.bool false) := hN.2.2.2.2.2.2.2.2.2.1
      have r61 : xa 10 = (.bool false) := hN.2.2.2.2.2.2.2.2.2.2.1
      have r62 : xa 11 = (.int .i64 3) := hN.2.2.2.2.2.2.2.2.2.2.2.1
      have r63 : xa 12 = (.bool false) := hN.2.2.2.2.2.2.2.2.2.2.2.2.1
      have r64 : xa 13 = (.bool false) := hN.2.2.2.2.2.2.2.2.2.2.2.2.2.1
      have r65 : (fun (v : Value) (w1 : World) => True) (xa 14) wxa := hN.2.2.2.2.2.2.2.2.2.2.2.2.2.2.1
      have r66 : (fun (v : Value) (w1 : World) => True) (xa 15) wxa := hN.2.2.2.2.2.2.2.2.2.2.2.2.2.2.2.1
      have r67 : (fun (v : Value) (w1 : World) => True) (xa 16) wxa := hN.2.2.2.2.2.2.2.2.2.2.2.2.2.2.2.2.1
      have r68 : (fun (v : Value) (w1 : World) => True) (xa 17) wxa := hN.2.2.2.2.2.2.2.2.2.2.2.2.2.2.2.2.2.1
      have r69 : (fun (v : Value) (w1 : World) => True) (xa 18) wxa := hN.2.2.2.2.2.2.2.2.2.2.2.2.2.2.2.2.2.2.1
      have r70 : (fun (v : Value) (w1 : World) => True) (xa 19) wxa := hN.2.2.2.2.2.2.2.2.2.2.2.2.2.2.2.2.2.2.2.1
      have r71 : xa 20 = (.bool false) := hN.2.2.2.2.2.2.2.2.2.2.2.2.2.2.2.2.2.2.2.2.1
      clear hN
      simp only [putAll, Act.put, List.setIfInBounds_toArray, List.set_cons_succ, List.set_cons_zero, r51, r52, r53, r54, r56, r57, r58, r59, r60, r61, r62, r63, r64, r71]
      clear r51 r52 r53 r54 r56 r57 r58 r59 r60 r61 r62 r63 r64 r71
      have HOA := Lib.hid (HFIN.out _ (((Only.refl _ w9).drew).trans oxa)); clear oxa
      go_wp2_with fail
      go_ret
      exact ⟨rfl, HOA.out⟩
    · subst ea; subst et
      clear hnot
      have hag := fun w2 (h : Only (fun _ => False) w9 w2) => tell_again (w2 := w2) HTC.out (by have := HML.out; omega) (fun a' ha => ha.later (H79.out.trans h))
      have HAG := Lib.hid hag; clear hag
      go_wp2_with fail
      refine wp_region_steps 21 (by kernel_rfl) rfl (by kernel_rfl) [some 51, some 52, some 53, some 54, some 55, some 56, some 57, some 58, some 59, some 60, some 61, some 62, some 63, some 64, some 65, some 66, some 67, some 68, some 69, some 70, some 71] rfl rfl (fun _ => False) [(fun v _ => v = (.int .i64 3)), (fun v _ => v = (.bool false)), (fun v _ => v = (.bool false)), (fun v w1 => True), (fun v w1 => True), (fun v w1 => True), (fun v w1 => True), (fun v w1 => True), (fun v w1 => True), (fun v _ => v = (.bool false)), (fun v _ => v = (.bool false)), (fun v _ => v = (.int .i64 0)), (fun v _ => v = (.bool true)), (fun v _ => v = (.bool true)), (fun v _ => v = (.agg #[f0, f1, f2, f3, f4, f5, f6])), (fun v w1 => Bytes w1 v M), (fun v _ => v = (.string ⟨M.toArray⟩)), (fun v _ => v = (.slice a4 M.length c4)), (fun v _ => v = (.string ⟨M.toArray⟩)), (fun v _ => v = (.bool false)), (fun v _ => v = (.bool false))] rfl ⟨?_, ?_, ?_, ?_, ?_, ?_, ?_, ?_, ?_, ?_, ?_, ?_, ?_, ?_, ?_, ?_, ?_, ?_, ?_, ?_, ?_, trivial⟩ _ rfl ⟨?_, ?_, ?_, ?_, ?_, ?_, ?_, ?_, ?_, ?_, ?_, ?_, ?_, ?_, ?_, ?_, ?_, ?_, ?_, ?_, ?_, trivial⟩ ?_
      · exact Stable.is _ _
      · exact Stable.is _ _
      · exact Stable.is _ _
      · intro v w1 w2 h ho; exact h
      · intro v w1 w2 h ho; exact h
      · intro v w1 w2 h ho; exact h
      · intro v w1 w2 h ho; exact h
      · intro v w1 w2 h ho; exact h
      · intro v w1 w2 h ho; exact h
      · exact Stable.is _ _
      · exact Stable.is _ _
      · exact Stable.is _ _
      · exact Stable.is _ _
      · exact Stable.is _ _
      · exact Stable.is _ _
      · exact (fun v w1 w2 h ho => h.still ho)
      · exact Stable.is _ _
      · exact Stable.is _ _
      · exact Stable.is _ _
      · exact Stable.is _ _
      · exact Stable.is _ _
      · intro x wx ox hN TT HTT
        clear hN
        unfold StepTo
        simp only [putAll, Act.put, List.setIfInBounds_toArray, List.set_cons_succ, List.set_cons_zero]
        go_wp2_with fail
        exact ⟨rfl, _, rfl, HTT.out _ _ (rfl) (Only.refl _ _)⟩
      · intro x wx ox hN TT HTT
        have r51 : x 0 = (.int .i64 3) := hN.1 rfl
        clear hN
        unfold StepTo
        simp only [putAll, Act.put, List.setIfInBounds_toArray, List.set_cons_succ, List.set_cons_zero, r51]
        clear r51
        go_wp2_with fail
        exact ⟨rfl, _, rfl, HTT.out _ _ (rfl) (Only.refl _ _)⟩
      · intro x wx ox hN TT HTT
        have r52 : x 1 = (.bool false) := hN.1 rfl
        clear hN
        unfold StepTo
        simp only [putAll, Act.put, List.setIfInBounds_toArray, List.set_cons_succ, List.set_cons_zero, r52]
        clear r52
        go_wp2_with fail
        exact ⟨rfl, _, rfl, HTT.out _ _ (rfl) (Only.refl _ _)⟩
      · intro x wx ox hN TT HTT
        have r53 : x 2 = (.bool false) := hN.1 rfl
        clear hN
        unfold StepTo
        simp only [putAll, Act.put, List.setIfInBounds_toArray, List.set_cons_succ, List.set_cons_zero, r53]
        clear r53
        go_wp2_with fail
        exact ⟨rfl, _, rfl, HTT.out _ _ (trivial) (Only.refl _ _)⟩
      · intro x wx ox hN TT HTT
        have r54 : (fun (v : Value) (w1 : World) => True) (x 3) wx := hN.1 rfl
        have r53 : x 2 = (.bool false) := hN.2.1 rfl
        clear hN
        unfold StepTo
        simp only [putAll, Act.put, List.setIfInBounds_toArray, List.set_cons_succ, List.set_cons_zero, r53]
        clear r53
        go_wp2_with fail
        exact ⟨rfl, _, rfl, HTT.out _ _ (trivial) (Only.refl _ _)⟩
      · intro x wx ox hN TT HTT
        have r55 : (fun (v : Value) (w1 : World) => True) (x 4) wx := hN.1 rfl
        have r53 : x 2 = (.bool false) := hN.2.1 rfl
        clear hN
        unfold StepTo
        simp only [putAll, Act.put, List.setIfInBounds_toArray, List.set_cons_succ, List.set_cons_zero, r53]
        clear r53
        go_wp2_with fail
        exact ⟨rfl, _, rfl, HTT.out _ _ (trivial) (Only.refl _ _)⟩
      · intro x wx ox hN TT HTT
        have r53 : x 2 = (.bool false) := hN.1 rfl
        clear hN
        unfold StepTo
        simp only [putAll, Act.put, List.setIfInBounds_toArray, List.set_cons_succ, List.set_cons_zero, r53]
        clear r53
        go_wp2_with fail
        exact ⟨rfl, _, rfl, HTT.out _ _ (trivial) (Only.refl _ _)⟩
      · intro x wx ox hN TT HTT
        have r57 : (fun (v : Value) (w1 : World) => True) (x 6) wx := hN.1 rfl
        have r53 : x 2 = (.bool false) := hN.2.1 rfl
        clear hN
        unfold StepTo
        simp only [putAll, Act.put, List.setIfInBounds_toArray, List.set_cons_succ, List.set_cons_zero, r53]
        clear r53
        go_wp2_with fail
        exact ⟨rfl, _, rfl, HTT.out _ _ (trivial) (Only.refl _ _)⟩
      · intro x wx ox hN TT HTT
        have r56 : (fun (v : Value) (w1 : World) => True) (x 5) wx := hN.1 rfl
        have r58 : (fun (v : Value) (w1 : World) => True) (x 7) wx := hN.2.1 rfl
        have r53 : x 2 = (.bool false) := hN.2.2.1 rfl
        clear hN
        unfold StepTo
        simp only [putAll, Act.put, List.setIfInBounds_toArray, List.set_cons_succ, List.set_cons_zero, r53]
        clear r53
        go_wp2_with fail
        exact ⟨rfl, _, rfl, HTT.out _ _ (trivial) (Only.refl _ _)⟩
      · intro x wx ox hN TT HTT
        have r53 : x 2 = (.bool false) := hN.1 rfl
        have r59 : (fun (v : Value) (w1 : World) => True) (x 8) wx := hN.2.1 rfl
        clear hN
        unfold StepTo
        simp only [putAll, Act.put, List.setIfInBounds_toArray, List.set_cons_succ, List.set_cons_zero, r53]
        clear r53
        go_wp2_with fail
        exact ⟨rfl, _, rfl, HTT.out _ _ (rfl) (Only.refl _ _)⟩
      · intro x wx ox hN TT HTT
        have r60 : x 9 = (.bool false) := hN.1 rfl
        have r55 : (fun (v : Value) (w1 : World) => True) (x 4) wx := hN.2.1 rfl
        clear hN
        unfold StepTo
        simp only [putAll, Act.put, List.setIfInBounds_toArray, List.set_cons_succ, List.set_cons_zero, r60]
        clear r60
        go_wp2_with fail
        exact ⟨rfl, _, rfl, HTT.out _ _ (rfl) (Only.refl _ _)⟩
      · intro x wx ox hN TT HTT
        have r61 : x 10 = (.bool false) := hN.1 rfl
        clear hN
        unfold StepTo
        simp only [putAll, Act.put, List.setIfInBounds_toArray, List.set_cons_succ, List.set_cons_zero, r61]
        clear r61
        go_wp2_with fail
        exact ⟨rfl, _, rfl, HTT.out _ _ (rfl) (Only.refl _ _)⟩
      · intro x wx ox hN TT HTT
        have r62 : x 11 = (.int .i64 0) := hN.1 rfl
        have r61 : x 10 = (.bool false) := hN.2.1 rfl
        clear hN
        unfold StepTo
        simp only [putAll, Act.put, List.setIfInBounds_toArray, List.set_cons_succ, List.set_cons_zero, r62, r61]
        clear r62 r61
        go_wp2_with fail
        exact ⟨rfl, _, rfl, HTT.out _ _ (rfl) (Only.refl _ _)⟩
      · intro x wx ox hN TT HTT
        have r63 : x 12 = (.bool true) := hN.1 rfl
        have r61 : x 10 = (.bool false) := hN.2.1 rfl
        clear hN
        unfold StepTo
        simp only [putAll, Act.put, List.setIfInBounds_toArray, List.set_cons_succ, List.set_cons_zero, r63, r61]
        clear r63 r61
        go_wp2_with fail
        exact ⟨rfl, _, rfl, HTT.out _ _ (rfl) (Only.refl _ _)⟩
      · intro x wx ox hN TT HTT
        have r64 : x 13 = (.bool true) := hN.1 rfl
        clear hN
        unfold StepTo
        simp only [putAll, Act.put, List.setIfInBounds_toArray, List.set_cons_succ, List.set_cons_zero, r64]
        clear r64
        obtain ⟨z0, z1, z2, z3, z4, z5, z6⟩ := box7f ((ox.block _ (Array.getElem?_eq_some_iff.1 HXT9.out).1 (fun h => h)).trans HXT9.out)
        obtain ⟨y0, y1, y2, y3, y4, y5, y6⟩ := box7 ((ox.block _ (Array.getElem?_eq_some_iff.1 HXT9.out).1 (fun h => h)).trans HXT9.out)
        go_wp2_with fail
        exact ⟨rfl, _, rfl, HTT.out _ _ (rfl) (Only.refl _ _)⟩
      · intro x wx ox hN TT HTT
        have r65 : x 14 = (.agg #[f0, f1, f2, f3, f4, f5, f6]) := hN.1 rfl
        have r64 : x 13 = (.bool true) := hN.2.1 rfl
        clear hN
        unfold StepTo
        simp only [putAll, Act.put, List.setIfInBounds_toArray, List.set_cons_succ, List.set_cons_zero, r65, r64]
        clear r65 r64
        have hc := HAG.out wx (((Only.refl _ w9).drew).trans ox)
        have HC := Lib.hid hc; clear hc
        go_wp2_with fail
        refine HC.out.mono ?_
        rintro e w6' ⟨v6, rfl, h6, o6⟩
        go_wp2_with fail
        exact ⟨rfl, _, rfl, HTT.out _ _ (h6.bytes) (o6)⟩
      · intro x wx ox hN TT HTT
        have r66 : (fun (v : Value) (w1 : World) => Bytes w1 v M) (x 15) wx := hN.1 rfl
        have r64 : x 13 = (.bool true) := hN.2.1 rfl
        clear hN
        unfold StepTo
        simp only [putAll, Act.put, List.setIfInBounds_toArray, List.set_cons_succ, List.set_cons_zero, r64]
        clear r64
        have hcv := r66.conv
        go_wp2_with fail
        exact ⟨rfl, _, rfl, HTT.out _ _ (rfl) (Only.refl _ _)⟩
      · intro x wx ox hN TT HTT
        have r64 : x 13 = (.bool true) := hN.1 rfl
        clear hN
        unfold StepTo
        simp only [putAll, Act.put, List.setIfInBounds_toArray, List.set_cons_succ, List.set_cons_zero, r64]
        clear r64
        go_wp2_with fail
        exact ⟨rfl, _, rfl, HTT.out _ _ (rfl) (Only.refl _ _)⟩
      · intro x wx ox hN TT HTT
        have r68 : x 17 = (.slice a4 M.length c4) := hN.1 rfl
        have r64 : x 13 = (.bool true) := hN.2.1 rfl
        clear hN
        unfold StepTo
        simp only [putAll, Act.put, List.setIfInBounds_toArray, List.set_cons_succ, List.set_cons_zero, r68, r64]
        clear r68 r64
        have hcv := (HB9.out.still (((Only.refl _ w9).drew).trans ox)).conv
        go_wp2_with fail
        exact ⟨rfl, _, rfl, HTT.out _ _ (rfl) (Only.refl _ _)⟩
      · intro x wx ox hN TT HTT
        have r67 : x 16 = (.string ⟨M.toArray⟩) := hN.1 rfl
        have r69 : x 18 = (.string ⟨M.toArray⟩) := hN.2.1 rfl
        have r64 : x 13 = (.bool true) := hN.2.2.1 rfl
        clear hN
        unfold StepTo
        simp only [putAll, Act.put, List.setIfInBounds_toArray, List.set_cons_succ, List.set_cons_zero, r67, r69, r64]
        clear r67 r69 r64
        go_wp2_with fail
        exact ⟨rfl, _, rfl, HTT.out _ _ (rfl) (Only.refl _ _)⟩
      · intro x wx ox hN TT HTT
        have r64 : x 13 = (.bool true) := hN.1 rfl
        have r70 : x 19 = (.bool false) := hN.2.1 rfl
        have r61 : x 10 = (.bool false) := hN.2.2.1 rfl
        clear hN
        unfold StepTo
        simp only [putAll, Act.put, List.setIfInBounds_toArray, List.set_cons_succ, List.set_cons_zero, r64, r70, r61]
        clear r64 r70 r61
        go_wp2_with fail
        exact ⟨rfl, _, rfl, HTT.out _ _ (rfl) (Only.refl _ _)⟩
      intro xa wxa oxa hN
      have r51 : xa 0 = (.int .i64 3) := hN.1
      have r52 : xa 1 = (.bool false) := hN.2.1
      have r53 : xa 2 = (.bool false) := hN.2.2.1
      have r54 : (fun (v : Value) (w1 : World) => True) (xa 3) wxa := hN.2.2.2.1
      have r55 : (fun (v : Value) (w1 : World) => True) (xa 4) wxa := hN.2.2.2.2.1
      have r56 : (fun (v : Value) (w1 : World) => True) (xa 5) wxa := hN.2.2.2.2.2.1
      have r57 : (fun (v : Value) (w1 : World) => True) (xa 6) wxa := hN.2.2.2.2.2.2.1
      have r58 : (fun (v : Value) (w1 : World) => True) (xa 7) wxa := hN.2.2.2.2.2.2.2.1
      have r59 : (fun (v : Value) (w1 : World) => True) (xa 8) wxa := hN.2.2.2.2.2.2.2.2.1
      have r60 : xa 9 = (.bool false) := hN.2.2.2.2.2.2.2.2.2.1
      have r61 : xa 10 = (.bool false) := hN.2.2.2.2.2.2.2.2.2.2.1
      have r62 : xa 11 = (.int .i64 0) := hN.2.2.2.2.2.2.2.2.2.2.2.1
      have r63 : xa 12 = (.bool true) := hN.2.2.2.2.2.2.2.2.2.2.2.2.1
      have r64 : xa 13 = (.bool true) := hN.2.2.2.2.2.2.2.2.2.2.2.2.2.1
      have r65 : xa 14 = (.agg #[f0, f1, f2, f3, f4, f5, f6]) := hN.2.2.2.2.2.2.2.2.2.2.2.2.2.2.1
      have r66 : (fun (v : Value) (w1 : World) => Bytes w1 v M) (xa 15) wxa := hN.2.2.2.2.2.2.2.2.2.2.2.2.2.2.2.1
      have r67 : xa 16 = (.string ⟨M.toArray⟩) := hN.2.2.2.2.2.2.2.2.2.2.2.2.2.2.2.2.1
      have r68 : xa 17 = (.slice a4 M.length c4) := hN.2.2.2.2.2.2.2.2.2.2.2.2.2.2.2.2.2.1
      have r69 : xa 18 = (.string ⟨M.toArray⟩) := hN.2.2.2.2.2.2.2.2.2.2.2.2.2.2.2.2.2.2.1
      have r70 : xa 19 = (.bool false) := hN.2.2.2.2.2.2.2.2.2.2.2.2.2.2.2.2.2.2.2.1
      have r71 : xa 20 = (.bool false) := hN.2.2.2.2.2.2.2.2.2.2.2.2.2.2.2.2.2.2.2.2.1
      clear hN
      simp only [putAll, Act.put, List.setIfInBounds_toArray, List.set_cons_succ, List.set_cons_zero, r51, r52, r53, r60, r61, r62, r63, r64, r65, r67, r68, r69, r70, r71]
      clear r51 r52 r53 r60 r61 r62 r63 r64 r65 r67 r68 r69 r70 r71
      have HOA := Lib.hid (HFIN.out _ (((Only.refl _ w9).drew).trans oxa)); clear oxa
      go_wp2_with fail
      go_ret
      exact ⟨rfl, HOA.out⟩
    · subst ea; subst et
      clear hnot
      go_wp2_with fail
      refine wp_region_steps 21 (by kernel_rfl) rfl (by kernel_rfl) [some 51, some 52, some 53, some 54, some 55, some 56, some 57, some 58, some 59, some 60, some 61, some 62, some 63, some 64, some 65, some 66, some 67, some 68, some 69, some 70, some 71] rfl rfl (fun _ => False) [(fun v _ => v = (.int .i64 3)), (fun v _ => v = (.bool false)), (fun v _ => v = (.bool false)), (fun v w1 => True), (fun v w1 => True), (fun v w1 => True), (fun v w1 => True), (fun v w1 => True), (fun v w1 => True), (fun v _ => v = (.bool false)), (fun v _ => v = (.bool false)), (fun v _ => v = (.int .i64 3)), (fun v _ => v = (.bool false)), (fun v _ => v = (.bool false)), (fun v w1 => True), (fun v w1 => True), (fun v w1 => True), (fun v w1 => True), (fun v w1 => True), (fun v w1 => True), (fun v _ => v = (.bool false))] rfl ⟨?_, ?_, ?_, ?_, ?_, ?_, ?_, ?_, ?_, ?_, ?_, ?_, ?_, ?_, ?_, ?_, ?_, ?_, ?_, ?_, ?_, trivial⟩ _ rfl ⟨?_, ?_, ?_, ?_, ?_, ?_, ?_, ?_, ?_, ?_, ?_, ?_, ?_, ?_, ?_, ?_, ?_, ?_, ?_, ?_, ?_, trivial⟩ ?_
      · exact Stable.is _ _
      · exact Stable.is _ _
      · exact Stable.is _ _
      · intro v w1 w2 h ho; exact h
      · intro v w1 w2 h ho; exact h
      · intro v w1 w2 h ho; exact h
      · intro v w1 w2 h ho; exact h
      · intro v w1 w2 h ho; exact h
      · intro v w1 w2 h ho; exact h
      · exact Stable.is _ _
      · exact Stable.is _ _
      · exact Stable.is _ _
      · exact Stable.is _ _
      · exact Stable.is _ _
      · intro v w1 w2 h ho; exact h
      · intro v w1 w2 h ho; exact h
      · intro v w1 w2 h ho; exact h
      · intro v w1 w2 h ho; exact h
      · intro v w1 w2 h ho; exact h
      · intro v w1 w2 h ho; exact h
      · exact Stable.is _ _
      · intro x wx ox hN TT HTT
        clear hN
        unfold StepTo
        simp only [putAll, Act.put, List.setIfInBounds_toArray, List.set_cons_succ, List.set_cons_zero]
        go_wp2_with fail
        exact ⟨rfl, _, rfl, HTT.out _ _ (rfl) (Only.refl _ _)⟩
      · intro x wx ox hN TT HTT
        have r51 : x 0 = (.int .i64 3) := hN.1 rfl
        clear hN
        unfold StepTo
        simp only [putAll, Act.put, List.setIfInBounds_toArray, List.set_cons_succ, List.set_cons_zero, r51]
        clear r51
        go_wp2_with fail
        exact ⟨rfl, _, rfl, HTT.out _ _ (rfl) (Only.refl _ _)⟩
      · intro x wx ox hN TT HTT
        have r52 : x 1 = (.bool false) := hN.1 rfl
        clear hN
        unfold StepTo
        simp only [putAll, Act.put, List.setIfInBounds_toArray, List.set_cons_succ, List.set_cons_zero, r52]
        clear r52
        go_wp2_with fail
        exact ⟨rfl, _, rfl, HTT.out _ _ (rfl) (Only.refl _ _)⟩
      · intro x wx ox hN TT HTT
        have r53 : x 2 = (.bool false) := hN.1 rfl
        clear hN
        unfold StepTo
        simp only [putAll, Act.put, List.setIfInBounds_toArray, List.set_cons_succ, List.set_cons_zero, r53]
        clear r53
        go_wp2_with fail
        exact ⟨rfl, _, rfl, HTT.out _ _ (trivial) (Only.refl _ _)⟩
      · intro x wx ox hN TT HTT
        have r54 : (fun (v : Value) (w1 : World) => True) (x 3) wx := hN.1 rfl
        have r53 : x 2 = (.bool false) := hN.2.1 rfl
        clear hN
        unfold StepTo
        simp only [putAll, Act.put, List.setIfInBounds_toArray, List.set_cons_succ, List.set_cons_zero, r53]
        clear r53
        go_wp2_with fail
        exact ⟨rfl, _, rfl, HTT.out _ _ (trivial) (Only.refl _ _)⟩
      · intro x wx ox hN TT HTT
        have r55 : (fun (v : Value) (w1 : World) => True) (x 4) wx := hN.1 rfl
        have r53 : x 2 = (.bool false) := hN.2.1 rfl
        clear hN
        unfold StepTo
        simp only [putAll, Act.put, List.setIfInBounds_toArray, List.set_cons_succ, List.set_cons_zero, r53]
        clear r53
        go_wp2_with fail
        exact ⟨rfl, _, rfl, HTT.out _ _ (trivial) (Only.refl _ _)⟩
      · intro x wx ox hN TT HTT
        have r53 : x 2 = (.bool false) := hN.1 rfl
        clear hN
        unfold StepTo
        simp only [putAll, Act.put, List.setIfInBounds_toArray, List.set_cons_succ, List.set_cons_zero, r53]
        clear r53
        go_wp2_with fail
        exact ⟨rfl, _, rfl, HTT.out _ _ (trivial) (Only.refl _ _)⟩
      · intro x wx ox hN TT HTT
        have r57 : (fun (v : Value) (w1 : World) => True) (x 6) wx := hN.1 rfl
        have r53 : x 2 = (.bool false) := hN.2.1 rfl
        clear hN
        unfold StepTo
        simp only [putAll, Act.put, List.setIfInBounds_toArray, List.set_cons_succ, List.set_cons_zero, r53]
        clear r53
        go_wp2_with fail
        exact ⟨rfl, _, rfl, HTT.out _ _ (trivial) (Only.refl _ _)⟩
      · intro x wx ox hN TT HTT
        have r56 : (fun (v : Value) (w1 : World) => True) (x 5) wx := hN.1 rfl
        have r58 : (fun (v : Value) (w1 : World) => True) (x 7) wx := hN.2.1 rfl
        have r53 : x 2 = (.bool false) := hN.2.2.1 rfl
        clear hN
        unfold StepTo
        simp only [putAll, Act.put, List.setIfInBounds_toArray, List.set_cons_succ, List.set_cons_zero, r53]
        clear r53
        go_wp2_with fail
        exact ⟨rfl, _, rfl, HTT.out _ _ (trivial) (Only.refl _ _)⟩
      · intro x wx ox hN TT HTT
        have r53 : x 2 = (.bool false) := hN.1 rfl
        have r59 : (fun (v : Value) (w1 : World) => True) (x 8) wx := hN.2.1 rfl
        clear hN
        unfold StepTo
        simp only [putAll, Act.put, List.setIfInBounds_toArray, List.set_cons_succ, List.set_cons_zero, r53]
        clear r53
        go_wp2_with fail
        exact ⟨rfl, _, rfl, HTT.out _ _ (rfl) (Only.refl _ _)⟩
      · intro x wx ox hN TT HTT
        have r60 : x 9 = (.bool false) := hN.1 rfl
        have r55 : (fun (v : Value) (w1 : World) => True) (x 4) wx := hN.2.1 rfl
        clear hN
        unfold StepTo
        simp only [putAll, Act.put, List.setIfInBounds_toArray, List.set_cons_succ, List.set_cons_zero, r60]
        clear r60
        go_wp2_with fail
        exact ⟨rfl, _, rfl, HTT.out _ _ (rfl) (Only.refl _ _)⟩
      · intro x wx ox hN TT HTT
        have r61 : x 10 = (.bool false) := hN.1 rfl
        clear hN
        unfold StepTo
        simp only [putAll, Act.put, List.setIfInBounds_toArray, List.set_cons_succ, List.set_cons_zero, r61]
        clear r61
        go_wp2_with fail
        exact ⟨rfl, _, rfl, HTT.out _ _ (rfl) (Only.refl _ _)⟩
      · intro x wx ox hN TT HTT
        have r62 : x 11 = (.int .i64 3) := hN.1 rfl
        have r61 : x 10 = (.bool false) := hN.2.1 rfl
        clear hN
        unfold StepTo
        simp only [putAll, Act.put, List.setIfInBounds_toArray, List.set_cons_succ, List.set_cons_zero, r62, r61]
        clear r62 r61
        go_wp2_with fail
        exact ⟨rfl, _, rfl, HTT.out _ _ (rfl) (Only.refl _ _)⟩
      · intro x wx ox hN TT HTT
        have r63 : x 12 = (.bool false) := hN.1 rfl
        have r61 : x 10 = (.bool false) := hN.2.1 rfl
        clear hN
        unfold StepTo
        simp only [putAll, Act.put, List.setIfInBounds_toArray, List.set_cons_succ, List.set_cons_zero, r63, r61]
        clear r63 r61
        go_wp2_with fail
        exact ⟨rfl, _, rfl, HTT.out _ _ (rfl) (Only.refl _ _)⟩
      · intro x wx ox hN TT HTT
        have r64 : x 13 = (.bool false) := hN.1 rfl
        clear hN
        unfold StepTo
        simp only [putAll, Act.put, List.setIfInBounds_toArray, List.set_cons_succ, List.set_cons_zero, r64]
        clear r64
        go_wp2_with fail
        exact ⟨rfl, _, rfl, HTT.out _ _ (trivial) (Only.refl _ _)⟩
      · intro x wx ox hN TT HTT
        have r65 : (fun (v : Value) (w1 : World) => True) (x 14) wx := hN.1 rfl
        have r64 : x 13 = (.bool false) := hN.2.1 rfl
        clear hN
        unfold StepTo
        simp only [putAll, Act.put, List.setIfInBounds_toArray, List.set_cons_succ, List.set_cons_zero, r64]
        clear r64
        go_wp2_with fail
        exact ⟨rfl, _, rfl, HTT.out _ _ (trivial) (Only.refl _ _)⟩
      · intro x wx ox hN TT HTT
        have r66 : (fun (v : Value) (w1 : World) => True) (x 15) wx := hN.1 rfl
        have r64 : x 13 = (.bool false) := hN.2.1 rfl
        clear hN
        unfold StepTo
        simp only [putAll, Act.put, List.setIfInBounds_toArray, List.set_cons_succ, List.set_cons_zero, r64]
        clear r64
        go_wp2_with fail
        exact ⟨rfl, _, rfl, HTT.out _ _ (trivial) (Only.refl _ _)⟩
      · intro x wx ox hN TT HTT
        have r64 : x 13 = (.bool false) := hN.1 rfl
        clear hN
        unfold StepTo
        simp only [putAll, Act.put, List.setIfInBounds_toArray, List.set_cons_succ, List.set_cons_zero, r64]
        clear r64
        go_wp2_with fail
        exact ⟨rfl, _, rfl, HTT.out _ _ (trivial) (Only.refl _ _)⟩
      · intro x wx ox hN TT HTT
        have r68 : (fun (v : Value) (w1 : World) => True) (x 17) wx := hN.1 rfl
        have r64 : x 13 = (.bool false) := hN.2.1 rfl
        clear hN
        unfold StepTo
        simp only [putAll, Act.put, List.setIfInBounds_toArray, List.set_cons_succ, List.set_cons_zero, r64]
        clear r64
        go_wp2_with fail
        exact ⟨rfl, _, rfl, HTT.out _ _ (trivial) (Only.refl _ _)⟩
      · intro x wx ox hN TT HTT
        have r67 : (fun (v : Value) (w1 : World) => True) (x 16) wx := hN.1 rfl
        have r69 : (fun (v : Value) (w1 : World) => True) (x 18) wx := hN.2.1 rfl
        have r64 : x 13 = (.bool false) := hN.2.2.1 rfl
        clear hN
        unfold StepTo
        simp only [putAll, Act.put, List.setIfInBounds_toArray, List.set_cons_succ, List.set_cons_zero, r64]
        clear r64
        go_wp2_with fail
        exact ⟨rfl, _, rfl, HTT.out _ _ (trivial) (Only.refl _ _)⟩
      · intro x wx ox hN TT HTT
        have r64 : x 13 = (.bool false) := hN.1 rfl
        have r70 : (fun (v : Value) (w1 : World) => True) (x 19) wx := hN.2.1 rfl
        have r61 : x 10 = (.bool false) := hN.2.2.1 rfl
        clear hN
        unfold StepTo
        simp only [putAll, Act.put, List.setIfInBounds_toArray, List.set_cons_succ, List.set_cons_zero, r64, r61]
        clear r64 r61
        go_wp2_with fail
        exact ⟨rfl, _, rfl, HTT.out _ _ (rfl) (Only.refl _ _)⟩
      intro xa wxa oxa hN
      have r51 : xa 0 = (.int .i64 3) := hN.1
      have r52 : xa 1 = (.bool false) := hN.2.1
      have r53 : xa 2 = (.bool false) := hN.2.2.1
      have r54 : (fun (v : Value) (w1 : World) => True) (xa 3) wxa := hN.2.2.2.1
      have r55 : (fun (v : Value) (w1 : World) => True) (xa 4) wxa := hN.2.2.2.2.1
      have r56 : (fun (v : Value) (w1 : World) => True) (xa 5) wxa := hN.2.2.2.2.2.1
      have r57 : (fun (v : Value) (w1 : World) => True) (xa 6) wxa := hN.2.2.2.2.2.2.1
      have r58 : (fun (v : Value) (w1 : World) => True) (xa 7) wxa := hN.2.2.2.2.2.2.2.1
      have r59 : (fun (v : Value) (w1 : World) => True) (xa 8) wxa := hN.2.2.2.2.2.2.2.2.1
      have r60 : xa 9 = (.bool false) := hN.2.2.2.2.2.2.2.2.2.1
      have r61 : xa 10 = (.bool false) := hN.2.2.2.2.2.2.2.2.2.2.1
      have r62 : xa 11 = (.int .i64 3) := hN.2.2.2.2.2.2.2.2.2.2.2.1
      have r63 : xa 12 = (.bool false) := hN.2.2.2.2.2.2.2.2.2.2.2.2.1
      have r64 : xa 13 = (.bool false) := hN.2.2.2.2.2.2.2.2.2.2.2.2.2.1
      have r65 : (fun (v : Value) (w1 : World) => True) (xa 14) wxa := hN.2.2.2.2.2.2.2.2.2.2.2.2.2.2.1
      have r66 : (fun (v : Value) (w1 : World) => True) (xa 15) wxa := hN.2.2.2.2.2.2.2.2.2.2.2.2.2.2.2.1
      have r67 : (fun (v : Value) (w1 : World) => True) (xa 16) wxa := hN.2.2.2.2.2.2.2.2.2.2.2.2.2.2.2.2.1
      have r68 : (fun (v : Value) (w1 : World) => True) (xa 17) wxa := hN.2.2.2.2.2.2.2.2.2.2.2.2.2.2.2.2.2.1
      have r69 : (fun (v : Value) (w1 : World) => True) (xa 18) wxa := hN.2.2.2.2.2.2.2.2.2.2.2.2.2.2.2.2.2.2.1
      have r70 : (fun (v : Value) (w1 : World) => True) (xa 19) wxa := hN.2.2.2.2.2.2.2.2.2.2.2.2.2.2.2.2.2.2.2.1
      have r71 : xa 20 = (.bool false) := hN.2.2.2.2.2.2.2.2.2.2.2.2.2.2.2.2.2.2.2.2.1
      clear hN
      simp only [putAll, Act.put, List.setIfInBounds_toArray, List.set_cons_succ, List.set_cons_zero, r51, r52, r53, r60, r61, r62, r63, r64, r71]
      clear r51 r52 r53 r60 r61 r62 r63 r64 r71
      have HOA := Lib.hid (HFIN.out _ (((Only.refl _ w9).drew).trans oxa)); clear oxa
      go_wp2_with fail
      go_ret
      exact ⟨rfl, HOA.out⟩
theorem reads_walk (a0 : Option Addr) (len0 cap0 : Nat) (z0 : List Int) (a1 : Bool) (w : World) (h0 : IsRow .u8 w a0 len0 cap0 z0) :
    Calls Try.prog 16 #[.slice a0 len0 cap0, .bool a1] w fun e w' => e = .returned (.bool true) ∧ Below w.heap.size w w' := by
  obtain ⟨lq, hl, hb, _⟩ := bytes_row h0
  exact reads0 _ lq a1 w hb
end Go.Proofs.Ytoojnpafcdaflaa
