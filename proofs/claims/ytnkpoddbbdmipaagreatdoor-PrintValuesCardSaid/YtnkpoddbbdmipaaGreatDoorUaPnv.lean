/- . -/
import Derived.Test.YtnkpoddbbdmipaaGreatDoorUaQre
import Derived.Test.YtnkpoddbbdmipaaGreatDoorUaOwC
import Derived.Test.YtnkpoddbbdmipaaGreatDoorProg
import Derived.Test.YtnkpoddbbdmipaaGreatDoorUaTkA
import Derived.Lib.Bytealg
import Derived.Laws.Externs
import Derived.Deep.CutRange
import Derived.Deep.CutBlock
import Derived.Test.YtnkpoddbbdmipaaGreatDoorUaPnt
namespace Go.Proofs.YtnkpoddbbdmipaaGreatDoor
open Go Go.RowKit
open Go.Lib (hid)
set_option linter.unusedVariables false
set_option linter.unusedSimpArgs false
theorem RepF.past {w w' : World} {B X b : Nat} {P : List UInt8} {f : Nat → Value} {tv : Value} (h : RepF w B X P f tv) (hb : b < B) (o : Only (fun k => k = b) w w') : RepF w' B X P f tv := by
 have hlow := h.low; refine ⟨(o.block X (Array.getElem?_eq_some_iff.1 h.box).1 (fun e => by have e : X = b := e; omega)).trans h.box, h.low, own_only' h.own o (fun k hk e => ?_), h.apart, fun u hu => ?_, h.no⟩
 ·obtain ⟨_, _, _, _, _, h3⟩ := own_form h.own; have := (h3 k hk).1; have e : k = b := e; omega
 ·obtain ⟨g, k, z, e1, e2, e3, e4, e5, e6, e7, e8, e9, e10⟩ := h.yes u hu; have hg : g ≠ b := by omega
  exact ⟨g, k, z, e1, e2, Nat.lt_of_lt_of_le e3 o.size, e4, e5, e6, e7, e8, (cell_keep (p := ⟨g, 0, none⟩) o e3 hg).trans e9, (cell_keep (p := ⟨g, 1, none⟩) o e3 hg).trans e10⟩
def ReplQ (B : Nat) (v3 v4 : Value) (w : World) : Prop := ∃ X f tv, v3 = .iface 184 (.pointer (some ⟨X, 0, none⟩)) ∧ v4 = .slice none 0 0 ∧ RepF w B X escP4 f tv
set_option maxRecDepth 100000 in
set_option maxHeartbeats 4000000 in
theorem once_any (b q p c8 : Nat) (v0 v1 v2 v3 : Value) (w : World) (hp : w.heap[b]? = some (.cells #[v0, v1, v2, v3, .slice (some ⟨q, p, none⟩) 8 c8] 142 (0, 0)))
  (ho : w.rangeAt q p (quoP.map fun s => .string ⟨s.toArray⟩)) :
  Calls Tryz.prog 83 #[.pointer (some ⟨b, 0, none⟩)] w fun e w' => e = .returned (.tuple #[]) ∧ Only (fun k => k = b) w w' ∧ ∃ u3 u4, w'.heap[b]? = some (.cells #[v0, v1, v2, u3, u4] 142 (0, 0)) ∧ ReplQ w.heap.size u3 u4 w' := by
 have J := hid (build_any b q p c8 v0 v1 v2 v3 w hp ho); have hb := (Array.getElem?_eq_some_iff.1 hp).1; have HP := hid hp; clear hp ho
 go_enter Tryz.func83, Tryz.ntmps83
 go_wp2_with fail
 refine J.out.mono ?_
 rintro e w1 ⟨X, f, tv, rfl, hr, o1⟩; have hp1 := (o1.block b hb (fun e => e)).trans HP.out; obtain ⟨c0, c1, c2, c3, c4, fz⟩ := boxN5 hp1; have hp2 := heap_set (o := 3) hp1 (.iface 184 (.pointer (some ⟨X, 0, none⟩))); have hp3 := heap_set (o := 4) hp2 (.slice none 0 0); have oz : Only (fun k => k = b) w1 ((w1.setCell ⟨b, 3, none⟩ (.iface 184 (.pointer (some ⟨X, 0, none⟩)))).setCell ⟨b, 4, none⟩ (.slice none 0 0)) := ((Only.refl (fun k => k = b) w1).setCell (p := ⟨b, 3, none⟩) (.inl rfl) _).setCell (p := ⟨b, 4, none⟩) (.inl rfl) _; have hr2 := hr.past hb oz; rw [List.setIfInBounds_toArray] at hp3; have hp3 : ((w1.setCell ⟨b, 3, none⟩ (.iface 184 (.pointer (some ⟨X, 0, none⟩)))).setCell ⟨b, 4, none⟩ (.slice none 0 0)).heap[b]? = some (.cells #[v0, v1, v2, .iface 184 (.pointer (some ⟨X, 0, none⟩)), .slice none 0 0] 142 (0, 0)) := by simpa using hp3
 have HEND := hid (And.intro ((o1.mono (T := fun k => k = b) (fun _ _ e => e.elim)).trans oz) (And.intro hp3 hr2)); clear hp1 hp2 hp3 hr hr2 o1 oz
 go_wp2_with fail
 clear c0 c1 c2 c3 c4 fz
 first
  | exact ⟨rfl, HEND.out.1, _, _, HEND.out.2.1, X, f, tv, rfl, rfl, HEND.out.2.2⟩
  | (go_end0; exact ⟨rfl, HEND.out.1, _, _, HEND.out.2.1, X, f, tv, rfl, rfl, HEND.out.2.2⟩)
set_option maxRecDepth 100000 in
set_option maxHeartbeats 4000000 in
theorem newrepl_any (q p c8 : Nat) (w : World) (hc : 8 ≤ c8 ∧ c8 ≤ 1000) (ho : w.rangeAt q p (quoP.map fun s => .string ⟨s.toArray⟩)) :
  Calls Tryz.prog 58 #[.slice (some ⟨q, p, none⟩) 8 c8] w fun e w' => ∃ b q' c', e = .returned (.pointer (some ⟨b, 0, none⟩)) ∧ w.heap.size ≤ b ∧ w'.heap[b]? = some (.cells #[.int .u32 0, .int .i32 0, .int .u32 0, .nilIface, .slice (some ⟨q', 0, none⟩) 8 c'] 142 (0, 0)) ∧ w'.rangeAt q' 0 (quoP.map fun s => .string ⟨s.toArray⟩) ∧ q' ≠ b ∧ Only (fun _ => False) w w' := by
 have HO := hid ho; have hq : q < w.heap.size := cell_lt (ho 0 _ rfl); have hys : ∀ j u, (quoP.map fun s => Value.string ⟨s.toArray⟩)[j]? = some u → w.cell? ((⟨q, p, none⟩ : Addr).add j) = some u := fun j u hu => by rw [addr_add]; exact ho j u hu
 have HYS := hid hys; clear ho hys
 go_enter Tryz.func58, Tryz.ntmps58
 go_wp2_with ((refine wpList_append_own2 (o := ⟨some 9, _, _, _, _, _⟩) rfl (.const (.slice none 0 0)) (.tmp 8) 32 9 (by rfl) Tryz.underlying32 infoStrQ rfl (by decide) w.heap.size (.slice none 0 0) 0 8 c8 [] (quoP.map fun s => .string ⟨s.toArray⟩) ⟨q, p, none⟩ (by rfl) (by rfl) (own_nil _ _ _ _) (by rfl) HYS.out (by intro u hu; rw [List.mem_map] at hu; obtain ⟨_, _, rfl⟩ := hu; rfl) (by decide) (by decide) (Nat.le_refl _) ?_; intro v' w9 q1 q2 q3; obtain ⟨g, c9, eN, g1, g2, g3⟩ := own_range q1 (by decide); subst eN))
 obtain ⟨bb, hbb⟩ := eX (w9.heap.size); have hn := heap_new w9 (.cells #[.int .u32 0, .int .i32 0, .int .u32 0, .nilIface, .slice (some ⟨g, 0, none⟩) 8 c9] 142); have on := (Only.refl (fun _ => False) w9).alloc (.cells #[.int .u32 0, .int .i32 0, .int .u32 0, .nilIface, .slice (some ⟨g, 0, none⟩) 8 c9] 142); have o9 : Only (fun _ => False) w w9 := q2.mono (fun k _ e => by cases e); have hrg : (w9.alloc (.cells #[.int .u32 0, .int .i32 0, .int .u32 0, .nilIface, .slice (some ⟨g, 0, none⟩) 8 c9] 142)).rangeAt g 0 (quoP.map fun s => .string ⟨s.toArray⟩) := range_keep g3 g2 on (fun e => e)
 go_wp2_with fail
 go_ret
 exact ⟨w9.heap.size, g, c9, rfl, o9.size, hn, hrg, by omega, o9.trans on⟩
set_option maxRecDepth 100000 in
set_option maxHeartbeats 4000000 in
theorem replace_any (b q c : Nat) (s : ByteArray) (hs : s.size ≤ 1000000000000) (w : World) (hb : w.heap[b]? = some (.cells #[.int .u32 0, .int .i32 0, .int .u32 0, .nilIface, .slice (some ⟨q, 0, none⟩) 8 c] 142 (0, 0))) (hr : w.rangeAt q 0 (quoP.map fun s => .string ⟨s.toArray⟩)) (hqb : q ≠ b) :
  Calls Tryz.prog 59 #[.pointer (some ⟨b, 0, none⟩), .string s] w fun e w' => e = .returned (.string ⟨(escS s.data.toList).toArray⟩) ∧ Only (fun k => k = b) w w' := by
 have hbl := (Array.getElem?_eq_some_iff.1 hb).1; have hql : q < w.heap.size := cell_lt (hr 0 _ rfl); have o1 : Only (fun k => k = b) w (w.setCell ⟨b, 1, none⟩ (.int .i32 1)) := (Only.refl (fun k => k = b) w).setCell (p := ⟨b, 1, none⟩) (.inl rfl) _; have hb1 := heap_set (o := 1) hb (.int .i32 1); have hb1 : (w.setCell ⟨b, 1, none⟩ (.int .i32 1)).heap[b]? = some (.cells #[.int .u32 0, .int .i32 1, .int .u32 0, .nilIface, .slice (some ⟨q, 0, none⟩) 8 c] 142 (0, 0)) := by simpa using hb1
 have hsz : (w.setCell ⟨b, 1, none⟩ (.int .i32 1)).heap.size = w.heap.size := by simp [World.setCell]
 have JF := once_any b q 0 c _ _ _ _ (w.setCell ⟨b, 1, none⟩ (.int .i32 1)) hb1 (range_keep hr hql o1 hqb); rw [hsz] at JF; have J := hid (do_any b _ _ w hb (ReplQ w.heap.size) (JF.mono fun e w' h => ⟨h.1, o1.trans h.2.1, h.2.2⟩)); have hmf : ∀ (fn : Fn) (first cap : Array Value) (w : World), (Instr.makeFunc fn first cap).run Tryz.prog w = .ok (.func fn first cap) w := fun _ _ _ _ => rfl
 clear JF hb1 o1 hsz hr hb hql hqb
 go_enter Tryz.func59, Tryz.ntmps59
 go_wp2_with fail
 refine J.out.mono ?_
 rintro e w2 ⟨rfl, o2, u3, u4, w1, hb2, ⟨X, f, tv, rfl, rfl, hrf⟩, o12⟩; have K := hid (repl_any w.heap.size X f tv s hs w2 (hrf.past hbl o12)); have HO2 := hid o2; obtain ⟨c0, c1, c2, c3, c4, fz⟩ := boxN5 hb2; clear o2 o12 hrf hb2 J
 go_wp2_with fail
 refine K.out.mono ?_
 rintro e w3 ⟨rfl, o3⟩; have HO3 := hid (HO2.out.trans' o3 (fun _ _ e => e.elim)); clear o3 c0 c1 c2 c3 c4 fz
 go_wp2_with fail
 go_ret
 exact ⟨rfl, HO3.out⟩
set_option maxRecDepth 100000 in
set_option maxHeartbeats 4000000 in
theorem pquote_any (s : ByteArray) (hs : s.size ≤ 1000000000000) (w : World) : Calls Tryz.prog 25 #[.string s] w (fun e w' => e = .returned (.string ⟨(quoS s.data.toList).toArray⟩) ∧ Only (fun _ => False) w w') := by
 obtain ⟨G, hG⟩ := eX (w.heap.size); obtain ⟨w1, hw1⟩ := eX (w.alloc (.cells (quoP.map fun s => Value.string ⟨s.toArray⟩).toArray 9)); have h1 : w1.heap[G]? = some (.cells (quoP.map fun s => Value.string ⟨s.toArray⟩).toArray 9 (0, 0)) := by rw [← hw1, ← hG]; exact heap_new _ _
 have o1 : Only (fun _ => False) w w1 := by rw [← hw1]; exact (Only.refl _ w).alloc _
 have hrg : w1.rangeAt G 0 (quoP.map fun s => .string ⟨s.toArray⟩) := fun j v hv => by
  simp only [World.cell?, h1]; rw [Nat.zero_add]; simpa using hv
 have J := hid (newrepl_any G 0 8 w1 ⟨by omega, by omega⟩ hrg); have HO1 := hid o1; have HG := hid hG; have HW1 := hid (show w.alloc (.cells #[.string ⟨#[92]⟩, .string ⟨#[92, 92]⟩, .string ⟨#[34]⟩, .string ⟨#[92, 34]⟩, .string ⟨#[10]⟩, .string ⟨#[92, 110]⟩, .string ⟨#[9]⟩, .string ⟨#[92, 116]⟩] 9) = w1 from hw1); have hup := (escS_up s.data.toList).2; have hsl : s.data.toList.length = s.size := rfl; rw [hsl] at hup; obtain ⟨E, hE⟩ := eX (escS s.data.toList); have HE := hid hE; rw [hE] at hup; have hEb : E.length ≤ 3000000000000 := by omega
 clear h1 o1 hrg hG hw1 hsl hup hE
 go_enter Tryz.func25, Tryz.ntmps25
 go_upto_region 1 with (fail)
 go_wp2_with fail
 rw [HG.out, HW1.out]; refine J.out.mono ?_
 rintro e w2 ⟨b, q, c, rfl, hbl, hb, hr, hqb, o2⟩; have K := hid (replace_any b q c s hs w2 hb hr hqb); rw [HE.out] at K; have HO2 := hid (HO1.out.trans o2); have HBL := hid (show w.heap.size ≤ b from Nat.le_trans HO1.out.size hbl); clear hb hr hqb o2 hbl J HG HW1
 go_wp2_with fail
 refine K.out.mono ?_
 rintro e w3 ⟨rfl, o3⟩; have HO3 := hid (HO2.out.trans' o3 (fun k hk e => by have e : k = b := e; have := HBL.out; omega)); have HQ := hid (show quoS s.data.toList = [34] ++ E ++ [34] by rw [← HE.out]; rfl); clear o3 K
 go_wp2_with fail
 go_ret
 rw [HQ.out, ← cat_list, ← cat_list]; exact ⟨rfl, HO3.out⟩
def Tests (f : FuncId) (b : UInt8 → Bool) : Prop := ∀ (u : UInt8) (w : World), Calls Tryz.prog f #[.int .u8 (u.toNat : Int)] w fun e w' => e = .returned (.bool (b u)) ∧ w' = w
theorem u8_lt (u : UInt8) : (u.toNat : Int) < 256 := by have := u.toNat_lt; omega
theorem u8_ge (u : UInt8) : (0 : Int) ≤ (u.toNat : Int) := by omega
theorem u8_all {p : UInt8 → Prop} (h : ∀ n : Fin 256, p (UInt8.ofNat n.val)) (u : UInt8) : p u := by
 have := h ⟨u.toNat, by have := u.toNat_lt; omega⟩; simpa using this
set_option maxRecDepth 100000 in
theorem rdigit_any : Tests 90 digB := by
 intro u w; have h1 := u8_lt u; have h2 := u8_ge u; have e : ∀ a b : Bool, a = decide ((48 : Int) ≤ (u.toNat : Int)) → b = decide ((u.toNat : Int) ≤ 57) → (a && b) = digB u := by
  rintro _ _ rfl rfl; unfold digB; congr 1 <;> (apply decide_eq_decide.2; omega)
 have E := hid e; clear e; obtain ⟨n, hn⟩ : ∃ n : Int, (u.toNat : Int) = n := ⟨_, rfl⟩; rw [hn] at h1 h2 ⊢; have HN := hid hn; clear hn
 by_cases h3 : 48 ≤ n <;> by_cases h4 : n ≤ 57 <;> (
  go_enter Tryz.func90, Tryz.ntmps90
  go_wp2
  go_ret
  refine ⟨ret_bool ?_, rfl⟩
  rw [← E.out _ _ rfl rfl, HN.out]
  simp [h3, h4])
theorem letB_cmp (u : UInt8) (n : Int) (hn : (u.toNat : Int) = n) (a b c d e : Bool) (ha : a = decide (97 ≤ n)) (hb : b = decide (n ≤ 122)) (hc : c = decide (65 ≤ n)) (hd : d = decide (n ≤ 90)) (he : e = decide (n = 95)) : ((a && b) || (c && d) || e) = letB u := by
 subst ha hb hc hd he hn; unfold letB
 congr 1
 ·congr 1 <;> congr 1 <;> (apply decide_eq_decide.2; omega)
 ·apply decide_eq_decide.2; omega
set_option maxRecDepth 100000 in
set_option maxHeartbeats 2000000 in
theorem rletter_any : Tests 89 letB := by
 intro u w; have h1 := u8_lt u; have h2 := u8_ge u; obtain ⟨n, hn⟩ : ∃ n : Int, (u.toNat : Int) = n := ⟨_, rfl⟩; rw [hn] at h1 h2 ⊢; have E := hid (letB_cmp u n hn); clear hn; have key : n < 65 ∨ (65 ≤ n ∧ n ≤ 90) ∨ (90 < n ∧ n < 95) ∨ n = 95 ∨ n = 96 ∨ (97 ≤ n ∧ n ≤ 122) ∨ 122 < n := by omega
 rcases key with h | ⟨h, h'⟩ | ⟨h, h'⟩ | h | h | ⟨h, h'⟩ | h
 all_goals (
  have t1 : decide (97 ≤ n) = decide (97 ≤ n) := rfl; rw [← E.out _ _ _ _ _ rfl rfl rfl rfl rfl]
  first
   | (rw [show decide (97 ≤ n) = true from decide_eq_true (by omega)])
   | (rw [show decide (97 ≤ n) = false from decide_eq_false (by omega)])
  first
   | (rw [show decide (n ≤ 122) = true from decide_eq_true (by omega)])
   | (rw [show decide (n ≤ 122) = false from decide_eq_false (by omega)])
  first
   | (rw [show decide (65 ≤ n) = true from decide_eq_true (by omega)])
   | (rw [show decide (65 ≤ n) = false from decide_eq_false (by omega)])
  first
   | (rw [show decide (n ≤ 90) = true from decide_eq_true (by omega)])
   | (rw [show decide (n ≤ 90) = false from decide_eq_false (by omega)])
  first
   | (rw [show decide (n = 95) = true from decide_eq_true (by omega)])
   | (rw [show decide (n = 95) = false from decide_eq_false (by omega)])
  clear E t1
  go_enter Tryz.func89, Tryz.ntmps89
  go_wp2
  go_ret
  refine ⟨ret_bool ?_, rfl⟩
  first | rfl | (simp; done) | (simp; omega))
theorem ba_eq {t : ByteArray} {l : List UInt8} (h : t.data.toList = l) : t = ⟨l.toArray⟩ := by
 subst h; rfl
theorem extract_list (s : ByteArray) (a b : Nat) : (s.extract a b).data.toList = (s.data.toList.drop a).take (b - a) := by
 rw [ByteArray.data_extract, Array.toList_extract, List.extract_eq_take_drop]
def tokV (k : Nat) (t : List UInt8) (n : Int) (a : Nat) : Value := .agg #[.int .u8 (k : Int), .string ⟨t.toArray⟩, .int .i64 n, .int .i64 (a : Int)]
theorem box4 {w : World} {b : Nat} {x0 x1 x2 x3 : Value} {T : TypeId} (h : w.heap[b]? = some (.cells #[x0, x1, x2, x3] T (0, 0))) :
  w.cell? ⟨b, 0, none⟩ = some x0 ∧ w.cell? ⟨b, 1, none⟩ = some x1 ∧ w.cell? ⟨b, 2, none⟩ = some x2 ∧ w.cell? ⟨b, 3, none⟩ = some x3 := by
 refine ⟨?_, ?_, ?_, ?_⟩ <;> simp [World.cell?, h]
theorem numP_at {l : List UInt8} {f r : Nat} (hf : numFrom l = f) (hr : runL digB (l.drop f) = r) : numP l =
  if f + r = f then .bad (f + r) 4
  else if (l.getD f 0).toNat = 48 ∧ f + 1 < f + r then .bad (f + 1) 4
  else if f + r < l.length ∧ (letB (l.getD (f + r) 0) = true ∨ (l.getD (f + r) 0).toNat = 46) then .bad (f + r) 4
  else if 18 < r then .bad 0 1
  else .ok 2 (l.take (f + r)) ((if f = 1 then -1 else 1) * (decV 0 ((l.drop f).take r) : Int)) (f + r) := by
 subst hf; subst hr; unfold numP; simp only [Nat.add_sub_cancel_left]
def escX (d : UInt8) : Option UInt8 := if d.toNat = 34 ∨ d.toNat = 92 ∨ d.toNat = 47 then some d else if d.toNat = 110 then some 10 else if d.toNat = 116 then some 9 else none
theorem txtP_nil (acc : List UInt8) (k : Nat) : txtP acc k [] = .bad k 4 := by rw [txtP.eq_def]
theorem txtP_q (acc : List UInt8) (k : Nat) {c : UInt8} (l : List UInt8) (h : c.toNat = 34) : txtP acc k (c :: l) = if 200 < acc.length then .bad 0 2 else .ok 3 acc 0 (k + 1) := by rw [txtP.eq_def]; simp only; rw [if_pos h]
theorem txtP_n (acc : List UInt8) (k : Nat) {c : UInt8} (l : List UInt8) (h : c.toNat = 10) : txtP acc k (c :: l) = .bad k 4 := by rw [txtP.eq_def]; simp only; rw [if_neg (by omega), if_pos h]
theorem txtP_e0 (acc : List UInt8) (k : Nat) {c : UInt8} (h : c.toNat = 92) : txtP acc k [c] = .bad (k + 1) 4 := by rw [txtP.eq_def]; simp only; rw [if_neg (by omega), if_neg (by omega), if_pos h]
theorem txtP_e (acc : List UInt8) (k : Nat) {c : UInt8} (d : UInt8) (l : List UInt8) (h : c.toNat = 92) : txtP acc k (c :: d :: l) = match escX d with | some x => txtP (acc ++ [x]) (k + 2) l | none => .bad (k + 1) 4 := by
 rw [txtP.eq_def]; simp only; rw [if_neg (by omega), if_neg (by omega), if_pos h]; unfold escX
 split
 ·rfl
 ·split
  ·rfl
  ·split <;> rfl
theorem txtP_o (acc : List UInt8) (k : Nat) {c : UInt8} (l : List UInt8) (h1 : c.toNat ≠ 34) (h2 : c.toNat ≠ 10) (h3 : c.toNat ≠ 92) : txtP acc k (c :: l) = txtP (acc ++ [c]) (k + 1) l := by rw [txtP.eq_def]; simp only; rw [if_neg h1, if_neg h2, if_neg h3]
theorem drop_get (s : ByteArray) (k : Nat) (h : k < s.size) : s.data.toList.drop k = s[k] :: s.data.toList.drop (k + 1) := List.drop_eq_getElem_cons (show k < s.data.toList.length from h)
theorem drop_all (s : ByteArray) (k : Nat) (h : s.size ≤ k) : s.data.toList.drop k = [] := List.drop_eq_nil_of_le h
def gapI : List It := [.sp 44, .sp 32]
def sepI (g : List It) : List (List It) → List It
 | [] => []
 | a :: l => a ++ l.flatMap (fun b => g ++ b)
theorem sepI_snoc (g : List It) (l : List (List It)) (b : List It) : sepI g (l ++ [b]) = if l = [] then b else sepI g l ++ g ++ b := by
 cases l with
 | nil => show b ++ [] = b; exact List.append_nil b
 | cons a l =>
  rw [if_neg (by simp)]
  show a ++ (l ++ [b]).flatMap (fun b => g ++ b) = a ++ l.flatMap (fun b => g ++ b) ++ g ++ b
  rw [List.flatMap_append]; simp
def pairI (k : List UInt8) (l : List It) : List It := nmI k :: sgI 58 :: .sp 32 :: l
mutual
def valI : VT → List It
 | .mk k n s ks vs =>
  if k = 1 then [nuI n] else if k = 2 ∨ k = 8 then [quI s] else if k = 3 then [nmI (if n = 1 then wTrue else wFalse)] else if k = 4 then [nmI s] else if k = 7 then [sgI 36, nmI s]
  else if k = 5 then sgI 91 :: (sepI gapI (valsI vs) ++ [sgI 93])
  else if k = 6 then sgI 123 :: (sepI gapI (List.zipWith pairI ks (valsI vs)) ++ [sgI 125])
  else [nmI wNull]
def valsI : List VT → List (List It)
 | [] => []
 | v :: vs => valI v :: valsI vs
end
theorem valsI_map : ∀ vs, valsI vs = vs.map valI
 | [] => by rw [valsI]; rfl
 | v :: vs => by rw [valsI, valsI_map vs]; rfl
theorem valI_eq (k : Nat) (n : Int) (s : List UInt8) (ks : List (List UInt8)) (vs : List VT) : valI (.mk k n s ks vs) =
  if k = 1 then [nuI n] else if k = 2 ∨ k = 8 then [quI s] else if k = 3 then [nmI (if n = 1 then wTrue else wFalse)] else if k = 4 then [nmI s] else if k = 7 then [sgI 36, nmI s]
  else if k = 5 then sgI 91 :: (sepI gapI (vs.map valI) ++ [sgI 93])
  else if k = 6 then sgI 123 :: (sepI gapI (List.zipWith pairI ks (vs.map valI)) ++ [sgI 125])
  else [nmI wNull] := by rw [valI, valsI_map]
def bangI (b : Bool) : List It := if b then [sgI 33] else []
def typI : TR → List It
 | .nm s b => nmI s :: bangI b
 | .ls t b => sgI 91 :: (typI t ++ sgI 93 :: bangI b)
def parI (l : List (List It)) : List It := if l = [] then [] else sgI 40 :: (sepI gapI l ++ [sgI 41])
def argI (a : AR) : List It := pairI a.name (valI a.v)
def argsI (l : List AR) : List It := parI (l.map argI)
def dirI (d : DR) : List It := .sp 32 :: sgI 64 :: nmI d.name :: argsI d.args
def brI (l : List It) : List It := .sp 32 :: sgI 123 :: (l ++ [.sp 32, sgI 125])
def headI (k : Nat) (al name on_ : List UInt8) (args : List AR) : List It :=
 if k = 1 then (if al = [] then [] else [nmI al, sgI 58, .sp 32]) ++ nmI name :: argsI args
 else if k = 2 then [doI, nmI name]
 else doI :: (if on_ = [] then [] else [.sp 32, nmI wOn, .sp 32, nmI on_])
mutual
def selI : SL → List It
 | .mk k al name on_ args dirs sub => headI k al name on_ args ++ dirs.flatMap dirI ++ (if sub = [] then [] else brI (selsI sub))
def selsI : List SL → List It
 | [] => []
 | x :: l => .sp 32 :: (selI x ++ selsI l)
end
theorem selsI_map : ∀ l, selsI l = l.flatMap fun x => .sp 32 :: selI x
 | [] => by rw [selsI]; rfl
 | x :: l => by rw [selsI, selsI_map l]; rfl
def setI (l : List SL) : List It := brI (selsI l)
theorem selI_eq (k : Nat) (al name on_ : List UInt8) (args : List AR) (dirs : List DR) (sub : List SL) : selI (.mk k al name on_ args dirs sub) = headI k al name on_ args ++ dirs.flatMap dirI ++ (if sub = [] then [] else setI sub) := by rw [selI]; rfl
def inpI (n : List It) (t : TR) (has : Bool) (v : VT) : List It := n ++ sgI 58 :: .sp 32 :: (typI t ++ (if has then .sp 32 :: sgI 61 :: .sp 32 :: valI v else []))
def varI (v : VD) : List It := sgI 36 :: inpI [nmI v.name] v.t v.has v.v
def opI (o : OP) : List It := nmI (if o.mut_ then wMutation else wQuery) :: ((if o.name = [] then [] else [.sp 32, nmI o.name]) ++ parI (o.vars.map varI) ++ setI o.sub)
def frI (f : FR) : List It := nmI wFragment :: .sp 32 :: nmI f.name :: .sp 32 :: nmI wOn :: .sp 32 :: nmI f.on_ :: setI f.sub
def docI (d : DC) : List It := sepI [.sp 32] (d.ops.map opI ++ d.frags.map frI)
def OkS (l : List It) : Prop := ∀ x, Sep x → OkF l x
def SepI (l : List It) : Prop := ∀ x, Sep x → Sep (ren l ++ x)
theorem SepI.nil : SepI [] := fun _ h => h
theorem SepI.sp {c : UInt8} {l : List It} (h : blkB c = true) : SepI (.sp c :: l) := fun x _ => by
 rw [ren_cons]
 show Sep (c :: (ren l ++ x))
 unfold blkB at h; simp only [Bool.or_eq_true, decide_eq_true_eq] at h; refine Sep.cons _ ?_ (by omega)
 unfold ldB letB digB; simp only [Bool.or_eq_false_iff, Bool.and_eq_false_iff, decide_eq_false_iff_not]; omega
theorem SepI.sg {c : UInt8} {l : List It} (h : signB c = true) : SepI (sgI c :: l) := fun x _ => by
 rw [ren_cons]
 show Sep (c :: (ren l ++ x))
 have hm : c.toNat ∈ [33, 36, 40, 41, 58, 61, 64, 91, 93, 123, 124, 125, 38] := of_decide_eq_true h; have hx : c.toNat = 33 ∨ c.toNat = 36 ∨ c.toNat = 40 ∨ c.toNat = 41 ∨ c.toNat = 58 ∨ c.toNat = 61 ∨ c.toNat = 64 ∨ c.toNat = 91 ∨ c.toNat = 93 ∨ c.toNat = 123 ∨ c.toNat = 124 ∨ c.toNat = 125 ∨ c.toNat = 38 := by simpa using hm
 refine Sep.cons _ ?_ (by omega)
 unfold ldB letB digB; simp only [Bool.or_eq_false_iff, Bool.and_eq_false_iff, decide_eq_false_iff_not]; omega
theorem SepI.app {a b : List It} (ha : SepI a) (hb : SepI b) : SepI (a ++ b) := fun x hx => by rw [ren_app, List.append_assoc]; exact ha _ (hb x hx)
theorem OkS.nil : OkS [] := fun _ _ => trivial
theorem OkS.sp {c : UInt8} {l : List It} (h : blkB c = true) (hl : OkS l) : OkS (.sp c :: l) := fun x hx => ⟨h, hl x hx⟩
theorem OkS.sg {c : UInt8} {l : List It} (h : signB c = true) (hl : OkS l) : OkS (sgI c :: l) := fun x hx => ⟨ok_sg h, hl x hx⟩
theorem OkS.dots {l : List It} (hl : OkS l) : OkS (doI :: l) := fun x hx => ⟨ok_do, hl x hx⟩
theorem OkS.qu {s : List UInt8} {l : List It} (h : s.length ≤ 200) (hl : OkS l) : OkS (quI s :: l) := fun x hx => ⟨ok_qu h, hl x hx⟩
theorem OkS.nm {s : List UInt8} {l : List It} (h : NameOk s) (hl : OkS l) (hs : SepI l) : OkS (nmI s :: l) := fun x hx => ⟨ok_nm h (hs x hx), hl x hx⟩
theorem OkS.nu {n : Int} {l : List It} (h : NumOk n) (hl : OkS l) (hs : SepI l) : OkS (nuI n :: l) := fun x hx => ⟨ok_nu h (hs x hx), hl x hx⟩
theorem OkS.app {a b : List It} (ha : OkS a) (hb : OkS b) (hs : SepI b) : OkS (a ++ b) := fun x hx => OkF.app (ha _ (hs x hx)) (hb x hx)
theorem OkS.flat {α : Type} {f : α → List It} : ∀ {l : List α}, (∀ x ∈ l, OkS (f x) ∧ SepI (f x)) → OkS (l.flatMap f) ∧ SepI (l.flatMap f)
 | [], _ => ⟨OkS.nil, SepI.nil⟩
 | x :: l, h => by
  have h1 := h x (by simp); have h2 := OkS.flat (l := l) (fun y hy => h y (by simp [hy])); rw [List.flatMap_cons]; exact ⟨h1.1.app h2.1 h2.2, h1.2.app h2.2⟩
theorem OkS.sep {g : List It} {l : List (List It)} (hg : ∀ b, OkS b → OkS (g ++ b)) (hs : ∀ b, SepI (g ++ b)) (h : ∀ b ∈ l, OkS b) : OkS (sepI g l) := by
 cases l with
 | nil => exact OkS.nil
 | cons a l =>
  have h2 := OkS.flat (f := fun b => g ++ b) (l := l) (fun b hb => ⟨hg b (h b (by simp [hb])), hs b⟩); exact (h a (by simp)).app h2.1 h2.2
theorem OkS.gap {l : List (List It)} (h : ∀ b ∈ l, OkS b) : OkS (sepI gapI l) := OkS.sep (fun b hb => OkS.sp (by decide) (OkS.sp (by decide) hb)) (fun b => SepI.sp (by decide)) h
theorem OkS.blk {l : List (List It)} (h : ∀ b ∈ l, OkS b) : OkS (sepI [.sp 32] l) := OkS.sep (fun b hb => OkS.sp (by decide) hb) (fun b => SepI.sp (by decide)) h
theorem SepI.par (l : List (List It)) : SepI (parI l) := by
 unfold parI
 split
 ·exact SepI.nil
 ·exact SepI.sg (by decide)
theorem OkS.par {l : List (List It)} (h : ∀ b ∈ l, OkS b) : OkS (parI l) := by
 unfold parI
 split
 ·exact OkS.nil
 ·exact OkS.sg (by decide) ((OkS.gap h).app (OkS.sg (by decide) OkS.nil) (SepI.sg (by decide)))
theorem OkS.br {l : List It} (h : OkS l) : OkS (brI l) := OkS.sp (by decide) (OkS.sg (by decide) (h.app (OkS.sp (by decide) (OkS.sg (by decide) OkS.nil)) (SepI.sp (by decide))))
theorem SepI.br (l : List It) : SepI (brI l) := SepI.sp (by decide)
theorem nameOk_of {s : List UInt8} (h : (match s with | [] => false | c :: _ => letB c) && s.all ldB && decide (s.length ≤ 32) = true) : NameOk s := by
 simp only [Bool.and_eq_true, decide_eq_true_eq] at h; obtain ⟨⟨h1, h2⟩, h3⟩ := h
 cases s with
 | nil => cases h1
 | cons c l => exact ⟨⟨c, l, rfl, h1⟩, fun x hx => List.all_eq_true.1 h2 x hx, h3⟩
theorem name_sign {s : List UInt8} (h : NameOk s) {c : UInt8} {l : List UInt8} (hc : letB c = false) : s ≠ c :: l := by
 obtain ⟨d, m, rfl, hd⟩ := h.first; intro e
 injection e with e _
 rw [e, hc] at hd; cases hd
def GoodV (fx : Bool) : Nat → VT → Prop
 | 0, _ => False
 | d + 1, .mk k n s ks vs =>
  (k = 1 ∧ NumOk n ∧ s = [] ∧ ks = [] ∧ vs = []) ∨ (k = 2 ∧ n = 0 ∧ s.length ≤ 200 ∧ ks = [] ∧ vs = []) ∨ (k = 3 ∧ (n = 0 ∨ n = 1) ∧ s = [] ∧ ks = [] ∧ vs = []) ∨ (k = 0 ∧ n = 0 ∧ s = [] ∧ ks = [] ∧ vs = []) ∨
  (k = 4 ∧ n = 0 ∧ NameOk s ∧ s ≠ wTrue ∧ s ≠ wFalse ∧ s ≠ wNull ∧ ks = [] ∧ vs = []) ∨ (k = 7 ∧ fx = false ∧ n = 0 ∧ NameOk s ∧ ks = [] ∧ vs = []) ∨
  (k = 5 ∧ n = 0 ∧ s = [] ∧ ks = [] ∧ ∀ v ∈ vs, GoodV fx d v) ∨ (k = 6 ∧ n = 0 ∧ s = [] ∧ ∃ ps : List (List UInt8 × VT), ks = ps.map (·.1) ∧ vs = ps.map (·.2) ∧ ∀ p ∈ ps, NameOk p.1 ∧ GoodV fx d p.2)
def GoodT : Nat → TR → Prop
 | 0, _ => False
 | _ + 1, .nm s _ => NameOk s
 | d + 1, .ls t _ => GoodT d t
def GoodA (d : Nat) (a : AR) : Prop := NameOk a.name ∧ GoodV false d a.v
def GoodD (d : Nat) (x : DR) : Prop := NameOk x.name ∧ ∀ a ∈ x.args, GoodA d a
def GoodSel (d : Nat) (G : List SL → Prop) : SL → Prop
 | .mk k al name on_ args dirs sub => (∀ x ∈ dirs, GoodD d x) ∧
  ((k = 1 ∧ on_ = [] ∧ (al = [] ∨ NameOk al) ∧ NameOk name ∧ (∀ a ∈ args, GoodA d a) ∧ (sub = [] ∨ G sub)) ∨
   (k = 2 ∧ al = [] ∧ on_ = [] ∧ NameOk name ∧ name ≠ wOn ∧ args = [] ∧ sub = []) ∨
   (k = 3 ∧ al = [] ∧ name = [] ∧ (on_ = [] ∨ NameOk on_) ∧ args = [] ∧ G sub))
def GoodS : Nat → List SL → Prop
 | 0, _ => False
 | d + 1, l => l ≠ [] ∧ ∀ x ∈ l, GoodSel d (GoodS d) x
def GoodI (n : List UInt8) (t : TR) (has : Bool) (v : VT) : Prop := NameOk n ∧ GoodT 24 t ∧ (has = true ∧ GoodV true 24 v ∨ has = false ∧ v = VT.zero)
def GoodO (o : OP) : Prop := (o.name = [] ∨ NameOk o.name) ∧ (∀ v ∈ o.vars, GoodI v.name v.t v.has v.v) ∧ GoodS 24 o.sub
def GoodF (f : FR) : Prop := NameOk f.name ∧ f.name ≠ wOn ∧ NameOk f.on_ ∧ GoodS 24 f.sub
def GoodDoc (d : DC) : Prop := (∀ o ∈ d.ops, GoodO o) ∧ ∀ f ∈ d.frags, GoodF f
theorem ok_val (fx : Bool) : ∀ (d : Nat) (v : VT), GoodV fx d v → OkS (valI v)
 | 0, _, h => h.elim
 | d + 1, .mk k n s ks vs, h => by
  rw [valI_eq]
  rcases h with ⟨rfl, h, -⟩ | ⟨rfl, -, h, -⟩ | ⟨rfl, h, -⟩ | ⟨rfl, -⟩ | ⟨rfl, -, h, -⟩ | ⟨rfl, -, -, h, -⟩ | ⟨rfl, -, -, -, h⟩ | ⟨rfl, -, -, ps, rfl, rfl, h⟩
  ·exact OkS.nu h OkS.nil SepI.nil
  ·exact OkS.qu h OkS.nil
  ·refine OkS.nm ?_ OkS.nil SepI.nil
   split <;> exact nameOk_of (by decide)
  ·exact OkS.nm (nameOk_of (by decide)) OkS.nil SepI.nil
  ·exact OkS.nm h OkS.nil SepI.nil
  ·exact OkS.sg (by decide) (OkS.nm h OkS.nil SepI.nil)
  ·refine OkS.sg (by decide) ((OkS.gap fun b hb => ?_).app (OkS.sg (by decide) OkS.nil) (SepI.sg (by decide)))
   obtain ⟨v, hv, rfl⟩ := List.mem_map.1 hb; exact ok_val fx d v (h v hv)
  ·refine OkS.sg (by decide) ((OkS.gap fun b hb => ?_).app (OkS.sg (by decide) OkS.nil) (SepI.sg (by decide)))
   rw [List.map_map, List.zipWith_map, List.zipWith_self] at hb; obtain ⟨p, hp, rfl⟩ := List.mem_map.1 hb; exact OkS.nm (h p hp).1 (OkS.sg (by decide) (OkS.sp (by decide) (ok_val fx d p.2 (h p hp).2))) (SepI.sg (by decide))
theorem ok_bang (b : Bool) : OkS (bangI b) ∧ SepI (bangI b) := by
 cases b
 ·exact ⟨OkS.nil, SepI.nil⟩
 ·exact ⟨OkS.sg (by decide) OkS.nil, SepI.sg (by decide)⟩
theorem ok_typ : ∀ (d : Nat) (t : TR), GoodT d t → OkS (typI t)
 | 0, _, h => h.elim
 | d + 1, .nm s b, h => by rw [typI]; exact OkS.nm h (ok_bang b).1 (ok_bang b).2
 | d + 1, .ls t b, h => by rw [typI]; exact OkS.sg (by decide) ((ok_typ d t h).app (OkS.sg (by decide) (ok_bang b).1) (SepI.sg (by decide)))
theorem ok_arg {d : Nat} {a : AR} (h : GoodA d a) : OkS (argI a) := OkS.nm h.1 (OkS.sg (by decide) (OkS.sp (by decide) (ok_val _ _ _ h.2))) (SepI.sg (by decide))
theorem ok_args {d : Nat} {l : List AR} (h : ∀ a ∈ l, GoodA d a) : OkS (argsI l) := OkS.par fun b hb => by
 obtain ⟨a, ha, rfl⟩ := List.mem_map.1 hb; exact ok_arg (h a ha)
theorem ok_dir {d : Nat} {x : DR} (h : GoodD d x) : OkS (dirI x) ∧ SepI (dirI x) := ⟨OkS.sp (by decide) (OkS.sg (by decide) (OkS.nm h.1 (ok_args h.2) (SepI.par _))), SepI.sp (by decide)⟩
theorem ok_head {d : Nat} {G : List SL → Prop} {k : Nat} {al name on_ : List UInt8} {args : List AR} {dirs : List DR} {sub : List SL} (h : GoodSel d G (.mk k al name on_ args dirs sub)) : OkS (headI k al name on_ args) := by
 obtain ⟨-, h⟩ := h; unfold headI
 rcases h with ⟨rfl, -, ha, hn, hg, -⟩ | ⟨rfl, -, -, hn, -⟩ | ⟨rfl, -, -, ho, -⟩
 ·rw [if_pos rfl]; have h1 : OkS (nmI name :: argsI args) := OkS.nm hn (ok_args hg) (SepI.par _)
  split
  ·exact h1
  ·rename_i hal
   rcases ha with ha | ha
   ·exact absurd ha hal
   ·exact OkS.nm ha (OkS.sg (by decide) (OkS.sp (by decide) h1)) (SepI.sg (by decide))
 ·exact OkS.dots (OkS.nm hn OkS.nil SepI.nil)
 ·rw [if_neg (by decide), if_neg (by decide)]; refine OkS.dots ?_
  split
  ·exact OkS.nil
  ·rename_i hal
   rcases ho with ho | ho
   ·exact absurd ho hal
   ·exact OkS.sp (by decide) (OkS.nm (nameOk_of (by decide)) (OkS.sp (by decide) (OkS.nm ho OkS.nil SepI.nil)) (SepI.sp (by decide)))
theorem ok_sel {d : Nat} {G : List SL → Prop} (hG : ∀ l, G l → OkS (setI l)) : ∀ (x : SL), GoodSel d G x → OkS (selI x)
 | .mk k al name on_ args dirs sub, h => by
  rw [selI_eq]; have h2 := OkS.flat (f := dirI) (l := dirs) (fun x hx => ok_dir (h.1 x hx)); have h3 : OkS (if sub = [] then [] else setI sub) ∧ SepI (if sub = [] then [] else setI sub) := by
   split
   ·exact ⟨OkS.nil, SepI.nil⟩
   ·rename_i hs
    refine ⟨hG _ ?_, SepI.br _⟩
    rcases h.2 with ⟨-, -, -, -, -, hg⟩ | ⟨-, -, -, -, -, -, hg⟩ | ⟨-, -, -, -, -, hg⟩
    ·rcases hg with hg | hg
     ·exact absurd hg hs
     ·exact hg
    ·exact absurd hg hs
    ·exact hg
  exact ((ok_head h).app h2.1 h2.2).app h3.1 h3.2
theorem ok_set : ∀ (d : Nat) (l : List SL), GoodS d l → OkS (setI l)
 | 0, _, h => h.elim
 | d + 1, l, h => by
  refine OkS.br ?_
  rw [selsI_map]; exact (OkS.flat fun x hx => ⟨OkS.sp (by decide) (ok_sel (fun l hl => ok_set d l hl) x (h.2 x hx)), SepI.sp (by decide)⟩).1
theorem ok_inp {n : List It} {t : TR} {has : Bool} {v : VT} (hn : OkS n) (ht : GoodT 24 t) (hv : has = true ∧ GoodV true 24 v ∨ has = false ∧ v = VT.zero) : OkS (inpI n t has v) := by
 refine hn.app (OkS.sg (by decide) (OkS.sp (by decide) ((ok_typ _ _ ht).app ?_ ?_))) (SepI.sg (by decide))
 ·rcases hv with ⟨rfl, hv⟩ | ⟨rfl, -⟩
  ·exact OkS.sp (by decide) (OkS.sg (by decide) (OkS.sp (by decide) (ok_val _ _ _ hv)))
  ·exact OkS.nil
 ·cases has
  ·exact SepI.nil
  ·exact SepI.sp (by decide)
theorem ok_op {o : OP} (h : GoodO o) : OkS (opI o) := by
 unfold opI; have h3 := ok_set _ _ h.2.2; have h2 : OkS (parI (o.vars.map varI)) := OkS.par fun b hb => by
  obtain ⟨v, hv, rfl⟩ := List.mem_map.1 hb; have := h.2.1 v hv; exact OkS.sg (by decide) (ok_inp (OkS.nm this.1 OkS.nil SepI.nil) this.2.1 this.2.2)
 have h1 : OkS (if o.name = [] then [] else [.sp 32, nmI o.name]) ∧ SepI (if o.name = [] then [] else [.sp 32, nmI o.name]) := by
  split
  ·exact ⟨OkS.nil, SepI.nil⟩
  ·rename_i hn
   rcases h.1 with h1 | h1
   ·exact absurd h1 hn
   ·exact ⟨OkS.sp (by decide) (OkS.nm h1 OkS.nil SepI.nil), SepI.sp (by decide)⟩
 refine OkS.nm (by split <;> exact nameOk_of (by decide)) ((h1.1.app h2 (SepI.par _)).app h3 (SepI.br _)) ((h1.2.app (SepI.par _)).app (SepI.br _))
theorem ok_fr {f : FR} (h : GoodF f) : OkS (frI f) :=
 OkS.nm (nameOk_of (by decide)) (OkS.sp (by decide) (OkS.nm h.1 (OkS.sp (by decide) (OkS.nm (nameOk_of (by decide)) (OkS.sp (by decide) (OkS.nm h.2.2.1 (ok_set _ _ h.2.2.2) (SepI.br _))) (SepI.sp (by decide)))) (SepI.sp (by decide)))) (SepI.sp (by decide))
theorem ok_doc {d : DC} (h : GoodDoc d) : OkS (docI d) := OkS.blk fun b hb => by
 rcases List.mem_append.1 hb with hb | hb
 ·obtain ⟨o, ho, rfl⟩ := List.mem_map.1 hb; exact ok_op (h.1 o ho)
 ·obtain ⟨f, hf, rfl⟩ := List.mem_map.1 hb; exact ok_fr (h.2 f hf)
end Go.Proofs.YtnkpoddbbdmipaaGreatDoor
