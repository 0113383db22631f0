/- . -/
import Derived.Test.YtnkpoddbbdmipaaGreatDoorTDcQre
import Derived.Test.YtnkpoddbbdmipaaGreatDoorTDcOnc
import Derived.Test.YtnkpoddbbdmipaaGreatDoorProg
import Derived.Test.YtnkpoddbbdmipaaGreatDoorTDcTkA
import Derived.Lib.Bytealg
import Derived.Laws.Externs
import Derived.Test.YtnkpoddbbdmipaaGreatDoorTDcOwC
import Derived.Deep.CutRange
import Derived.Deep.CutBlock
namespace Go.Proofs.YtnkpoddbbdmipaaGreatDoor
open Go Go.RowKit
open Go.Lib (hid)
set_option linter.unusedVariables false
set_option linter.unusedSimpArgs false
theorem RepF.past {w w' : World} {B X b : Nat} {P : List UInt8} {f : Nat → Value} {tv : Value} (h : RepF w B X P f tv) (hb : b < B) (o : Only (fun k => k = b) w w') : RepF w' B X P f tv := by
 have hlow := h.low; refine ⟨kB o h.box (fun e => by have e : X = b := e; omega), h.low, own_only' h.own o (fun k hk e => ?_), h.apart, fun u hu => ?_, h.no⟩
 ·obtain ⟨_, _, _, _, _, h3⟩ := own_form h.own; have := (h3 k hk).1; have e : k = b := e; omega
 ·obtain ⟨g, k, z, e1, e2, e3, e4, e5, e6, e7, e8, e9, e10⟩ := h.yes u hu; have hg : g ≠ b := by omega
  exact ⟨g, k, z, e1, e2, Nat.lt_of_lt_of_le e3 o.size, e4, e5, e6, e7, e8, (cell_keep (p := ⟨g, 0, none⟩) o e3 hg).trans e9, (cell_keep (p := ⟨g, 1, none⟩) o e3 hg).trans e10⟩
def ReplQ (B : Nat) (v3 v4 : Value) (w : World) : Prop := ∃ X f tv, v3 = .iface 184 (.pointer (some ⟨X, 0, none⟩)) ∧ v4 = .slice none 0 0 ∧ RepF w B X escP4 f tv
set_option maxRecDepth 100000 in
set_option maxHeartbeats 4000000 in
theorem once_any (b q p c8 : Nat) (v0 v1 v2 v3 : Value) (w : World) (hp : w.heap[b]? = some (.cells #[v0, v1, v2, v3, .slice (some ⟨q, p, none⟩) 8 c8] 142 (0, 0)))
  (ho : w.rangeAt q p (quoP.map fun s => .string ⟨s.toArray⟩)) :
  Calls Tryz.prog 83 #[.pointer (some ⟨b, 0, none⟩)] w fun e w' => e = .returned (.tuple #[]) ∧ Only (fun k => k = b) w w' ∧ ∃ u3 u4, w'.heap[b]? = some (.cells #[v0, v1, v2, u3, u4] 142 (0, 0)) ∧ ReplQ w.heap.size u3 u4 w' := by
 have J := hid (build_any b q p c8 v0 v1 v2 v3 w hp ho); have hb := (gE hp).1; have HP := hid hp; clear hp ho
 go_enter Tryz.func83, Tryz.ntmps83
 go_wp2_with fail
 refine J.out.mono ?_
 rintro e w1 ⟨X, f, tv, rfl, hr, o1⟩; have hp1 := (o1.block b hb (fun e => e)).trans HP.out; obtain ⟨c0, c1, c2, c3, c4, fz⟩ := boxN5 hp1; have hp2 := heap_set (o := 3) hp1 (.iface 184 (.pointer (some ⟨X, 0, none⟩))); have hp3 := heap_set (o := 4) hp2 (.slice none 0 0); have oz : Only (fun k => k = b) w1 ((w1.setCell ⟨b, 3, none⟩ (.iface 184 (.pointer (some ⟨X, 0, none⟩)))).setCell ⟨b, 4, none⟩ (.slice none 0 0)) := ((Only.refl (fun k => k = b) w1).setCell (p := ⟨b, 3, none⟩) (.inl rfl) _).setCell (p := ⟨b, 4, none⟩) (.inl rfl) _; have hr2 := hr.past hb oz; rw [List.setIfInBounds_toArray] at hp3; have hp3 : ((w1.setCell ⟨b, 3, none⟩ (.iface 184 (.pointer (some ⟨X, 0, none⟩)))).setCell ⟨b, 4, none⟩ (.slice none 0 0)).heap[b]? = some (.cells #[v0, v1, v2, .iface 184 (.pointer (some ⟨X, 0, none⟩)), .slice none 0 0] 142 (0, 0)) := by simpa using hp3
 have HEND := hid (And.intro ((o1.mono (T := fun k => k = b) (fun _ _ e => e.elim)).trans oz) (And.intro hp3 hr2)); clear hp1 hp2 hp3 hr hr2 o1 oz
 go_wp2_with fail
 clear c0 c1 c2 c3 c4 fz
 first
  | exact ⟨rfl, HEND.out.1, _, _, HEND.out.2.1, X, f, tv, rfl, rfl, HEND.out.2.2⟩
  | (go_end0; exact ⟨rfl, HEND.out.1, _, _, HEND.out.2.1, X, f, tv, rfl, rfl, HEND.out.2.2⟩)
set_option maxRecDepth 100000 in
set_option maxHeartbeats 4000000 in
theorem newrepl_any (q p c8 : Nat) (w : World) (hc : 8 ≤ c8 ∧ c8 ≤ 1000) (ho : w.rangeAt q p (quoP.map fun s => .string ⟨s.toArray⟩)) :
  Calls Tryz.prog 58 #[.slice (some ⟨q, p, none⟩) 8 c8] w fun e w' => ∃ b q' c', e = .returned (.pointer (some ⟨b, 0, none⟩)) ∧ w.heap.size ≤ b ∧ w'.heap[b]? = some (.cells #[.int .u32 0, .int .i32 0, .int .u32 0, .nilIface, .slice (some ⟨q', 0, none⟩) 8 c'] 142 (0, 0)) ∧ w'.rangeAt q' 0 (quoP.map fun s => .string ⟨s.toArray⟩) ∧ q' ≠ b ∧ Only (fun _ => False) w w' := by
 have HO := hid ho; have hq : q < w.heap.size := cell_lt (ho 0 _ rfl); have hys : ∀ j u, (quoP.map fun s => Value.string ⟨s.toArray⟩)[j]? = some u → w.cell? ((⟨q, p, none⟩ : Addr).add j) = some u := fun j u hu => by rw [addr_add]; exact ho j u hu
 have HYS := hid hys; clear ho hys
 go_enter Tryz.func58, Tryz.ntmps58
 go_wp2_with ((refine wpList_append_own2 (o := ⟨some 9, _, _, _, _, _⟩) rfl (.const (.slice none 0 0)) (.tmp 8) 32 9 (by rfl) Tryz.underlying32 infoStrQ rfl (by decide) w.heap.size (.slice none 0 0) 0 8 c8 [] (quoP.map fun s => .string ⟨s.toArray⟩) ⟨q, p, none⟩ (by rfl) (by rfl) (own_nil _ _ _ _) (by rfl) HYS.out (by intro u hu; rw [List.mem_map] at hu; obtain ⟨_, _, rfl⟩ := hu; rfl) (by decide) (by decide) (Nat.le_refl _) ?_; intro v' w9 q1 q2 q3; obtain ⟨g, c9, eN, g1, g2, g3⟩ := own_range q1 (by decide); subst eN))
 obtain ⟨bb, hbb⟩ := eX (w9.heap.size); have hn := heap_new w9 (.cells #[.int .u32 0, .int .i32 0, .int .u32 0, .nilIface, .slice (some ⟨g, 0, none⟩) 8 c9] 142); have on := (Only.refl (fun _ => False) w9).alloc (.cells #[.int .u32 0, .int .i32 0, .int .u32 0, .nilIface, .slice (some ⟨g, 0, none⟩) 8 c9] 142); have o9 : Only (fun _ => False) w w9 := q2.mono (fun k _ e => by cases e); have hrg : (w9.alloc (.cells #[.int .u32 0, .int .i32 0, .int .u32 0, .nilIface, .slice (some ⟨g, 0, none⟩) 8 c9] 142)).rangeAt g 0 (quoP.map fun s => .string ⟨s.toArray⟩) := range_keep g3 g2 on (fun e => e)
 go_wp2_with fail
 go_ret
 exact ⟨w9.heap.size, g, c9, rfl, o9.size, hn, hrg, by omega, o9.trans on⟩
set_option maxRecDepth 100000 in
set_option maxHeartbeats 4000000 in
theorem replace_any (b q c : Nat) (s : ByteArray) (hs : s.size ≤ 1000000000000) (w : World) (hb : w.heap[b]? = some (.cells #[.int .u32 0, .int .i32 0, .int .u32 0, .nilIface, .slice (some ⟨q, 0, none⟩) 8 c] 142 (0, 0))) (hr : w.rangeAt q 0 (quoP.map fun s => .string ⟨s.toArray⟩)) (hqb : q ≠ b) :
  Calls Tryz.prog 59 #[.pointer (some ⟨b, 0, none⟩), .string s] w fun e w' => e = .returned (.string ⟨(escS s.data.toList).toArray⟩) ∧ Only (fun k => k = b) w w' := by
 have hbl := (gE hb).1; have hql : q < w.heap.size := cell_lt (hr 0 _ rfl); have o1 : Only (fun k => k = b) w (w.setCell ⟨b, 1, none⟩ (.int .i32 1)) := (Only.refl (fun k => k = b) w).setCell (p := ⟨b, 1, none⟩) (.inl rfl) _; have hb1 := heap_set (o := 1) hb (.int .i32 1); have hb1 : (w.setCell ⟨b, 1, none⟩ (.int .i32 1)).heap[b]? = some (.cells #[.int .u32 0, .int .i32 1, .int .u32 0, .nilIface, .slice (some ⟨q, 0, none⟩) 8 c] 142 (0, 0)) := by simpa using hb1
 have hsz : (w.setCell ⟨b, 1, none⟩ (.int .i32 1)).heap.size = w.heap.size := by simp [World.setCell]
 have JF := once_any b q 0 c _ _ _ _ (w.setCell ⟨b, 1, none⟩ (.int .i32 1)) hb1 (range_keep hr hql o1 hqb); rw [hsz] at JF; have J := hid (do_any b _ _ w hb (ReplQ w.heap.size) (JF.mono fun e w' h => ⟨h.1, o1.trans h.2.1, h.2.2⟩)); have hmf : ∀ (fn : Fn) (first cap : Array Value) (w : World), (Instr.makeFunc fn first cap).run Tryz.prog w = .ok (.func fn first cap) w := fun _ _ _ _ => rfl
 clear JF hb1 o1 hsz hr hb hql hqb
 go_enter Tryz.func59, Tryz.ntmps59
 go_wp2_with fail
 refine J.out.mono ?_
 rintro e w2 ⟨rfl, o2, u3, u4, w1, hb2, ⟨X, f, tv, rfl, rfl, hrf⟩, o12⟩; have K := hid (repl_any w.heap.size X f tv s hs w2 (hrf.past hbl o12)); have HO2 := hid o2; obtain ⟨c0, c1, c2, c3, c4, fz⟩ := boxN5 hb2; clear o2 o12 hrf hb2 J
 go_wp2_with fail
 refine K.out.mono ?_
 rintro e w3 ⟨rfl, o3⟩; have HO3 := hid (HO2.out.trans' o3 (fun _ _ e => e.elim)); clear o3 c0 c1 c2 c3 c4 fz
 go_wp2_with fail
 go_ret
 exact ⟨rfl, HO3.out⟩
set_option maxRecDepth 100000 in
set_option maxHeartbeats 4000000 in
theorem pquote_any (s : ByteArray) (hs : s.size ≤ 1000000000000) (w : World) : Calls Tryz.prog 25 #[.string s] w (fun e w' => e = .returned (.string ⟨(quoS s.data.toList).toArray⟩) ∧ Only (fun _ => False) w w') := by
 obtain ⟨G, hG⟩ := eX (w.heap.size); obtain ⟨w1, hw1⟩ := eX (w.alloc (.cells (quoP.map fun s => Value.string ⟨s.toArray⟩).toArray 9)); have h1 : w1.heap[G]? = some (.cells (quoP.map fun s => Value.string ⟨s.toArray⟩).toArray 9 (0, 0)) := by rw [← hw1, ← hG]; exact heap_new _ _
 have o1 : Only (fun _ => False) w w1 := by rw [← hw1]; exact (Only.refl _ w).alloc _
 have hrg : w1.rangeAt G 0 (quoP.map fun s => .string ⟨s.toArray⟩) := fun j v hv => by
  simp only [World.cell?, h1]; rw [Nat.zero_add]; simpa using hv
 have J := hid (newrepl_any G 0 8 w1 ⟨by omega, by omega⟩ hrg); have HO1 := hid o1; have HG := hid hG; have HW1 := hid (show w.alloc (.cells #[.string ⟨#[92]⟩, .string ⟨#[92, 92]⟩, .string ⟨#[34]⟩, .string ⟨#[92, 34]⟩, .string ⟨#[10]⟩, .string ⟨#[92, 110]⟩, .string ⟨#[9]⟩, .string ⟨#[92, 116]⟩] 9) = w1 from hw1); have hup := (escS_up s.data.toList).2; have hsl : s.data.toList.length = s.size := rfl; rw [hsl] at hup; obtain ⟨E, hE⟩ := eX (escS s.data.toList); have HE := hid hE; rw [hE] at hup; have hEb : E.length ≤ 3000000000000 := by omega
 clear h1 o1 hrg hG hw1 hsl hup hE
 go_enter Tryz.func25, Tryz.ntmps25
 go_upto_region 1 with (fail)
 go_wp2_with fail
 rw [HG.out, HW1.out]; refine J.out.mono ?_
 rintro e w2 ⟨b, q, c, rfl, hbl, hb, hr, hqb, o2⟩; have K := hid (replace_any b q c s hs w2 hb hr hqb); rw [HE.out] at K; have HO2 := hid (HO1.out.trans o2); have HBL := hid (show w.heap.size ≤ b from Nat.le_trans HO1.out.size hbl); clear hb hr hqb o2 hbl J HG HW1
 go_wp2_with fail
 refine K.out.mono ?_
 rintro e w3 ⟨rfl, o3⟩; have HO3 := hid (HO2.out.trans' o3 (fun k hk e => by have e : k = b := e; have := HBL.out; omega)); have HQ := hid (show quoS s.data.toList = [34] ++ E ++ [34] by rw [← HE.out]; rfl); clear o3 K
 go_wp2_with fail
 go_ret
 rw [HQ.out, ← cat_list, ← cat_list]; exact ⟨rfl, HO3.out⟩
def Tests (f : FuncId) (b : UInt8 → Bool) : Prop := ∀ (u : UInt8) (w : World), Calls Tryz.prog f #[.int .u8 (u.toNat : Int)] w fun e w' => e = .returned (.bool (b u)) ∧ w' = w
theorem u8_lt (u : UInt8) : (u.toNat : Int) < 256 := by have := u.toNat_lt; omega
theorem u8_ge (u : UInt8) : (0 : Int) ≤ (u.toNat : Int) := by omega
theorem u8_all {p : UInt8 → Prop} (h : ∀ n : Fin 256, p (UInt8.ofNat n.val)) (u : UInt8) : p u := by
 have := h ⟨u.toNat, by have := u.toNat_lt; omega⟩; simpa using this
set_option maxRecDepth 100000 in
theorem rdigit_any : Tests 90 digB := by
 intro u w; have h1 := u8_lt u; have h2 := u8_ge u; have e : ∀ a b : Bool, a = decide ((48 : Int) ≤ (u.toNat : Int)) → b = decide ((u.toNat : Int) ≤ 57) → (a && b) = digB u := by
  rintro _ _ rfl rfl; unfold digB; congr 1 <;> (apply decide_eq_decide.2; omega)
 have E := hid e; clear e; obtain ⟨n, hn⟩ : ∃ n : Int, (u.toNat : Int) = n := ⟨_, rfl⟩; rw [hn] at h1 h2 ⊢; have HN := hid hn; clear hn
 by_cases h3 : 48 ≤ n <;> by_cases h4 : n ≤ 57 <;> (
  go_enter Tryz.func90, Tryz.ntmps90
  go_wp2
  go_ret
  refine ⟨ret_bool ?_, rfl⟩
  rw [← E.out _ _ rfl rfl, HN.out]
  simp [h3, h4])
theorem letB_cmp (u : UInt8) (n : Int) (hn : (u.toNat : Int) = n) (a b c d e : Bool) (ha : a = decide (97 ≤ n)) (hb : b = decide (n ≤ 122)) (hc : c = decide (65 ≤ n)) (hd : d = decide (n ≤ 90)) (he : e = decide (n = 95)) : ((a && b) || (c && d) || e) = letB u := by
 subst ha hb hc hd he hn; unfold letB
 congr 1
 ·congr 1 <;> congr 1 <;> (apply decide_eq_decide.2; omega)
 ·apply decide_eq_decide.2; omega
set_option maxRecDepth 100000 in
set_option maxHeartbeats 2000000 in
theorem rletter_any : Tests 89 letB := by
 intro u w; have h1 := u8_lt u; have h2 := u8_ge u; obtain ⟨n, hn⟩ : ∃ n : Int, (u.toNat : Int) = n := ⟨_, rfl⟩; rw [hn] at h1 h2 ⊢; have E := hid (letB_cmp u n hn); clear hn; have key : n < 65 ∨ (65 ≤ n ∧ n ≤ 90) ∨ (90 < n ∧ n < 95) ∨ n = 95 ∨ n = 96 ∨ (97 ≤ n ∧ n ≤ 122) ∨ 122 < n := by omega
 rcases key with h | ⟨h, h'⟩ | ⟨h, h'⟩ | h | h | ⟨h, h'⟩ | h
 all_goals (
  have t1 : decide (97 ≤ n) = decide (97 ≤ n) := rfl; rw [← E.out _ _ _ _ _ rfl rfl rfl rfl rfl]
  first
   | (rw [show decide (97 ≤ n) = true from decide_eq_true (by omega)])
   | (rw [show decide (97 ≤ n) = false from decide_eq_false (by omega)])
  first
   | (rw [show decide (n ≤ 122) = true from decide_eq_true (by omega)])
   | (rw [show decide (n ≤ 122) = false from decide_eq_false (by omega)])
  first
   | (rw [show decide (65 ≤ n) = true from decide_eq_true (by omega)])
   | (rw [show decide (65 ≤ n) = false from decide_eq_false (by omega)])
  first
   | (rw [show decide (n ≤ 90) = true from decide_eq_true (by omega)])
   | (rw [show decide (n ≤ 90) = false from decide_eq_false (by omega)])
  first
   | (rw [show decide (n = 95) = true from decide_eq_true (by omega)])
   | (rw [show decide (n = 95) = false from decide_eq_false (by omega)])
  clear E t1
  go_enter Tryz.func89, Tryz.ntmps89
  go_wp2
  go_ret
  refine ⟨ret_bool ?_, rfl⟩
  first | rfl | (simp; done) | (simp; omega))
theorem ba_eq {t : ByteArray} {l : List UInt8} (h : t.data.toList = l) : t = ⟨l.toArray⟩ := by
 subst h; rfl
theorem extract_list (s : ByteArray) (a b : Nat) : (s.extract a b).data.toList = (s.data.toList.drop a).take (b - a) := by
 rw [ByteArray.data_extract, Array.toList_extract, List.extract_eq_take_drop]
def tokV (k : Nat) (t : List UInt8) (n : Int) (a : Nat) : Value := .agg #[.int .u8 (k : Int), .string ⟨t.toArray⟩, .int .i64 n, .int .i64 (a : Int)]
theorem box4 {w : World} {b : Nat} {x0 x1 x2 x3 : Value} {T : TypeId} (h : w.heap[b]? = some (.cells #[x0, x1, x2, x3] T (0, 0))) :
  w.cell? ⟨b, 0, none⟩ = some x0 ∧ w.cell? ⟨b, 1, none⟩ = some x1 ∧ w.cell? ⟨b, 2, none⟩ = some x2 ∧ w.cell? ⟨b, 3, none⟩ = some x3 := by
 refine ⟨?_, ?_, ?_, ?_⟩ <;> simp [World.cell?, h]
theorem numP_at {l : List UInt8} {f r : Nat} (hf : numFrom l = f) (hr : runL digB (l.drop f) = r) : numP l =
  if f + r = f then .bad (f + r) 4
  else if (l.getD f 0).toNat = 48 ∧ f + 1 < f + r then .bad (f + 1) 4
  else if f + r < l.length ∧ (letB (l.getD (f + r) 0) = true ∨ (l.getD (f + r) 0).toNat = 46) then .bad (f + r) 4
  else if 18 < r then .bad 0 1
  else .ok 2 (l.take (f + r)) ((if f = 1 then -1 else 1) * (decV 0 ((l.drop f).take r) : Int)) (f + r) := by
 subst hf; subst hr; unfold numP; simp only [Nat.add_sub_cancel_left]
def escX (d : UInt8) : Option UInt8 := if d.toNat = 34 ∨ d.toNat = 92 ∨ d.toNat = 47 then some d else if d.toNat = 110 then some 10 else if d.toNat = 116 then some 9 else none
theorem txtP_nil (acc : List UInt8) (k : Nat) : txtP acc k [] = .bad k 4 := by rw [txtP.eq_def]
theorem txtP_q (acc : List UInt8) (k : Nat) {c : UInt8} (l : List UInt8) (h : c.toNat = 34) : txtP acc k (c :: l) = if 200 < acc.length then .bad 0 2 else .ok 3 acc 0 (k + 1) := by rw [txtP.eq_def]; simp only; rw [if_pos h]
theorem txtP_n (acc : List UInt8) (k : Nat) {c : UInt8} (l : List UInt8) (h : c.toNat = 10) : txtP acc k (c :: l) = .bad k 4 := by rw [txtP.eq_def]; simp only; rw [if_neg (by omega), if_pos h]
theorem txtP_e0 (acc : List UInt8) (k : Nat) {c : UInt8} (h : c.toNat = 92) : txtP acc k [c] = .bad (k + 1) 4 := by rw [txtP.eq_def]; simp only; rw [if_neg (by omega), if_neg (by omega), if_pos h]
theorem txtP_e (acc : List UInt8) (k : Nat) {c : UInt8} (d : UInt8) (l : List UInt8) (h : c.toNat = 92) : txtP acc k (c :: d :: l) = match escX d with | some x => txtP (acc ++ [x]) (k + 2) l | none => .bad (k + 1) 4 := by
 rw [txtP.eq_def]; simp only; rw [if_neg (by omega), if_neg (by omega), if_pos h]; unfold escX
 split
 ·rfl
 ·split
  ·rfl
  ·split <;> rfl
theorem txtP_o (acc : List UInt8) (k : Nat) {c : UInt8} (l : List UInt8) (h1 : c.toNat ≠ 34) (h2 : c.toNat ≠ 10) (h3 : c.toNat ≠ 92) : txtP acc k (c :: l) = txtP (acc ++ [c]) (k + 1) l := by rw [txtP.eq_def]; simp only; rw [if_neg h1, if_neg h2, if_neg h3]
theorem drop_get (s : ByteArray) (k : Nat) (h : k < s.size) : s.data.toList.drop k = s[k] :: s.data.toList.drop (k + 1) := List.drop_eq_getElem_cons (show k < s.data.toList.length from h)
theorem drop_all (s : ByteArray) (k : Nat) (h : s.size ≤ k) : s.data.toList.drop k = [] := List.drop_eq_nil_of_le h
end Go.Proofs.YtnkpoddbbdmipaaGreatDoor
