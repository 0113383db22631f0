/- Package block: the contracts for one disk that a law made itself ('Own'); columbarylaw01's awake. -/
import Derived.Test.YtlkglhgndfhjeaaBlkX
import Derived.Lib.SlBytesConst
namespace Go.Proofs.Ytlkglhgndfhjeaa
open Go Go.RowKit
set_option linter.unusedVariables false
set_option linter.unusedSimpArgs false

/-- The law began at W; the disk's blocks lie between W's and B. -/
def Own (W : World) (B : Nat) (w : World) (b : Nat) (st : Dk) : Prop :=
  ∃ F : Nat → Prop, DiskAt w F b st ∧ (∀ k, F k → W.heap.size ≤ k ∧ k < B) ∧ Only (fun _ => False) W w
def Mine (W : World) (B : Nat) (k : Nat) : Prop := W.heap.size ≤ k ∧ k < B
theorem Own.only {W w w' : World} {B b : Nat} {st : Dk} {S : Nat → Prop} (h : Own W B w b st) (ho : Only S w w') (hS : ∀ k, S k → W.heap.size ≤ k ∧ B ≤ k) : Own W B w' b st := by
  obtain ⟨F, h1, h2, h3⟩ := h
  exact ⟨F, h1.only ho (fun k hk _ hs => by have := h2 k hk; have := hS k hs; omega), h2, h3.trans' ho (fun k hk hs => by have := hS k hs; omega)⟩
theorem Own.grow {W w : World} {B B' b : Nat} {st : Dk} (h : Own W B w b st) (hB : B ≤ B') : Own W B' w b st := by
  obtain ⟨F, h1, h2, h3⟩ := h
  exact ⟨F, h1, fun k hk => ⟨(h2 k hk).1, by have := (h2 k hk).2; omega⟩, h3⟩
theorem Own.old {W w : World} {B b : Nat} {st : Dk} (h : Own W B w b st) : Only (fun _ => False) W w := h.choose_spec.2.2
theorem Own.at_ {W w : World} {B b : Nat} {st : Dk} (h : Own W B w b st) : DiskAt w h.choose b st := h.choose_spec.1
theorem Own.of {W w w' : World} {B B' b : Nat} {st : Dk} {F : Nat → Prop} (ho : Only (fun _ => False) W w) (hF : ∀ k, F k → W.heap.size ≤ k ∧ k < B) {G : Nat → Prop} (hG : ∀ k, G k → W.heap.size ≤ k ∧ k < B') (hd : DiskAt w' G b st) (h : Only F w w') : Own W B' w' b st ∧ Only (Mine W B) w w' :=
  ⟨⟨G, hd, hG, ho.trans' h (fun k hk hs => by have := hF k hs; omega)⟩, h.mono (fun k _ hk => hF k hk)⟩

theorem new_own (W : World) (n : Nat) (w : World) (hW : Only (fun _ => False) W w) (h : 1 ≤ n) (h' : n ≤ 4096) :
    Calls Try.prog 17 #[.int .i64 n] w fun e w' => ∃ b, e = .returned (.tuple #[.pointer (some ⟨b, 0, none⟩), .int .i64 0]) ∧ Own W w'.heap.size w' b (fresh n) ∧ Only (fun _ => False) w w' :=
  (new_any n w h h').mono fun e w' ⟨b, he, _, hd, ho⟩ => ⟨b, he, ⟨_, hd, fun k hk => ⟨Nat.le_trans hW.size hk.1, hk.2⟩, hW.trans ho⟩, ho⟩
theorem write_own (W : World) (B b : Nat) (st : Dk) (m : Nat) (i : Int) (v : Value) (l : List UInt8) (w : World) (h : Own W B w b st) (hl : lookE st i = 0) (hv : Bytes w v l) (h64 : l.length ≤ 64) (hvB : 0 < l.length → ∀ k, v.ownBlock = some k → k < W.heap.size ∨ B ≤ k) (hf : Fine st m) :
    Calls Try.prog 18 #[.pointer (some ⟨b, 0, none⟩), .int .i64 i, v] w fun e w' => e = .returned (.int .i64 (if (begun st).off then 12 else 0)) ∧ Own W w'.heap.size w' b (wrote st i l) ∧ Only (Mine W B) w w' := by
  obtain ⟨F, h1, h2, h3⟩ := h
  have hm := hf.small
  refine (write_any F b st i v l w h1 hl hv h64 (fun hp k hk hF => by have := h2 k hF; have := hvB hp k hk; omega) ⟨hf.ops.1, by have := hf.ops.2; omega⟩ hf.armed (by have := hf.wait; omega)).mono ?_
  rintro e w' ⟨he, hd, ho⟩
  refine ⟨he, ?_⟩
  exact Own.of h3 h2 (B' := w'.heap.size) (fun k hk => ⟨by
    rcases hk.1 with h | h
    · exact (h2 k h).1
    · exact Nat.le_trans h3.size h, hk.2⟩) hd.strict ho
theorem sync_own (W : World) (B b : Nat) (st : Dk) (m : Nat) (w : World) (h : Own W B w b st) (hl : lookE st 0 = 0) (hf : Fine st m) :
    Calls Try.prog 19 #[.pointer (some ⟨b, 0, none⟩)] w fun e w' => e = .returned (.int .i64 (if (begun st).off then 12 else 0)) ∧ Own W B w' b (synced st) ∧ Only (Mine W B) w w' := by
  obtain ⟨F, h1, h2, h3⟩ := h
  exact (sync_any F b st m w h1 hl hf).mono fun e w' ⟨he, hd, ho⟩ => ⟨he, Own.of h3 h2 h2 hd ho⟩
theorem arm_own (W : World) (B b : Nat) (st : Dk) (n : Int) (w : World) (h : Own W B w b st) (hn : 0 ≤ n) :
    Calls Try.prog 23 #[.pointer (some ⟨b, 0, none⟩), .int .i64 n] w fun e w' => e = .returned (.int .i64 0) ∧ Own W B w' b { st with armed := n } ∧ Only (Mine W B) w w' := by
  obtain ⟨F, h1, h2, h3⟩ := h
  exact (arm_any F b st n w h1 hn).mono fun e w' ⟨he, hd, ho⟩ => ⟨he, Own.of h3 h2 h2 hd (ho.mono (fun k _ e => by subst e; exact h1.2.2.1))⟩
theorem restart_own (W : World) (B b : Nat) (st : Dk) (m : Nat) (keep torn : Int) (w : World) (h : Own W B w b st) (hf : Fine st m) :
    Calls Try.prog 20 #[.pointer (some ⟨b, 0, none⟩), .int .i64 keep, .int .i64 torn] w fun e w' => e = .returned (.int .i64 0) ∧ Own W B w' b (restarted st keep torn) ∧ Only (Mine W B) w w' := by
  obtain ⟨F, h1, h2, h3⟩ := h
  exact (restart_any F b st m keep torn w h1 hf).mono fun e w' ⟨he, hd, ho⟩ => ⟨he, Own.of h3 h2 h2 hd ho⟩
/-- A block as it is told: its bytes lie apart, in a block of their own. -/
def Told (w : World) (l : List UInt8) (v : Value) (w' : World) : Prop :=
  ∃ g, w.heap.size ≤ g ∧ v = .slice (some ⟨g, 0, none⟩) 64 64 ∧ w'.heap[g]? = some (.cells (u8s l).toArray 81)
theorem read_own (W : World) (B b : Nat) (st : Dk) (m i : Nat) (w : World) (h : Own W B w b st) (hl : lookE st i = 0) (hf : Fine st m) (hB : B ≤ w.heap.size) :
    Calls Try.prog 21 #[.pointer (some ⟨b, 0, none⟩), .int .i64 i] w fun e w' => ∃ v, e = .returned (.tuple #[v, .int .i64 0]) ∧ Told w ((view st).getD i []) v w' ∧ Own W B w' b st ∧ Only (fun _ => False) w w' := by
  obtain ⟨F, h1, h2, h3⟩ := h
  refine (read_any F b st m i w h1 hl hf).mono ?_
  rintro e w' ⟨g, hg, he, hb, ho⟩
  exact ⟨_, he, ⟨g, hg, rfl, hb⟩, ⟨F, h1.only ho (fun _ _ _ h => h), h2, h3.trans ho⟩, ho⟩

theorem look0 {st : Dk} {i : Int} (h0 : 0 ≤ i) (h1 : i < st.sure.length) (ho : st.off = false) : lookE st i = 0 := by
  unfold lookE; rw [if_neg (by omega), if_neg (by rw [ho]; decide)]
theorem bytes_new (w : World) (l : List UInt8) (e : TypeId) (fr : Nat × Nat) (cap : Nat) (hc : l.length ≤ cap) (hc' : cap ≤ 9223372036854775807) {C : Array Value} (hC : C = (u8s l).toArray) :
    Bytes (w.alloc (.cells C e fr)) (.slice (some ⟨w.heap.size, 0, none⟩) l.length cap) l := by
  refine ⟨_, _, rfl, hc, hc', fun _ => ⟨_, _, rfl, by simp, ?_⟩⟩
  subst hC
  exact range_of_block (heap_new w _)
theorem bytes_told {w w' : World} {l : List UInt8} {v : Value} (h : Told w l v w') (hl : l.length = 64) : Bytes w' v l := by
  obtain ⟨g, hg, rfl, hb⟩ := h
  exact ⟨_, _, by rw [hl], by omega, by omega, fun _ => ⟨_, _, rfl, (Array.getElem?_eq_some_iff.1 hb).1, range_of_block hb⟩⟩
theorem str_of (l : List UInt8) : strOfNums (l.map fun b => (b.toNat : Int)) = ⟨l.toArray⟩ := by
  rw [strOfNums_eq, List.map_map]
  congr 2
  have : ((fun n : Int => UInt8.ofNat n.toNat) ∘ fun b : UInt8 => (b.toNat : Int)) = id := by
    funext b; simp
  rw [this, List.map_id]
/-- string(b) -/
theorem Bytes.conv {w : World} {v : Value} {l : List UInt8} (h : Bytes w v l) : (convert 22 9 v).run Try.prog w = .ok (.string ⟨l.toArray⟩) w := by
  obtain ⟨a, cap, rfl, h1, h2, h3⟩ := h
  by_cases hl : 0 < l.length
  · obtain ⟨b, off, rfl, hb, hr⟩ := h3 hl
    have := run_convert_bytes_arg (P := Try.prog) w 22 5 Try.underlying22 Try.underlying5 b off l.length cap (l.map fun b => (b.toNat : Int)) (by simp) (fun i hi => by
      have := hr i (.int .u8 (l[i].toNat : Int)) (by simp [u8s, hi])
      rw [this]; simp [hi]) 9 Try.underlying9
    rw [this, str_of]
  · have hn : l = [] := List.eq_nil_of_length_eq_zero (by omega)
    subst hn
    cases a with
    | none => exact run_convert_bytes_nil (P := Try.prog) w 22 5 Try.underlying22 Try.underlying5 0 cap 9 Try.underlying9
    | some ad => 
      obtain ⟨b, off, sp⟩ := ad
      have := run_convert_bytes_string (P := Try.prog) w 22 9 5 (some ⟨b, off, sp⟩) 0 cap Try.underlying22 Try.underlying5 Try.underlying9
      exact this

def St1 : Dk := wrote (fresh 2) 0 [97, 98]
def St2 : Dk := wrote (synced St1) 0 [120, 121]
theorem st2 : restarted St2 0 1 = ⟨[[120, 98] ++ List.replicate 62 0, zeros64], [], 3, 0, false⟩ := by rfl
set_option maxRecDepth 100000 in
set_option maxHeartbeats 2000000 in
theorem awake_any (w : World) : Calls Try.prog 16 #[] w fun e w' => e = .returned (.bool true) ∧ Only (fun _ => False) w w' := by
  have hN : Calls Try.prog 17 #[.int .i64 2] w _ := new_own w 2 w (Only.refl _ _) (by decide) (by decide)
  have kc := fun (w : World) (C : Array Value) (n c : Nat) => Lib.run_convert_bytes_const (P := Try.prog) w 22 5 C n c Try.underlying22 Try.underlying5
  have HN := Lib.hid hN; clear hN
  go_enter Try.func16, Try.ntmps16
  go_wp2_with fail
  refine HN.out.mono ?_
  rintro e w1 ⟨b, rfl, h1, o1⟩
  have H1 := Lib.hid h1; have O1 := Lib.hid o1; clear h1 o1
  go_wp2_with fail
  refine (write_own w w1.heap.size b (fresh 2) 0 0 _ [97, 98] _ (H1.out.only ((Only.refl (fun _ => False) w1).alloc _) (fun _ h => h.elim)) (by rfl) (bytes_new w1 [97, 98] _ _ _ (by decide) (by decide) (by rfl)) (by decide) (fun _ k hk => .inr (by cases hk; exact Nat.le_refl _)) (Fine.fresh 2)).mono ?_
  rintro e w2 ⟨rfl, h2, o2⟩
  have H2 := Lib.hid h2; have O2 := Lib.hid o2; clear h2 o2
  go_wp2_with fail
  have f1 : Fine St1 1 := (Fine.fresh 2).wrote (by decide) ⟨by decide, by decide⟩ _
  have f2 : Fine (synced St1) 2 := f1.synced (by decide)
  have f3 : Fine St2 3 := f2.wrote (by decide) ⟨by decide, by decide⟩ _
  have F1 := Lib.hid f1; have F2 := Lib.hid f2; have F3 := Lib.hid f3; clear f1 f2 f3
  refine (sync_own w w2.heap.size b St1 1 _ H2.out (by rfl) F1.out).mono ?_
  rintro e w3 ⟨rfl, h3, o3⟩
  have H3 := Lib.hid h3; have O3 := Lib.hid o3; clear h3 o3
  go_wp2_with fail
  refine (write_own w w3.heap.size b (synced St1) 2 0 _ [120, 121] _ ((H3.out.grow O3.out.size).only ((Only.refl (fun _ => False) w3).alloc _) (fun _ h => h.elim)) (by rfl) (bytes_new w3 [120, 121] _ _ _ (by decide) (by decide) (by rfl)) (by decide) (fun _ k hk => .inr (by cases hk; exact Nat.le_refl _)) F2.out).mono ?_
  rintro e w4 ⟨rfl, h4, o4⟩
  have H4 := Lib.hid h4; have O4 := Lib.hid o4; clear h4 o4
  go_wp2_with fail
  refine (restart_own w w4.heap.size b St2 3 0 1 _ H4.out F3.out).mono ?_
  rintro e w5 ⟨rfl, h5, o5⟩
  have H5 := Lib.hid h5; have O5 := Lib.hid o5; clear h5 o5
  go_wp2_with fail
  have hr := read_own w w5.heap.size b (restarted St2 0 1) 3 0 w5 (H5.out.grow O5.out.size) (by rfl) (F3.out.restarted 0 1) (Nat.le_refl _)
  have HR := Lib.hid hr; clear hr
  refine HR.out.mono ?_
  rintro e w6 ⟨v, rfl, ⟨g, hg, rfl, ht⟩, h6, o6⟩
  have hc : (convert 22 9 (.slice (some ⟨g, 0, none⟩) 3 64)).run Try.prog w6 = .ok (.string ⟨#[120, 98, 0]⟩) w6 := by
    have hb : Bytes w6 (.slice (some ⟨g, 0, none⟩) ([120, 98, 0] : List UInt8).length 64) [120, 98, 0] :=
      ⟨_, _, rfl, by decide, by decide, fun _ => ⟨_, _, rfl, (Array.getElem?_eq_some_iff.1 ht).1, fun j v hv => by
        refine range_of_block ht j v ?_
        have e : (view (restarted St2 0 1)).getD 0 [] = [120, 98, 0] ++ List.replicate 61 0 := by rfl
        rw [e, u8s_append, List.getElem?_append_left (List.getElem?_eq_some_iff.1 hv).1]; exact hv⟩⟩
    exact hb.conv
  have H6 := Lib.hid h6; have O6 := Lib.hid o6; have HT := Lib.hid ht; clear h6 o6 ht
  go_wp2
  go_ret
  exact ⟨rfl, H6.out.old⟩
end Go.Proofs.Ytlkglhgndfhjeaa
