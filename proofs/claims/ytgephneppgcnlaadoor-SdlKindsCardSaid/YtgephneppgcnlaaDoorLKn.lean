/- SdlKinds: the walk. -/
import Derived.Test.YtgephneppgcnlaaDoorSda
import Derived.Test.YtgephneppgcnlaaDoorKnp
import Derived.Test.YtgephneppgcnlaaDoorRwc
import Derived.Test.YtgephneppgcnlaaDoorSmv
import Derived.Laws.IdiomStrings
namespace Go.Proofs.YtgephneppgcnlaaDoor
open Go Go.RowKit
set_option linter.unusedVariables false
set_option linter.unusedSimpArgs false

def letZ (x : Int) : UInt8 := UInt8.ofNat (97 + x.toNat % 26)
def lettersZ (z : List Int) (k : Nat) : List UInt8 := (z.take k).map letZ
theorem lettersZ_succ {z : List Int} {k : Nat} (h : k < z.length) : lettersZ z (k + 1) = lettersZ z k ++ [letZ (z.getD k 0)] := by
  unfold lettersZ
  rw [List.take_succ_eq_append_getElem h, List.map_append, List.map_singleton, List.getD_eq_getElem?_getD, List.getElem?_eq_getElem h]; rfl
theorem lettersZ_len {z : List Int} {k : Nat} (h : k ≤ z.length) : (lettersZ z k).length = k := by
  unfold lettersZ; rw [List.length_map, List.length_take, Nat.min_eq_left h]
theorem letZ_val {x : Int} (h : 0 ≤ x) : ((letZ x).toNat : Int) = 97 + x % 26 := by
  unfold letZ
  rw [UInt8.toNat_ofNat', Nat.mod_eq_of_lt (by omega)]; omega
theorem letZ_let (x : Int) : letB (letZ x) = true ∧ ldB (letZ x) = true := by
  have h : ∀ m : Fin 26, letB (UInt8.ofNat (97 + m.1)) = true ∧ ldB (UInt8.ofNat (97 + m.1)) = true := by decide
  exact h ⟨x.toNat % 26, by omega⟩
theorem letters_ok {z : List Int} {k : Nat} (h : k ≤ z.length) (h0 : 0 < k) (h1 : k ≤ 30) : NameOk (lettersZ z k) := by
  have hl := lettersZ_len h
  refine ⟨?_, ?_, by omega⟩
  · cases hc : lettersZ z k with
    | nil => rw [hc] at hl; simp at hl; omega
    | cons c l =>
      have : c ∈ lettersZ z k := by rw [hc]; simp
      obtain ⟨x, _, rfl⟩ := List.mem_map.1 this
      exact ⟨_, _, rfl, (letZ_let x).1⟩
  · intro c hc
    obtain ⟨x, _, rfl⟩ := List.mem_map.1 hc
    exact (letZ_let x).2
def kwV : Array Value := #[.string ⟨#[116, 121, 112, 101]⟩, .string ⟨#[105, 110, 116, 101, 114, 102, 97, 99, 101]⟩, .string ⟨#[117, 110, 105, 111, 110]⟩, .string ⟨#[101, 110, 117, 109]⟩, .string ⟨#[105, 110, 112, 117, 116]⟩, .string ⟨#[115, 99, 97, 108, 97, 114]⟩]
def krV : Array Value := #[.string ⟨#[123, 32, 97, 58, 32, 73, 110, 116, 32, 125]⟩, .string ⟨#[123, 32, 97, 40, 98, 58, 32, 73, 110, 116, 41, 58, 32, 73, 110, 116, 32, 125]⟩, .string ⟨#[61, 32, 65]⟩, .string ⟨#[123, 32, 65, 32, 66, 32, 125]⟩, .string ⟨#[123, 32, 97, 58, 32, 73, 110, 116, 32, 61, 32, 49, 32, 125]⟩, .string ⟨#[]⟩]
theorem kw_get (i : Nat) (h : i < 6) : kwV[i]? = some (.string ⟨(kwL.getD i []).toArray⟩) ∧ krV[i]? = some (.string ⟨(krL.getD i []).toArray⟩) ∧ (kwL.getD i []).length ≤ 9 ∧ (krL.getD i []).length ≤ 18 := by
  match i, h with
  | 0, _ | 1, _ | 2, _ | 3, _ | 4, _ | 5, _ => exact ⟨rfl, rfl, by decide, by decide⟩
theorem kind_text (a n b : List UInt8) : (⟨a.toArray⟩ : ByteArray) ++ ⟨#[32]⟩ ++ ⟨n.toArray⟩ ++ ⟨#[32]⟩ ++ ⟨b.toArray⟩ = ⟨(a ++ [32] ++ n ++ [32] ++ b).toArray⟩ := by
  rw [show (⟨#[32]⟩ : ByteArray) = ⟨([32] : List UInt8).toArray⟩ from rfl, cat_list, cat_list, cat_list, cat_list]
theorem kindD_form (i : Nat) (hi : i < 5) (n : List UInt8) : (kindD i n).kind = i + 1 ∧ (kindD i n).name = n := by
  match i, hi with
  | 0, _ | 1, _ | 2, _ | 3, _ | 4, _ => exact ⟨rfl, rfl⟩
set_option maxRecDepth 100000 in
set_option maxHeartbeats 8000000 in
theorem kinds_walk (q : Int) (a : Option Addr) (len cap : Nat) (z : List Int) (w : World) (hq : (Lit.int .u8 q).wf = true) (hz : IsRow .u8 w a len cap z) : Calls Tryd.prog 12 #[.int .u8 q, .slice a len cap] w fun e w' => e = .returned (.bool true) ∧ Below w.heap.size w w' := by
  have A := Lib.hid (awake07 w)
  have HZ := Lib.hid hz
  obtain ⟨hlz, hcm, hlc⟩ := row_len hz
  unfold maxLen at hcm
  obtain ⟨i, hi, hie⟩ : ∃ i : Nat, i < 6 ∧ q % 6 = (i : Int) := ⟨(q % 6).toNat, by omega, by omega⟩
  have q0 : 0 ≤ q ∧ q ≤ 255 := by simp [Lit.wf, IntKind.min, IntKind.max, IntKind.signed, IntKind.bits] at hq; omega
  obtain ⟨q0, q1⟩ := q0
  have HIE := Lib.hid hie
  clear hz hq hie
  go_enter Tryd.func12, Tryd.ntmps12
  go_wp2_with fail
  refine A.out.mono ?_
  rintro e w1 ⟨rfl, O1⟩
  have HO1 := Lib.hid O1; clear O1 A
  by_cases hbig : len = 0 ∨ 30 < len
  · have A := Lib.hid (awake07 w1)
    by_cases h0 : len = 0
    · subst h0
      go_wp2_with fail
      refine A.out.mono ?_
      rintro e w2 ⟨rfl, O2⟩
      have HO2 := Lib.hid (HO1.out.trans O2); clear O2 A
      go_wp2_with fail
      go_ret
      exact ⟨rfl, HO2.out.below (Nat.le_refl _) (fun _ _ h => h)⟩
    · have t0 : ((len : Int) == 0) = false := by simp; omega
      have t1 : decide ((len : Int) > 30) = true := decide_eq_true (by omega)
      go_wp2_with fail
      refine A.out.mono ?_
      rintro e w2 ⟨rfl, O2⟩
      have HO2 := Lib.hid (HO1.out.trans O2); clear O2 A
      go_wp2_with fail
      go_ret
      exact ⟨rfl, HO2.out.below (Nat.le_refl _) (fun _ _ h => h)⟩
  have t0 : ((len : Int) == 0) = false := by simp; omega
  have t1 : decide ((len : Int) > 30) = false := decide_eq_false (by omega)
  have hl6 : len ≤ 30 := by omega
  have hl0 : 0 < len := by omega
  clear hbig
  go_wp2_with fail
  clear t0 t1
  go_loopw [5, 6] (fun y x wr => ∃ k : Nat, x = .int .i64 (k : Int) ∧ k ≤ len ∧ y = .string ⟨(lettersZ z k).toArray⟩ ∧ Hid (Only (fun _ => False) w wr)) (fun _ x _ => len - (intOf x).toNat)
  case atStart => exact ⟨0, rfl, by omega, rfl, HO1⟩
  case round =>
    obtain ⟨k, rfl, hk, rfl, OR⟩ := hrel
    by_cases hlt : k < len
    · have t1 : decide ((k : Int) < (len : Int)) = true := decide_eq_true (by omega)
      have hkl : (k : Int) < (len : Int) := by omega
      obtain ⟨b, off, rfl, hc, hz1, hz2⟩ := row_cell HZ.out OR.out hlt
      have hsu := lettersZ_succ (z := z) (k := k) (by omega)
      have hal := lettersZ_len (z := z) (k := k) (by omega)
      obtain ⟨zk, hzk⟩ : ∃ zk, z.getD k 0 = zk := ⟨_, rfl⟩
      rw [hzk] at hc hz1 hz2 hsu
      have hv := letZ_val hz1
      obtain ⟨ah, hah⟩ : ∃ ah, lettersZ z k = ah := ⟨_, rfl⟩
      rw [hah] at hsu hal ⊢
      obtain ⟨c, hcc⟩ : ∃ c, letZ zk = c := ⟨_, rfl⟩
      rw [hcc] at hv hsu
      clear hah hcc hzk
      have HSU := Lib.hid hsu; have HV := Lib.hid hv
      clear hsu hv
      obtain ⟨gb, hgb⟩ : ∃ gb, wr.heap.size = gb := ⟨_, rfl⟩
      have hbx := heap_new wr (.cells #[.int .u8 (97 + zk % 26)] 5)
      rw [hgb] at hbx
      have cA : (convert 55 9 (.slice (some ⟨gb, 0, none⟩) 1 1)).run Tryd.prog (wr.alloc (.cells #[.int .u8 (97 + zk % 26)] 5)) = .ok (.string ⟨#[c]⟩) (wr.alloc (.cells #[.int .u8 (97 + zk % 26)] 5)) := by
        refine run_convert_bytes_back _ _ _ 5 _ 1 [c] (by kernel_rfl) (by kernel_rfl) (by kernel_rfl) (fun j hj => ?_)
        rw [addr_add]
        match j, hj with
        | 0, _ => simp [World.cell?, hbx]; exact HV.out.symm
      rw [← hgb] at cA
      have HA := Lib.hid (OR.out.alloc (.cells #[.int .u8 (97 + zk % 26)] 5))
      have hal6 : ah.length ≤ 30 := by omega
      clear hbx hgb HV
      go_wp2_with fail
      clear cA hc
      go_roundw
      case rel => exact ⟨k + 1, by simp, by omega, by rw [HSU.out, ← cat_list], HA⟩
      case measure => simp [intOf]; omega
    · have t1 : decide ((k : Int) < (len : Int)) = false := decide_eq_false (by omega)
      have hke : k = len := by omega
      subst hke
      have hnm := letters_ok (z := z) (k := k) hlz hl0 hl6
      have hnl := lettersZ_len (z := z) (k := k) hlz
      obtain ⟨n, hn⟩ : ∃ n, lettersZ z k = n := ⟨_, rfl⟩
      rw [hn] at hnm hnl ⊢
      obtain ⟨g1, g2, g3, g4⟩ := kw_get i hi
      obtain ⟨gA, hgA⟩ : ∃ g, wr.heap.size = g := ⟨_, rfl⟩
      obtain ⟨wA, hwA⟩ : ∃ x, wr.alloc (.cells #[.string ⟨#[116, 121, 112, 101]⟩, .string ⟨#[105, 110, 116, 101, 114, 102, 97, 99, 101]⟩, .string ⟨#[117, 110, 105, 111, 110]⟩, .string ⟨#[101, 110, 117, 109]⟩, .string ⟨#[105, 110, 112, 117, 116]⟩, .string ⟨#[115, 99, 97, 108, 97, 114]⟩] 9) = x := ⟨_, rfl⟩
      have hbA : wA.heap[gA]? = some (.cells kwV 9 (0, 0)) := by rw [← hwA, ← hgA]; exact heap_new _ _
      have oA : Only (fun _ => False) wr wA := by rw [← hwA]; exact (Only.refl _ wr).alloc _
      have hsA : wA.heap.size = gA + 1 := by rw [← hwA, ← hgA]; simp
      obtain ⟨wB, hwB⟩ : ∃ x, wA.alloc (.cells #[.string ⟨#[123, 32, 97, 58, 32, 73, 110, 116, 32, 125]⟩, .string ⟨#[123, 32, 97, 40, 98, 58, 32, 73, 110, 116, 41, 58, 32, 73, 110, 116, 32, 125]⟩, .string ⟨#[61, 32, 65]⟩, .string ⟨#[123, 32, 65, 32, 66, 32, 125]⟩, .string ⟨#[123, 32, 97, 58, 32, 73, 110, 116, 32, 61, 32, 49, 32, 125]⟩, .string ⟨#[]⟩] 9) = x := ⟨_, rfl⟩
      have hbB : wB.heap[gA + 1]? = some (.cells krV 9 (0, 0)) := by rw [← hwB, ← hsA]; exact heap_new _ _
      have oB : Only (fun _ => False) wA wB := by rw [← hwB]; exact (Only.refl _ wA).alloc _
      have c1 : wA.cell? ⟨gA, i, none⟩ = some (.string ⟨(kwL.getD i []).toArray⟩) := by simp [World.cell?, hbA, g1]
      have c1 := keepc oB c1
      have c2 : wB.cell? ⟨gA + 1, i, none⟩ = some (.string ⟨(krL.getD i []).toArray⟩) := by simp [World.cell?, hbB, g2]
      have htx := kind_text (kwL.getD i []) n (krL.getD i [])
      have D := Lib.hid (fun (wx : World) => stypes_any (kindT i n) wx (by have := kindT_len i hi hnm; unfold maxLen; omega))
      unfold kindT at D
      have HOB := Lib.hid ((OR.out.trans oA).trans oB)
      have HWA := Lib.hid hwA; have HWB := Lib.hid hwB; have HGA := Lib.hid hgA; have HSA := Lib.hid hsA; have HNM := Lib.hid hnm; have HTX := Lib.hid htx; have HN := Lib.hid hn
      obtain ⟨kw, hkw⟩ : ∃ x, kwL.getD i [] = x := ⟨_, rfl⟩
      obtain ⟨kr, hkr⟩ : ∃ x, krL.getD i [] = x := ⟨_, rfl⟩
      rw [hkw] at c1 g3
      rw [hkr] at c2 g4
      have HX := Lib.hid (fun (wx : World) (ox : Only (fun _ => False) wB.drew wx) => have o := (Only.refl _ wB).drew.trans ox; And.intro (keepc o c1) (keepc o c2))
      have HKW := Lib.hid hkw; have HKR := Lib.hid hkr
      clear g1 g2 hgA hwA hbA oA hsA hwB hbB oB htx hnm hn hkw hkr c1 c2
      go_upto_region 9 with (fail)
      rw [HWA.out, HGA.out]
      go_upto_region 10 with (fail)
      rw [HWB.out, HSA.out]
      go_upto_region 11 with (fail)
      rw [HIE.out]
      have hi0 : (0 : Int) ≤ (i : Int) := by omega
      have hi6 : (i : Int) < 6 := by omega
      rw [HKW.out, HKR.out] at D HTX
      by_cases h5 : i = 5
      · subst h5
        have hdoc := kinds_bad HNM.out
        unfold kindT at hdoc
        rw [HKW.out, HKR.out] at hdoc
        have hd : ∀ wx : World, Calls Tryd.prog 20 #[.string (⟨kw.toArray⟩ ++ ⟨#[32]⟩ ++ ⟨n.toArray⟩ ++ ⟨#[32]⟩ ++ ⟨kr.toArray⟩)] wx (TysRes wx (.bad 0 4)) := fun wx => by
          have := D.out wx
          rw [hdoc] at this
          rw [HTX.out]; exact this
        have HD := Lib.hid hd
        clear hd hdoc D
        refine wp_region_steps 20 (by kernel_rfl) rfl (by kernel_rfl) [some 48, some 49, some 50, some 51, some 52, some 53, some 54, some 55, some 56, some 57, some 58, some 59, some 60, some 61, some 47, some 62, some 63, some 64, some 10, some 11] rfl rfl (fun _ => False) [(fun v _ => v = (.slice (some ⟨gA, 0, none⟩) 6 6)), (fun v _ => v = (.int .i64 5)), (fun v _ => v = (.pointer (some ⟨gA, 5, none⟩))), (fun v _ => v = (.string ⟨kw.toArray⟩)), (fun v _ => v = (.string (⟨kw.toArray⟩ ++ ⟨#[32]⟩))), (fun v _ => v = (.string ⟨n.toArray⟩)), (fun v _ => v = (.string (⟨kw.toArray⟩ ++ ⟨#[32]⟩ ++ ⟨n.toArray⟩))), (fun v _ => v = (.string (⟨kw.toArray⟩ ++ ⟨#[32]⟩ ++ ⟨n.toArray⟩ ++ ⟨#[32]⟩))), (fun v _ => v = (.slice (some ⟨gA + 1, 0, none⟩) 6 6)), (fun v _ => v = (.int .i64 5)), (fun v _ => v = (.pointer (some ⟨gA + 1, 5, none⟩))), (fun v _ => v = (.string ⟨kr.toArray⟩)), (fun v _ => v = (.string (⟨kw.toArray⟩ ++ ⟨#[32]⟩ ++ ⟨n.toArray⟩ ++ ⟨#[32]⟩ ++ ⟨kr.toArray⟩))), (fun v _ => v = (.tuple #[.slice none 0 0, .int .i64 0, .int .i64 4])), (fun v _ => v = (.tuple #[.slice none 0 0, .int .i64 0, .int .i64 4])), (fun v _ => v = (.slice none 0 0)), (fun v _ => v = (.int .i64 0)), (fun v _ => v = (.int .i64 4)), (fun v _ => v = (.slice none 0 0)), (fun v _ => v = (.int .i64 0))] rfl ⟨?_, ?_, ?_, ?_, ?_, ?_, ?_, ?_, ?_, ?_, ?_, ?_, ?_, ?_, ?_, ?_, ?_, ?_, ?_, ?_, trivial⟩ _ rfl ⟨?_, ?_, ?_, ?_, ?_, ?_, ?_, ?_, ?_, ?_, ?_, ?_, ?_, ?_, ?_, ?_, ?_, ?_, ?_, ?_, trivial⟩ ?_
        · exact Stable.is _ _
        · exact Stable.is _ _
        · exact Stable.is _ _
        · exact Stable.is _ _
        · exact Stable.is _ _
        · exact Stable.is _ _
        · exact Stable.is _ _
        · exact Stable.is _ _
        · exact Stable.is _ _
        · exact Stable.is _ _
        · exact Stable.is _ _
        · exact Stable.is _ _
        · exact Stable.is _ _
        · exact Stable.is _ _
        · exact Stable.is _ _
        · exact Stable.is _ _
        · exact Stable.is _ _
        · exact Stable.is _ _
        · exact Stable.is _ _
        · exact Stable.is _ _
        · intro x wx ox hN TT HTT
          clear hN
          unfold StepTo
          simp only [putAll, Act.put, List.setIfInBounds_toArray, List.set_cons_succ, List.set_cons_zero]
          go_wp2_with fail
          exact ⟨rfl, _, rfl, HTT.out _ _ (rfl) (Only.refl _ _)⟩
        · intro x wx ox hN TT HTT
          clear hN
          unfold StepTo
          simp only [putAll, Act.put, List.setIfInBounds_toArray, List.set_cons_succ, List.set_cons_zero]
          go_wp2_with fail
          exact ⟨rfl, _, rfl, HTT.out _ _ (rfl) (Only.refl _ _)⟩
        · intro x wx ox hN TT HTT
          have r48 : x 0 = (.slice (some ⟨gA, 0, none⟩) 6 6) := hN.1 rfl
          have r49 : x 1 = (.int .i64 5) := hN.2.1 rfl
          clear hN
          unfold StepTo
          simp only [putAll, Act.put, List.setIfInBounds_toArray, List.set_cons_succ, List.set_cons_zero, r48, r49]
          clear r48 r49
          go_wp2_with fail
          exact ⟨rfl, _, rfl, HTT.out _ _ (rfl) (Only.refl _ _)⟩
        · intro x wx ox hN TT HTT
          have r50 : x 2 = (.pointer (some ⟨gA, 5, none⟩)) := hN.1 rfl
          clear hN
          unfold StepTo
          simp only [putAll, Act.put, List.setIfInBounds_toArray, List.set_cons_succ, List.set_cons_zero, r50]
          clear r50
          obtain ⟨c1, c2⟩ := HX.out wx ox
          go_wp2_with fail
          exact ⟨rfl, _, rfl, HTT.out _ _ (rfl) (Only.refl _ _)⟩
        · intro x wx ox hN TT HTT
          have r51 : x 3 = (.string ⟨kw.toArray⟩) := hN.1 rfl
          clear hN
          unfold StepTo
          simp only [putAll, Act.put, List.setIfInBounds_toArray, List.set_cons_succ, List.set_cons_zero, r51]
          clear r51
          go_wp2_with fail
          exact ⟨rfl, _, rfl, HTT.out _ _ (rfl) (Only.refl _ _)⟩
        · intro x wx ox hN TT HTT
          clear hN
          unfold StepTo
          simp only [putAll, Act.put, List.setIfInBounds_toArray, List.set_cons_succ, List.set_cons_zero]
          go_wp2_with fail
          exact ⟨rfl, _, rfl, HTT.out _ _ (rfl) (Only.refl _ _)⟩
        · intro x wx ox hN TT HTT
          have r52 : x 4 = (.string (⟨kw.toArray⟩ ++ ⟨#[32]⟩)) := hN.1 rfl
          have r53 : x 5 = (.string ⟨n.toArray⟩) := hN.2.1 rfl
          clear hN
          unfold StepTo
          simp only [putAll, Act.put, List.setIfInBounds_toArray, List.set_cons_succ, List.set_cons_zero, r52, r53]
          clear r52 r53
          go_wp2_with fail
          exact ⟨rfl, _, rfl, HTT.out _ _ (rfl) (Only.refl _ _)⟩
        · intro x wx ox hN TT HTT
          have r54 : x 6 = (.string (⟨kw.toArray⟩ ++ ⟨#[32]⟩ ++ ⟨n.toArray⟩)) := hN.1 rfl
          clear hN
          unfold StepTo
          simp only [putAll, Act.put, List.setIfInBounds_toArray, List.set_cons_succ, List.set_cons_zero, r54]
          clear r54
          go_wp2_with fail
          exact ⟨rfl, _, rfl, HTT.out _ _ (rfl) (Only.refl _ _)⟩
        · intro x wx ox hN TT HTT
          clear hN
          unfold StepTo
          simp only [putAll, Act.put, List.setIfInBounds_toArray, List.set_cons_succ, List.set_cons_zero]
          go_wp2_with fail
          exact ⟨rfl, _, rfl, HTT.out _ _ (rfl) (Only.refl _ _)⟩
        · intro x wx ox hN TT HTT
          clear hN
          unfold StepTo
          simp only [putAll, Act.put, List.setIfInBounds_toArray, List.set_cons_succ, List.set_cons_zero]
          go_wp2_with fail
          exact ⟨rfl, _, rfl, HTT.out _ _ (rfl) (Only.refl _ _)⟩
        · intro x wx ox hN TT HTT
          have r56 : x 8 = (.slice (some ⟨gA + 1, 0, none⟩) 6 6) := hN.1 rfl
          have r57 : x 9 = (.int .i64 5) := hN.2.1 rfl
          clear hN
          unfold StepTo
          simp only [putAll, Act.put, List.setIfInBounds_toArray, List.set_cons_succ, List.set_cons_zero, r56, r57]
          clear r56 r57
          go_wp2_with fail
          exact ⟨rfl, _, rfl, HTT.out _ _ (rfl) (Only.refl _ _)⟩
        · intro x wx ox hN TT HTT
          have r58 : x 10 = (.pointer (some ⟨gA + 1, 5, none⟩)) := hN.1 rfl
          clear hN
          unfold StepTo
          simp only [putAll, Act.put, List.setIfInBounds_toArray, List.set_cons_succ, List.set_cons_zero, r58]
          clear r58
          obtain ⟨c1, c2⟩ := HX.out wx ox
          go_wp2_with fail
          exact ⟨rfl, _, rfl, HTT.out _ _ (rfl) (Only.refl _ _)⟩
        · intro x wx ox hN TT HTT
          have r55 : x 7 = (.string (⟨kw.toArray⟩ ++ ⟨#[32]⟩ ++ ⟨n.toArray⟩ ++ ⟨#[32]⟩)) := hN.1 rfl
          have r59 : x 11 = (.string ⟨kr.toArray⟩) := hN.2.1 rfl
          clear hN
          unfold StepTo
          simp only [putAll, Act.put, List.setIfInBounds_toArray, List.set_cons_succ, List.set_cons_zero, r55, r59]
          clear r55 r59
          go_wp2_with fail
          exact ⟨rfl, _, rfl, HTT.out _ _ (rfl) (Only.refl _ _)⟩
        · intro x wx ox hN TT HTT
          have r60 : x 12 = (.string (⟨kw.toArray⟩ ++ ⟨#[32]⟩ ++ ⟨n.toArray⟩ ++ ⟨#[32]⟩ ++ ⟨kr.toArray⟩)) := hN.1 rfl
          clear hN
          unfold StepTo
          simp only [putAll, Act.put, List.setIfInBounds_toArray, List.set_cons_succ, List.set_cons_zero, r60]
          clear r60
          have HT := Lib.hid (HD.out wx)
          go_wp2_with fail
          refine HT.out.mono ?_
          rintro e w6 ⟨rfl, o6⟩
          have O6 := Lib.hid o6
          clear o6
          go_wp2_with fail
          exact ⟨rfl, _, rfl, HTT.out _ _ (rfl) (O6.out)⟩
        · intro x wx ox hN TT HTT
          have r61 : x 13 = (.tuple #[.slice none 0 0, .int .i64 0, .int .i64 4]) := hN.1 rfl
          clear hN
          unfold StepTo
          simp only [putAll, Act.put, List.setIfInBounds_toArray, List.set_cons_succ, List.set_cons_zero, r61]
          clear r61
          go_wp2_with fail
          exact ⟨rfl, _, rfl, HTT.out _ _ (rfl) (Only.refl _ _)⟩
        · intro x wx ox hN TT HTT
          have r47 : x 14 = (.tuple #[.slice none 0 0, .int .i64 0, .int .i64 4]) := hN.1 rfl
          clear hN
          unfold StepTo
          simp only [putAll, Act.put, List.setIfInBounds_toArray, List.set_cons_succ, List.set_cons_zero, r47]
          clear r47
          go_wp2_with fail
          exact ⟨rfl, _, rfl, HTT.out _ _ (rfl) (Only.refl _ _)⟩
        · intro x wx ox hN TT HTT
          have r47 : x 14 = (.tuple #[.slice none 0 0, .int .i64 0, .int .i64 4]) := hN.1 rfl
          clear hN
          unfold StepTo
          simp only [putAll, Act.put, List.setIfInBounds_toArray, List.set_cons_succ, List.set_cons_zero, r47]
          clear r47
          go_wp2_with fail
          exact ⟨rfl, _, rfl, HTT.out _ _ (rfl) (Only.refl _ _)⟩
        · intro x wx ox hN TT HTT
          have r47 : x 14 = (.tuple #[.slice none 0 0, .int .i64 0, .int .i64 4]) := hN.1 rfl
          clear hN
          unfold StepTo
          simp only [putAll, Act.put, List.setIfInBounds_toArray, List.set_cons_succ, List.set_cons_zero, r47]
          clear r47
          go_wp2_with fail
          exact ⟨rfl, _, rfl, HTT.out _ _ (rfl) (Only.refl _ _)⟩
        · intro x wx ox hN TT HTT
          have r62 : x 15 = (.slice none 0 0) := hN.1 rfl
          have r61 : x 13 = (.tuple #[.slice none 0 0, .int .i64 0, .int .i64 4]) := hN.2.1 rfl
          have r48 : x 0 = (.slice (some ⟨gA, 0, none⟩) 6 6) := hN.2.2.1 rfl
          have r49 : x 1 = (.int .i64 5) := hN.2.2.2.1 rfl
          have r50 : x 2 = (.pointer (some ⟨gA, 5, none⟩)) := hN.2.2.2.2.1 rfl
          have r51 : x 3 = (.string ⟨kw.toArray⟩) := hN.2.2.2.2.2.1 rfl
          have r52 : x 4 = (.string (⟨kw.toArray⟩ ++ ⟨#[32]⟩)) := hN.2.2.2.2.2.2.1 rfl
          have r53 : x 5 = (.string ⟨n.toArray⟩) := hN.2.2.2.2.2.2.2.1 rfl
          have r54 : x 6 = (.string (⟨kw.toArray⟩ ++ ⟨#[32]⟩ ++ ⟨n.toArray⟩)) := hN.2.2.2.2.2.2.2.2.1 rfl
          have r55 : x 7 = (.string (⟨kw.toArray⟩ ++ ⟨#[32]⟩ ++ ⟨n.toArray⟩ ++ ⟨#[32]⟩)) := hN.2.2.2.2.2.2.2.2.2.1 rfl
          have r56 : x 8 = (.slice (some ⟨gA + 1, 0, none⟩) 6 6) := hN.2.2.2.2.2.2.2.2.2.2.1 rfl
          have r57 : x 9 = (.int .i64 5) := hN.2.2.2.2.2.2.2.2.2.2.2.1 rfl
          have r58 : x 10 = (.pointer (some ⟨gA + 1, 5, none⟩)) := hN.2.2.2.2.2.2.2.2.2.2.2.2.1 rfl
          have r59 : x 11 = (.string ⟨kr.toArray⟩) := hN.2.2.2.2.2.2.2.2.2.2.2.2.2.1 rfl
          have r60 : x 12 = (.string (⟨kw.toArray⟩ ++ ⟨#[32]⟩ ++ ⟨n.toArray⟩ ++ ⟨#[32]⟩ ++ ⟨kr.toArray⟩)) := hN.2.2.2.2.2.2.2.2.2.2.2.2.2.2.1 rfl
          have r47 : x 14 = (.tuple #[.slice none 0 0, .int .i64 0, .int .i64 4]) := hN.2.2.2.2.2.2.2.2.2.2.2.2.2.2.2.2.1 rfl
          clear hN
          unfold StepTo
          simp only [putAll, Act.put, List.setIfInBounds_toArray, List.set_cons_succ, List.set_cons_zero, r62, r61, r48, r49, r50, r51, r52, r53, r54, r55, r56, r57, r58, r59, r60, r47]
          clear r62 r61 r48 r49 r50 r51 r52 r53 r54 r55 r56 r57 r58 r59 r60 r47
          go_wp2_with fail
          exact ⟨rfl, _, rfl, HTT.out _ _ (rfl) (Only.refl _ _)⟩
        · intro x wx ox hN TT HTT
          have r63 : x 16 = (.int .i64 0) := hN.1 rfl
          have r10 : x 18 = (.slice none 0 0) := hN.2.1 rfl
          have r48 : x 0 = (.slice (some ⟨gA, 0, none⟩) 6 6) := hN.2.2.1 rfl
          have r49 : x 1 = (.int .i64 5) := hN.2.2.2.1 rfl
          have r50 : x 2 = (.pointer (some ⟨gA, 5, none⟩)) := hN.2.2.2.2.1 rfl
          have r51 : x 3 = (.string ⟨kw.toArray⟩) := hN.2.2.2.2.2.1 rfl
          have r52 : x 4 = (.string (⟨kw.toArray⟩ ++ ⟨#[32]⟩)) := hN.2.2.2.2.2.2.1 rfl
          have r53 : x 5 = (.string ⟨n.toArray⟩) := hN.2.2.2.2.2.2.2.1 rfl
          have r54 : x 6 = (.string (⟨kw.toArray⟩ ++ ⟨#[32]⟩ ++ ⟨n.toArray⟩)) := hN.2.2.2.2.2.2.2.2.1 rfl
          have r55 : x 7 = (.string (⟨kw.toArray⟩ ++ ⟨#[32]⟩ ++ ⟨n.toArray⟩ ++ ⟨#[32]⟩)) := hN.2.2.2.2.2.2.2.2.2.1 rfl
          have r56 : x 8 = (.slice (some ⟨gA + 1, 0, none⟩) 6 6) := hN.2.2.2.2.2.2.2.2.2.2.1 rfl
          have r57 : x 9 = (.int .i64 5) := hN.2.2.2.2.2.2.2.2.2.2.2.1 rfl
          have r58 : x 10 = (.pointer (some ⟨gA + 1, 5, none⟩)) := hN.2.2.2.2.2.2.2.2.2.2.2.2.1 rfl
          have r59 : x 11 = (.string ⟨kr.toArray⟩) := hN.2.2.2.2.2.2.2.2.2.2.2.2.2.1 rfl
          have r60 : x 12 = (.string (⟨kw.toArray⟩ ++ ⟨#[32]⟩ ++ ⟨n.toArray⟩ ++ ⟨#[32]⟩ ++ ⟨kr.toArray⟩)) := hN.2.2.2.2.2.2.2.2.2.2.2.2.2.2.1 rfl
          have r61 : x 13 = (.tuple #[.slice none 0 0, .int .i64 0, .int .i64 4]) := hN.2.2.2.2.2.2.2.2.2.2.2.2.2.2.2.1 rfl
          have r47 : x 14 = (.tuple #[.slice none 0 0, .int .i64 0, .int .i64 4]) := hN.2.2.2.2.2.2.2.2.2.2.2.2.2.2.2.2.1 rfl
          have r62 : x 15 = (.slice none 0 0) := hN.2.2.2.2.2.2.2.2.2.2.2.2.2.2.2.2.2.1 rfl
          clear hN
          unfold StepTo
          simp only [putAll, Act.put, List.setIfInBounds_toArray, List.set_cons_succ, List.set_cons_zero, r63, r10, r48, r49, r50, r51, r52, r53, r54, r55, r56, r57, r58, r59, r60, r61, r47, r62]
          clear r63 r10 r48 r49 r50 r51 r52 r53 r54 r55 r56 r57 r58 r59 r60 r61 r47 r62
          go_wp2_with fail
          exact ⟨rfl, _, rfl, HTT.out _ _ (rfl) (Only.refl _ _)⟩
        intro xz wxz oxz hN
        have r48 : xz 0 = (.slice (some ⟨gA, 0, none⟩) 6 6) := hN.1
        have r49 : xz 1 = (.int .i64 5) := hN.2.1
        have r50 : xz 2 = (.pointer (some ⟨gA, 5, none⟩)) := hN.2.2.1
        have r51 : xz 3 = (.string ⟨kw.toArray⟩) := hN.2.2.2.1
        have r52 : xz 4 = (.string (⟨kw.toArray⟩ ++ ⟨#[32]⟩)) := hN.2.2.2.2.1
        have r53 : xz 5 = (.string ⟨n.toArray⟩) := hN.2.2.2.2.2.1
        have r54 : xz 6 = (.string (⟨kw.toArray⟩ ++ ⟨#[32]⟩ ++ ⟨n.toArray⟩)) := hN.2.2.2.2.2.2.1
        have r55 : xz 7 = (.string (⟨kw.toArray⟩ ++ ⟨#[32]⟩ ++ ⟨n.toArray⟩ ++ ⟨#[32]⟩)) := hN.2.2.2.2.2.2.2.1
        have r56 : xz 8 = (.slice (some ⟨gA + 1, 0, none⟩) 6 6) := hN.2.2.2.2.2.2.2.2.1
        have r57 : xz 9 = (.int .i64 5) := hN.2.2.2.2.2.2.2.2.2.1
        have r58 : xz 10 = (.pointer (some ⟨gA + 1, 5, none⟩)) := hN.2.2.2.2.2.2.2.2.2.2.1
        have r59 : xz 11 = (.string ⟨kr.toArray⟩) := hN.2.2.2.2.2.2.2.2.2.2.2.1
        have r60 : xz 12 = (.string (⟨kw.toArray⟩ ++ ⟨#[32]⟩ ++ ⟨n.toArray⟩ ++ ⟨#[32]⟩ ++ ⟨kr.toArray⟩)) := hN.2.2.2.2.2.2.2.2.2.2.2.2.1
        have r61 : xz 13 = (.tuple #[.slice none 0 0, .int .i64 0, .int .i64 4]) := hN.2.2.2.2.2.2.2.2.2.2.2.2.2.1
        have r47 : xz 14 = (.tuple #[.slice none 0 0, .int .i64 0, .int .i64 4]) := hN.2.2.2.2.2.2.2.2.2.2.2.2.2.2.1
        have r62 : xz 15 = (.slice none 0 0) := hN.2.2.2.2.2.2.2.2.2.2.2.2.2.2.2.1
        have r63 : xz 16 = (.int .i64 0) := hN.2.2.2.2.2.2.2.2.2.2.2.2.2.2.2.2.1
        have r64 : xz 17 = (.int .i64 4) := hN.2.2.2.2.2.2.2.2.2.2.2.2.2.2.2.2.2.1
        have r10 : xz 18 = (.slice none 0 0) := hN.2.2.2.2.2.2.2.2.2.2.2.2.2.2.2.2.2.2.1
        have r11 : xz 19 = (.int .i64 0) := hN.2.2.2.2.2.2.2.2.2.2.2.2.2.2.2.2.2.2.2.1
        clear hN
        simp only [putAll, Act.put, List.setIfInBounds_toArray, List.set_cons_succ, List.set_cons_zero, r48, r49, r50, r51, r52, r53, r54, r55, r56, r57, r58, r59, r60, r61, r47, r62, r63, r64, r10, r11]
        clear r48 r49 r50 r51 r52 r53 r54 r55 r56 r57 r58 r59 r60 r61 r47 r62 r63 r64 r10 r11
        have OZ := Lib.hid (HOB.out.trans ((Only.refl _ wB).drew.trans oxz)); clear oxz
        go_wp2_with fail
        go_ret
        exact ⟨rfl, OZ.out.below (Nat.le_refl _) (fun _ _ h => h)⟩
      · have hi5 : i < 5 := by omega
        obtain ⟨D1, D2⟩ := kindD_form i hi5 n
        have hdoc := kinds_ok i hi5 HNM.out
        unfold kindT at hdoc
        rw [HKW.out, HKR.out] at hdoc
        obtain ⟨D0, hD0⟩ : ∃ D0, kindD i n = D0 := ⟨_, rfl⟩
        rw [hD0] at D1 D2 hdoc
        have hd : ∀ wx : World, Calls Tryd.prog 20 #[.string (⟨kw.toArray⟩ ++ ⟨#[32]⟩ ++ ⟨n.toArray⟩ ++ ⟨#[32]⟩ ++ ⟨kr.toArray⟩)] wx (TysRes wx (.ok [D0])) := fun wx => by
          have := D.out wx
          rw [hdoc] at this
          rw [HTX.out]; exact this
        have HD := Lib.hid hd; have HD1 := Lib.hid D1; have HD2 := Lib.hid D2
        clear hd hdoc D hD0 D1 D2
        refine wp_region_steps 20 (by kernel_rfl) rfl (by kernel_rfl) [some 48, some 49, some 50, some 51, some 52, some 53, some 54, some 55, some 56, some 57, some 58, some 59, some 60, some 61, some 47, some 62, some 63, some 64, some 10, some 11] rfl rfl (fun _ => False) [(fun v _ => v = (.slice (some ⟨gA, 0, none⟩) 6 6)), (fun v _ => v = (.int .i64 (i : Int))), (fun v _ => v = (.pointer (some ⟨gA, i, none⟩))), (fun v _ => v = (.string ⟨kw.toArray⟩)), (fun v _ => v = (.string (⟨kw.toArray⟩ ++ ⟨#[32]⟩))), (fun v _ => v = (.string ⟨n.toArray⟩)), (fun v _ => v = (.string (⟨kw.toArray⟩ ++ ⟨#[32]⟩ ++ ⟨n.toArray⟩))), (fun v _ => v = (.string (⟨kw.toArray⟩ ++ ⟨#[32]⟩ ++ ⟨n.toArray⟩ ++ ⟨#[32]⟩))), (fun v _ => v = (.slice (some ⟨gA + 1, 0, none⟩) 6 6)), (fun v _ => v = (.int .i64 (i : Int))), (fun v _ => v = (.pointer (some ⟨gA + 1, i, none⟩))), (fun v _ => v = (.string ⟨kr.toArray⟩)), (fun v _ => v = (.string (⟨kw.toArray⟩ ++ ⟨#[32]⟩ ++ ⟨n.toArray⟩ ++ ⟨#[32]⟩ ++ ⟨kr.toArray⟩))), (fun v w1 => ∃ (a : Option Addr) (c : Nat), v = .tuple #[.slice a 1 c, .int .i64 0, .int .i64 0] ∧ CellAt w1 (fun _ => True) (.row 4 [tdC D0]) (.slice a 1 c)), (fun v w1 => ∃ (a : Option Addr) (c : Nat), v = .tuple #[.slice a 1 c, .int .i64 0, .int .i64 0] ∧ CellAt w1 (fun _ => True) (.row 4 [tdC D0]) (.slice a 1 c)), (fun v w1 => ∃ (a : Option Addr) (c : Nat), v = .slice a 1 c ∧ CellAt w1 (fun _ => True) (.row 4 [tdC D0]) (.slice a 1 c)), (fun v _ => v = (.int .i64 0)), (fun v _ => v = (.int .i64 0)), (fun v w1 => ∃ (a : Option Addr) (c : Nat), v = .slice a 1 c ∧ CellAt w1 (fun _ => True) (.row 4 [tdC D0]) (.slice a 1 c)), (fun v _ => v = (.int .i64 0))] rfl ⟨?_, ?_, ?_, ?_, ?_, ?_, ?_, ?_, ?_, ?_, ?_, ?_, ?_, ?_, ?_, ?_, ?_, ?_, ?_, ?_, trivial⟩ _ rfl ⟨?_, ?_, ?_, ?_, ?_, ?_, ?_, ?_, ?_, ?_, ?_, ?_, ?_, ?_, ?_, ?_, ?_, ?_, ?_, ?_, trivial⟩ ?_
        · exact Stable.is _ _
        · exact Stable.is _ _
        · exact Stable.is _ _
        · exact Stable.is _ _
        · exact Stable.is _ _
        · exact Stable.is _ _
        · exact Stable.is _ _
        · exact Stable.is _ _
        · exact Stable.is _ _
        · exact Stable.is _ _
        · exact Stable.is _ _
        · exact Stable.is _ _
        · exact Stable.is _ _
        · exact (fun v w1 w2 h ho => by obtain ⟨a, c, e, h⟩ := h; exact ⟨a, c, e, CellAt.only ho (fun _ _ h => h) _ _ h⟩)
        · exact (fun v w1 w2 h ho => by obtain ⟨a, c, e, h⟩ := h; exact ⟨a, c, e, CellAt.only ho (fun _ _ h => h) _ _ h⟩)
        · exact (fun v w1 w2 h ho => by obtain ⟨a, c, e, h⟩ := h; exact ⟨a, c, e, CellAt.only ho (fun _ _ h => h) _ _ h⟩)
        · exact Stable.is _ _
        · exact Stable.is _ _
        · exact (fun v w1 w2 h ho => by obtain ⟨a, c, e, h⟩ := h; exact ⟨a, c, e, CellAt.only ho (fun _ _ h => h) _ _ h⟩)
        · exact Stable.is _ _
        · intro x wx ox hN TT HTT
          clear hN
          unfold StepTo
          simp only [putAll, Act.put, List.setIfInBounds_toArray, List.set_cons_succ, List.set_cons_zero]
          go_wp2_with fail
          exact ⟨rfl, _, rfl, HTT.out _ _ (rfl) (Only.refl _ _)⟩
        · intro x wx ox hN TT HTT
          clear hN
          unfold StepTo
          simp only [putAll, Act.put, List.setIfInBounds_toArray, List.set_cons_succ, List.set_cons_zero]
          go_wp2_with fail
          exact ⟨rfl, _, rfl, HTT.out _ _ (rfl) (Only.refl _ _)⟩
        · intro x wx ox hN TT HTT
          have r48 : x 0 = (.slice (some ⟨gA, 0, none⟩) 6 6) := hN.1 rfl
          have r49 : x 1 = (.int .i64 (i : Int)) := hN.2.1 rfl
          clear hN
          unfold StepTo
          simp only [putAll, Act.put, List.setIfInBounds_toArray, List.set_cons_succ, List.set_cons_zero, r48, r49]
          clear r48 r49
          go_wp2_with fail
          exact ⟨rfl, _, rfl, HTT.out _ _ (rfl) (Only.refl _ _)⟩
        · intro x wx ox hN TT HTT
          have r50 : x 2 = (.pointer (some ⟨gA, i, none⟩)) := hN.1 rfl
          clear hN
          unfold StepTo
          simp only [putAll, Act.put, List.setIfInBounds_toArray, List.set_cons_succ, List.set_cons_zero, r50]
          clear r50
          obtain ⟨c1, c2⟩ := HX.out wx ox
          go_wp2_with fail
          exact ⟨rfl, _, rfl, HTT.out _ _ (rfl) (Only.refl _ _)⟩
        · intro x wx ox hN TT HTT
          have r51 : x 3 = (.string ⟨kw.toArray⟩) := hN.1 rfl
          clear hN
          unfold StepTo
          simp only [putAll, Act.put, List.setIfInBounds_toArray, List.set_cons_succ, List.set_cons_zero, r51]
          clear r51
          go_wp2_with fail
          exact ⟨rfl, _, rfl, HTT.out _ _ (rfl) (Only.refl _ _)⟩
        · intro x wx ox hN TT HTT
          clear hN
          unfold StepTo
          simp only [putAll, Act.put, List.setIfInBounds_toArray, List.set_cons_succ, List.set_cons_zero]
          go_wp2_with fail
          exact ⟨rfl, _, rfl, HTT.out _ _ (rfl) (Only.refl _ _)⟩
        · intro x wx ox hN TT HTT
          have r52 : x 4 = (.string (⟨kw.toArray⟩ ++ ⟨#[32]⟩)) := hN.1 rfl
          have r53 : x 5 = (.string ⟨n.toArray⟩) := hN.2.1 rfl
          clear hN
          unfold StepTo
          simp only [putAll, Act.put, List.setIfInBounds_toArray, List.set_cons_succ, List.set_cons_zero, r52, r53]
          clear r52 r53
          go_wp2_with fail
          exact ⟨rfl, _, rfl, HTT.out _ _ (rfl) (Only.refl _ _)⟩
        · intro x wx ox hN TT HTT
          have r54 : x 6 = (.string (⟨kw.toArray⟩ ++ ⟨#[32]⟩ ++ ⟨n.toArray⟩)) := hN.1 rfl
          clear hN
          unfold StepTo
          simp only [putAll, Act.put, List.setIfInBounds_toArray, List.set_cons_succ, List.set_cons_zero, r54]
          clear r54
          go_wp2_with fail
          exact ⟨rfl, _, rfl, HTT.out _ _ (rfl) (Only.refl _ _)⟩
        · intro x wx ox hN TT HTT
          clear hN
          unfold StepTo
          simp only [putAll, Act.put, List.setIfInBounds_toArray, List.set_cons_succ, List.set_cons_zero]
          go_wp2_with fail
          exact ⟨rfl, _, rfl, HTT.out _ _ (rfl) (Only.refl _ _)⟩
        · intro x wx ox hN TT HTT
          clear hN
          unfold StepTo
          simp only [putAll, Act.put, List.setIfInBounds_toArray, List.set_cons_succ, List.set_cons_zero]
          go_wp2_with fail
          exact ⟨rfl, _, rfl, HTT.out _ _ (rfl) (Only.refl _ _)⟩
        · intro x wx ox hN TT HTT
          have r56 : x 8 = (.slice (some ⟨gA + 1, 0, none⟩) 6 6) := hN.1 rfl
          have r57 : x 9 = (.int .i64 (i : Int)) := hN.2.1 rfl
          clear hN
          unfold StepTo
          simp only [putAll, Act.put, List.setIfInBounds_toArray, List.set_cons_succ, List.set_cons_zero, r56, r57]
          clear r56 r57
          go_wp2_with fail
          exact ⟨rfl, _, rfl, HTT.out _ _ (rfl) (Only.refl _ _)⟩
        · intro x wx ox hN TT HTT
          have r58 : x 10 = (.pointer (some ⟨gA + 1, i, none⟩)) := hN.1 rfl
          clear hN
          unfold StepTo
          simp only [putAll, Act.put, List.setIfInBounds_toArray, List.set_cons_succ, List.set_cons_zero, r58]
          clear r58
          obtain ⟨c1, c2⟩ := HX.out wx ox
          go_wp2_with fail
          exact ⟨rfl, _, rfl, HTT.out _ _ (rfl) (Only.refl _ _)⟩
        · intro x wx ox hN TT HTT
          have r55 : x 7 = (.string (⟨kw.toArray⟩ ++ ⟨#[32]⟩ ++ ⟨n.toArray⟩ ++ ⟨#[32]⟩)) := hN.1 rfl
          have r59 : x 11 = (.string ⟨kr.toArray⟩) := hN.2.1 rfl
          clear hN
          unfold StepTo
          simp only [putAll, Act.put, List.setIfInBounds_toArray, List.set_cons_succ, List.set_cons_zero, r55, r59]
          clear r55 r59
          go_wp2_with fail
          exact ⟨rfl, _, rfl, HTT.out _ _ (rfl) (Only.refl _ _)⟩
        · intro x wx ox hN TT HTT
          have r60 : x 12 = (.string (⟨kw.toArray⟩ ++ ⟨#[32]⟩ ++ ⟨n.toArray⟩ ++ ⟨#[32]⟩ ++ ⟨kr.toArray⟩)) := hN.1 rfl
          clear hN
          unfold StepTo
          simp only [putAll, Act.put, List.setIfInBounds_toArray, List.set_cons_succ, List.set_cons_zero, r60]
          clear r60
          have HT := Lib.hid (HD.out wx)
          go_wp2_with fail
          refine HT.out.mono ?_
          rintro e w6 ⟨a, c, rfl, h6, o6⟩
          have H6 := Lib.hid (CellAt.weaken (G' := fun _ => True) (fun _ _ _ => trivial) _ _ h6); have O6 := Lib.hid o6
          clear h6 o6
          go_wp2_with fail
          exact ⟨rfl, _, rfl, HTT.out _ _ (⟨a, c, rfl, H6.out⟩) (O6.out)⟩
        · intro x wx ox hN TT HTT
          have r61 : (fun (v : Value) (w1 : World) => ∃ (a : Option Addr) (c : Nat), v = .tuple #[.slice a 1 c, .int .i64 0, .int .i64 0] ∧ CellAt w1 (fun _ => True) (.row 4 [tdC D0]) (.slice a 1 c)) (x 13) wx := hN.1 rfl
          clear hN
          unfold StepTo
          simp only [putAll, Act.put, List.setIfInBounds_toArray, List.set_cons_succ, List.set_cons_zero]
          obtain ⟨a, c, e1, h1⟩ := r61
          have H1 := Lib.hid h1
          rw [e1]; clear e1 h1
          go_wp2_with fail
          exact ⟨rfl, _, rfl, HTT.out _ _ (⟨a, c, rfl, H1.out⟩) (Only.refl _ _)⟩
        · intro x wx ox hN TT HTT
          have r47 : (fun (v : Value) (w1 : World) => ∃ (a : Option Addr) (c : Nat), v = .tuple #[.slice a 1 c, .int .i64 0, .int .i64 0] ∧ CellAt w1 (fun _ => True) (.row 4 [tdC D0]) (.slice a 1 c)) (x 14) wx := hN.1 rfl
          clear hN
          unfold StepTo
          simp only [putAll, Act.put, List.setIfInBounds_toArray, List.set_cons_succ, List.set_cons_zero]
          obtain ⟨a, c, e1, h1⟩ := r47
          have H1 := Lib.hid h1
          rw [e1]; clear e1 h1
          go_wp2_with fail
          exact ⟨rfl, _, rfl, HTT.out _ _ (⟨a, c, rfl, H1.out⟩) (Only.refl _ _)⟩
        · intro x wx ox hN TT HTT
          have r47 : (fun (v : Value) (w1 : World) => ∃ (a : Option Addr) (c : Nat), v = .tuple #[.slice a 1 c, .int .i64 0, .int .i64 0] ∧ CellAt w1 (fun _ => True) (.row 4 [tdC D0]) (.slice a 1 c)) (x 14) wx := hN.1 rfl
          clear hN
          unfold StepTo
          simp only [putAll, Act.put, List.setIfInBounds_toArray, List.set_cons_succ, List.set_cons_zero]
          obtain ⟨a, c, e1, h1⟩ := r47
          rw [e1]; clear e1 h1
          go_wp2_with fail
          exact ⟨rfl, _, rfl, HTT.out _ _ (rfl) (Only.refl _ _)⟩
        · intro x wx ox hN TT HTT
          have r47 : (fun (v : Value) (w1 : World) => ∃ (a : Option Addr) (c : Nat), v = .tuple #[.slice a 1 c, .int .i64 0, .int .i64 0] ∧ CellAt w1 (fun _ => True) (.row 4 [tdC D0]) (.slice a 1 c)) (x 14) wx := hN.1 rfl
          clear hN
          unfold StepTo
          simp only [putAll, Act.put, List.setIfInBounds_toArray, List.set_cons_succ, List.set_cons_zero]
          obtain ⟨a, c, e1, h1⟩ := r47
          rw [e1]; clear e1 h1
          go_wp2_with fail
          exact ⟨rfl, _, rfl, HTT.out _ _ (rfl) (Only.refl _ _)⟩
        · intro x wx ox hN TT HTT
          have r62 : (fun (v : Value) (w1 : World) => ∃ (a : Option Addr) (c : Nat), v = .slice a 1 c ∧ CellAt w1 (fun _ => True) (.row 4 [tdC D0]) (.slice a 1 c)) (x 15) wx := hN.1 rfl
          have r61 : (fun (v : Value) (w1 : World) => ∃ (a : Option Addr) (c : Nat), v = .tuple #[.slice a 1 c, .int .i64 0, .int .i64 0] ∧ CellAt w1 (fun _ => True) (.row 4 [tdC D0]) (.slice a 1 c)) (x 13) wx := hN.2.1 rfl
          have r48 : x 0 = (.slice (some ⟨gA, 0, none⟩) 6 6) := hN.2.2.1 rfl
          have r49 : x 1 = (.int .i64 (i : Int)) := hN.2.2.2.1 rfl
          have r50 : x 2 = (.pointer (some ⟨gA, i, none⟩)) := hN.2.2.2.2.1 rfl
          have r51 : x 3 = (.string ⟨kw.toArray⟩) := hN.2.2.2.2.2.1 rfl
          have r52 : x 4 = (.string (⟨kw.toArray⟩ ++ ⟨#[32]⟩)) := hN.2.2.2.2.2.2.1 rfl
          have r53 : x 5 = (.string ⟨n.toArray⟩) := hN.2.2.2.2.2.2.2.1 rfl
          have r54 : x 6 = (.string (⟨kw.toArray⟩ ++ ⟨#[32]⟩ ++ ⟨n.toArray⟩)) := hN.2.2.2.2.2.2.2.2.1 rfl
          have r55 : x 7 = (.string (⟨kw.toArray⟩ ++ ⟨#[32]⟩ ++ ⟨n.toArray⟩ ++ ⟨#[32]⟩)) := hN.2.2.2.2.2.2.2.2.2.1 rfl
          have r56 : x 8 = (.slice (some ⟨gA + 1, 0, none⟩) 6 6) := hN.2.2.2.2.2.2.2.2.2.2.1 rfl
          have r57 : x 9 = (.int .i64 (i : Int)) := hN.2.2.2.2.2.2.2.2.2.2.2.1 rfl
          have r58 : x 10 = (.pointer (some ⟨gA + 1, i, none⟩)) := hN.2.2.2.2.2.2.2.2.2.2.2.2.1 rfl
          have r59 : x 11 = (.string ⟨kr.toArray⟩) := hN.2.2.2.2.2.2.2.2.2.2.2.2.2.1 rfl
          have r60 : x 12 = (.string (⟨kw.toArray⟩ ++ ⟨#[32]⟩ ++ ⟨n.toArray⟩ ++ ⟨#[32]⟩ ++ ⟨kr.toArray⟩)) := hN.2.2.2.2.2.2.2.2.2.2.2.2.2.2.1 rfl
          have r47 : (fun (v : Value) (w1 : World) => ∃ (a : Option Addr) (c : Nat), v = .tuple #[.slice a 1 c, .int .i64 0, .int .i64 0] ∧ CellAt w1 (fun _ => True) (.row 4 [tdC D0]) (.slice a 1 c)) (x 14) wx := hN.2.2.2.2.2.2.2.2.2.2.2.2.2.2.2.2.1 rfl
          clear hN
          unfold StepTo
          simp only [putAll, Act.put, List.setIfInBounds_toArray, List.set_cons_succ, List.set_cons_zero, r48, r49, r50, r51, r52, r53, r54, r55, r56, r57, r58, r59, r60]
          clear r48 r49 r50 r51 r52 r53 r54 r55 r56 r57 r58 r59 r60
          obtain ⟨a, c, e1, h1⟩ := r62
          have H1 := Lib.hid h1
          rw [e1]; clear e1 h1
          go_wp2_with fail
          exact ⟨rfl, _, rfl, HTT.out _ _ (⟨a, c, rfl, H1.out⟩) (Only.refl _ _)⟩
        · intro x wx ox hN TT HTT
          have r63 : x 16 = (.int .i64 0) := hN.1 rfl
          have r10 : (fun (v : Value) (w1 : World) => ∃ (a : Option Addr) (c : Nat), v = .slice a 1 c ∧ CellAt w1 (fun _ => True) (.row 4 [tdC D0]) (.slice a 1 c)) (x 18) wx := hN.2.1 rfl
          have r48 : x 0 = (.slice (some ⟨gA, 0, none⟩) 6 6) := hN.2.2.1 rfl
          have r49 : x 1 = (.int .i64 (i : Int)) := hN.2.2.2.1 rfl
          have r50 : x 2 = (.pointer (some ⟨gA, i, none⟩)) := hN.2.2.2.2.1 rfl
          have r51 : x 3 = (.string ⟨kw.toArray⟩) := hN.2.2.2.2.2.1 rfl
          have r52 : x 4 = (.string (⟨kw.toArray⟩ ++ ⟨#[32]⟩)) := hN.2.2.2.2.2.2.1 rfl
          have r53 : x 5 = (.string ⟨n.toArray⟩) := hN.2.2.2.2.2.2.2.1 rfl
          have r54 : x 6 = (.string (⟨kw.toArray⟩ ++ ⟨#[32]⟩ ++ ⟨n.toArray⟩)) := hN.2.2.2.2.2.2.2.2.1 rfl
          have r55 : x 7 = (.string (⟨kw.toArray⟩ ++ ⟨#[32]⟩ ++ ⟨n.toArray⟩ ++ ⟨#[32]⟩)) := hN.2.2.2.2.2.2.2.2.2.1 rfl
          have r56 : x 8 = (.slice (some ⟨gA + 1, 0, none⟩) 6 6) := hN.2.2.2.2.2.2.2.2.2.2.1 rfl
          have r57 : x 9 = (.int .i64 (i : Int)) := hN.2.2.2.2.2.2.2.2.2.2.2.1 rfl
          have r58 : x 10 = (.pointer (some ⟨gA + 1, i, none⟩)) := hN.2.2.2.2.2.2.2.2.2.2.2.2.1 rfl
          have r59 : x 11 = (.string ⟨kr.toArray⟩) := hN.2.2.2.2.2.2.2.2.2.2.2.2.2.1 rfl
          have r60 : x 12 = (.string (⟨kw.toArray⟩ ++ ⟨#[32]⟩ ++ ⟨n.toArray⟩ ++ ⟨#[32]⟩ ++ ⟨kr.toArray⟩)) := hN.2.2.2.2.2.2.2.2.2.2.2.2.2.2.1 rfl
          have r61 : (fun (v : Value) (w1 : World) => ∃ (a : Option Addr) (c : Nat), v = .tuple #[.slice a 1 c, .int .i64 0, .int .i64 0] ∧ CellAt w1 (fun _ => True) (.row 4 [tdC D0]) (.slice a 1 c)) (x 13) wx := hN.2.2.2.2.2.2.2.2.2.2.2.2.2.2.2.1 rfl
          have r47 : (fun (v : Value) (w1 : World) => ∃ (a : Option Addr) (c : Nat), v = .tuple #[.slice a 1 c, .int .i64 0, .int .i64 0] ∧ CellAt w1 (fun _ => True) (.row 4 [tdC D0]) (.slice a 1 c)) (x 14) wx := hN.2.2.2.2.2.2.2.2.2.2.2.2.2.2.2.2.1 rfl
          have r62 : (fun (v : Value) (w1 : World) => ∃ (a : Option Addr) (c : Nat), v = .slice a 1 c ∧ CellAt w1 (fun _ => True) (.row 4 [tdC D0]) (.slice a 1 c)) (x 15) wx := hN.2.2.2.2.2.2.2.2.2.2.2.2.2.2.2.2.2.1 rfl
          clear hN
          unfold StepTo
          simp only [putAll, Act.put, List.setIfInBounds_toArray, List.set_cons_succ, List.set_cons_zero, r63, r48, r49, r50, r51, r52, r53, r54, r55, r56, r57, r58, r59, r60]
          clear r63 r48 r49 r50 r51 r52 r53 r54 r55 r56 r57 r58 r59 r60
          go_wp2_with fail
          exact ⟨rfl, _, rfl, HTT.out _ _ (rfl) (Only.refl _ _)⟩
        intro xz wxz oxz hN
        have r48 : xz 0 = (.slice (some ⟨gA, 0, none⟩) 6 6) := hN.1
        have r49 : xz 1 = (.int .i64 (i : Int)) := hN.2.1
        have r50 : xz 2 = (.pointer (some ⟨gA, i, none⟩)) := hN.2.2.1
        have r51 : xz 3 = (.string ⟨kw.toArray⟩) := hN.2.2.2.1
        have r52 : xz 4 = (.string (⟨kw.toArray⟩ ++ ⟨#[32]⟩)) := hN.2.2.2.2.1
        have r53 : xz 5 = (.string ⟨n.toArray⟩) := hN.2.2.2.2.2.1
        have r54 : xz 6 = (.string (⟨kw.toArray⟩ ++ ⟨#[32]⟩ ++ ⟨n.toArray⟩)) := hN.2.2.2.2.2.2.1
        have r55 : xz 7 = (.string (⟨kw.toArray⟩ ++ ⟨#[32]⟩ ++ ⟨n.toArray⟩ ++ ⟨#[32]⟩)) := hN.2.2.2.2.2.2.2.1
        have r56 : xz 8 = (.slice (some ⟨gA + 1, 0, none⟩) 6 6) := hN.2.2.2.2.2.2.2.2.1
        have r57 : xz 9 = (.int .i64 (i : Int)) := hN.2.2.2.2.2.2.2.2.2.1
        have r58 : xz 10 = (.pointer (some ⟨gA + 1, i, none⟩)) := hN.2.2.2.2.2.2.2.2.2.2.1
        have r59 : xz 11 = (.string ⟨kr.toArray⟩) := hN.2.2.2.2.2.2.2.2.2.2.2.1
        have r60 : xz 12 = (.string (⟨kw.toArray⟩ ++ ⟨#[32]⟩ ++ ⟨n.toArray⟩ ++ ⟨#[32]⟩ ++ ⟨kr.toArray⟩)) := hN.2.2.2.2.2.2.2.2.2.2.2.2.1
        have r61 : (fun (v : Value) (w1 : World) => ∃ (a : Option Addr) (c : Nat), v = .tuple #[.slice a 1 c, .int .i64 0, .int .i64 0] ∧ CellAt w1 (fun _ => True) (.row 4 [tdC D0]) (.slice a 1 c)) (xz 13) wxz := hN.2.2.2.2.2.2.2.2.2.2.2.2.2.1
        have r47 : (fun (v : Value) (w1 : World) => ∃ (a : Option Addr) (c : Nat), v = .tuple #[.slice a 1 c, .int .i64 0, .int .i64 0] ∧ CellAt w1 (fun _ => True) (.row 4 [tdC D0]) (.slice a 1 c)) (xz 14) wxz := hN.2.2.2.2.2.2.2.2.2.2.2.2.2.2.1
        have r62 : (fun (v : Value) (w1 : World) => ∃ (a : Option Addr) (c : Nat), v = .slice a 1 c ∧ CellAt w1 (fun _ => True) (.row 4 [tdC D0]) (.slice a 1 c)) (xz 15) wxz := hN.2.2.2.2.2.2.2.2.2.2.2.2.2.2.2.1
        have r63 : xz 16 = (.int .i64 0) := hN.2.2.2.2.2.2.2.2.2.2.2.2.2.2.2.2.1
        have r64 : xz 17 = (.int .i64 0) := hN.2.2.2.2.2.2.2.2.2.2.2.2.2.2.2.2.2.1
        have r10 : (fun (v : Value) (w1 : World) => ∃ (a : Option Addr) (c : Nat), v = .slice a 1 c ∧ CellAt w1 (fun _ => True) (.row 4 [tdC D0]) (.slice a 1 c)) (xz 18) wxz := hN.2.2.2.2.2.2.2.2.2.2.2.2.2.2.2.2.2.2.1
        have r11 : xz 19 = (.int .i64 0) := hN.2.2.2.2.2.2.2.2.2.2.2.2.2.2.2.2.2.2.2.1
        clear hN
        simp only [putAll, Act.put, List.setIfInBounds_toArray, List.set_cons_succ, List.set_cons_zero, r48, r49, r50, r51, r52, r53, r54, r55, r56, r57, r58, r59, r60, r63, r64, r11]
        clear r48 r49 r50 r51 r52 r53 r54 r55 r56 r57 r58 r59 r60 r63 r64 r11
        have OZ := Lib.hid (HOB.out.trans ((Only.refl _ wB).drew.trans oxz)); clear oxz
        obtain ⟨a1, c1, e1, h1⟩ := r10
        rw [e1]
        obtain ⟨b1, f1, d1, vs, e, hm1, hm2, -, hr1, hc1⟩ := row_at h1 0 (by simp)
        injection e with e2 e3 e4; subst e2; subst e4; clear e3
        have hc1 : CellsAt _ _ (tdC D0) vs := hc1
        obtain ⟨fv, nv, rfl, -, -⟩ := td_cells hc1
        have p1 : wxz.cell? ⟨b1, f1, none⟩ = some (.int .u8 ((i : Int) + 1)) := by have := hr1 0 _ rfl; rw [HD1.out] at this; simpa using this
        have p2 : wxz.cell? ⟨b1, f1 + 1, none⟩ = some (.string ⟨n.toArray⟩) := by have := hr1 1 _ rfl; rw [HD2.out] at this; simpa using this
        have hm1 : 1 ≤ c1 := hm1
        have hi5' : (i : Int) < 5 := by omega
        have t5 : ((i : Int) == 5) = false := by simp; omega
        clear r61 r47 r62 hr1 hc1 h1 e1
        go_wp2_with fail
        clear p1 p2
        go_ret
        exact ⟨rfl, OZ.out.below (Nat.le_refl _) (fun _ _ h => h)⟩
end Go.Proofs.YtgephneppgcnlaaDoor
