/- For every way and every name, the law HideTwice returns true: hidden twice is hidden once; cleared once it is seen again; where nothing is hidden nothing is cleared. No condition. -/
import Derived.Test.YtjmdmpfekoinbaaGreatHideTwiceC0
import Derived.Test.YtjmdmpfekoinbaaGreatHideTwiceC1
import Derived.Test.YtjmdmpfekoinbaaGreatHideTwiceC2
import Derived.Test.YtjmdmpfekoinbaaGreatEnd
import Derived.Test.YtjmdmpfekoinbaaGreatHideTwiceFacts
import Derived.WalkKit
import Derived.ProofKit
import Derived.OpenShut
import Derived.ChangeMaps5
namespace Go.Proofs.YtjmdmpfekoinbaaGreat.hideTwice
open Go.ChangeShapes Go.WideShapes Go.ChangeAt Go.RowKit
set_option linter.unusedVariables false
theorem own : ownKnob Tryz.prog.godebug = none := by kernel_rfl
theorem out0 (a0 : Int) (s1 : ByteArray) (h0 : a0 < 1) (w : World) : Calls Tryz.prog 7 #[.int .i64 a0, .string s1] w fun e w' => e = .returned (.bool true) ∧ Grown w w' := by
  go_enter Tryz.func7, Tryz.ntmps7
  go_wp2
  all_goals go_ret
  all_goals exact ⟨rfl, by repeat (first | exact Grown.refl _ | apply Grown.drew | apply Grown.alloc)⟩
theorem out1 (a0 : Int) (s1 : ByteArray) (h0 : ¬ a0 < 1) (h1 : 3 < a0) (w : World) : Calls Tryz.prog 7 #[.int .i64 a0, .string s1] w fun e w' => e = .returned (.bool true) ∧ Grown w w' := by
  go_enter Tryz.func7, Tryz.ntmps7
  go_wp2
  all_goals go_ret
  all_goals exact ⟨rfl, by repeat (first | exact Grown.refl _ | apply Grown.drew | apply Grown.alloc)⟩
theorem out2 (a0 : Int) (s1 : ByteArray) (h0 : ¬ a0 < 1) (h1 : ¬ 3 < a0) (g0 : (s1.toList == [102]) = false) (g1 : (s1.toList == [100]) = false) (g2 : (s1.toList == [115]) = false) (w : World) : Calls Tryz.prog 7 #[.int .i64 a0, .string s1] w fun e w' => e = .returned (.bool true) ∧ Grown w w' := by
  go_enter Tryz.func7, Tryz.ntmps7
  go_wp2
  all_goals go_ret
  all_goals exact ⟨rfl, by repeat (first | exact Grown.refl _ | apply Grown.drew | apply Grown.alloc)⟩
theorem walk (a0 : Int) (s1 : ByteArray) (w : World) : Calls Tryz.prog 7 #[.int .i64 a0, .string s1] w fun e w' => e = .returned (.bool true) ∧ Stays w w' := by
  by_cases h0 : a0 < 1
  · exact (out0 a0 s1 h0 w).mono fun e w' h => ⟨h.1, .of_grown h.2⟩
  by_cases h1 : 3 < a0
  · exact (out1 a0 s1 h0 h1 w).mono fun e w' h => ⟨h.1, .of_grown h.2⟩
  have e0 : a0 = 1 ∨ a0 = 2 ∨ a0 = 3 := by omega
  cases g0 : (s1.toList == [102])
  case true =>
    have b1 : AMK.bytesOf s1 = [102] := bytes_of g0 rfl
    rcases e0 with rfl | rfl | rfl
    · exact calls_stays (E := L17.env2) (n := 100000) (f := 7) (args := [.sc (.int .i64 (.ofNat 1)), .sc (.str [102])]) (us := [.int .i64 (.ofNat 1), .string s1]) rfl L17.env2_ok L17.env2_ovr (fun φ => .cons rfl (.cons ⟨s1, rfl, b1⟩ .nil)) L17.HideTwice_1_f w
    · exact calls_stays (E := L17.env2) (n := 100000) (f := 7) (args := [.sc (.int .i64 (.ofNat 2)), .sc (.str [102])]) (us := [.int .i64 (.ofNat 2), .string s1]) rfl L17.env2_ok L17.env2_ovr (fun φ => .cons rfl (.cons ⟨s1, rfl, b1⟩ .nil)) L17.HideTwice_2_f w
    · exact calls_stays (E := L17.env2) (n := 100000) (f := 7) (args := [.sc (.int .i64 (.ofNat 3)), .sc (.str [102])]) (us := [.int .i64 (.ofNat 3), .string s1]) rfl L17.env2_ok L17.env2_ovr (fun φ => .cons rfl (.cons ⟨s1, rfl, b1⟩ .nil)) L17.HideTwice_3_f w
  cases g1 : (s1.toList == [100])
  case true =>
    have b1 : AMK.bytesOf s1 = [100] := bytes_of g1 rfl
    rcases e0 with rfl | rfl | rfl
    · exact calls_stays (E := L17.env2) (n := 100000) (f := 7) (args := [.sc (.int .i64 (.ofNat 1)), .sc (.str [100])]) (us := [.int .i64 (.ofNat 1), .string s1]) rfl L17.env2_ok L17.env2_ovr (fun φ => .cons rfl (.cons ⟨s1, rfl, b1⟩ .nil)) L17.HideTwice_1_d w
    · exact calls_stays (E := L17.env2) (n := 100000) (f := 7) (args := [.sc (.int .i64 (.ofNat 2)), .sc (.str [100])]) (us := [.int .i64 (.ofNat 2), .string s1]) rfl L17.env2_ok L17.env2_ovr (fun φ => .cons rfl (.cons ⟨s1, rfl, b1⟩ .nil)) L17.HideTwice_2_d w
    · exact calls_stays (E := L17.env2) (n := 100000) (f := 7) (args := [.sc (.int .i64 (.ofNat 3)), .sc (.str [100])]) (us := [.int .i64 (.ofNat 3), .string s1]) rfl L17.env2_ok L17.env2_ovr (fun φ => .cons rfl (.cons ⟨s1, rfl, b1⟩ .nil)) L17.HideTwice_3_d w
  cases g2 : (s1.toList == [115])
  case true =>
    have b1 : AMK.bytesOf s1 = [115] := bytes_of g2 rfl
    rcases e0 with rfl | rfl | rfl
    · exact calls_stays (E := L17.env2) (n := 100000) (f := 7) (args := [.sc (.int .i64 (.ofNat 1)), .sc (.str [115])]) (us := [.int .i64 (.ofNat 1), .string s1]) rfl L17.env2_ok L17.env2_ovr (fun φ => .cons rfl (.cons ⟨s1, rfl, b1⟩ .nil)) L17.HideTwice_1_s w
    · exact calls_stays (E := L17.env2) (n := 100000) (f := 7) (args := [.sc (.int .i64 (.ofNat 2)), .sc (.str [115])]) (us := [.int .i64 (.ofNat 2), .string s1]) rfl L17.env2_ok L17.env2_ovr (fun φ => .cons rfl (.cons ⟨s1, rfl, b1⟩ .nil)) L17.HideTwice_2_s w
    · exact calls_stays (E := L17.env2) (n := 100000) (f := 7) (args := [.sc (.int .i64 (.ofNat 3)), .sc (.str [115])]) (us := [.int .i64 (.ofNat 3), .string s1]) rfl L17.env2_ok L17.env2_ovr (fun φ => .cons rfl (.cons ⟨s1, rfl, b1⟩ .nil)) L17.HideTwice_3_s w
  exact (out2 a0 s1 h0 h1 g0 g1 g2 w).mono fun e w' h => ⟨h.1, .of_grown h.2⟩
set_option maxRecDepth 100000 in
theorem lifted (os : Os) (started : os.Started) (H : Type) (enc : TypeId × Value → H) :
    ReturnsInHanded {} Tryz.checked os 7 .any (Rows.hideTwiceSpec.pre6 enc Tryz.prog Tryz.f7 Rows.hideTwiceRow.domain false) (Rows.hideTwiceSpec.post enc Tryz.prog Tryz.f7 false true false false) := by
  refine returnsInHanded_of_change (C := Tryz.checked) own started (by kernel_rfl) Tryz.func7
    (ChangeSpec.witness6 (enc := enc) (C := Tryz.checked) false ⟨#[], #[.int .i64 0, .string .empty], []⟩ 8 (by kernel_rfl) (by kernel_rfl) (by kernel_rfl) (by kernel_rfl)) ?_
  intro W base args ds gs before hval0 hW hcnd _
  have hval : ∀ (j : Nat) t v, Tryz.f7.params[j]? = some t → args[j]? = some v → Value.okWide Tryz.prog W .any base t v := hval0
  have hW' := hW
  obtain ⟨p, q, hA0, hV, rfl, hfz, hnd⟩ := hW
  have hA : DataW.TrodAll enc Tryz.prog W 0 (fun _ => true) true Tryz.f7.params.toList args.toList ds p := hA0
  rw [Tryz.params7] at hA hval
  obtain ⟨v0, vs0, d0, ds0, p0, q0, hargs, rfl, rfl, h0, r0⟩ := trodAll_cons hA
  obtain ⟨v1, vs1, d1, ds1, p1, q1, rfl, rfl, rfl, h1, r1⟩ := trodAll_cons r0
  obtain ⟨rfl, rfl, rfl⟩ := trodAll_nil r1
  obtain rfl : args = #[v0, v1] := by cases args; simp_all
  obtain ⟨rfl, rfl⟩ := trodVars_none hV
  obtain ⟨a0, rfl, rfl, rfl, w0⟩ := open_int Tryz.underlying3 (hval 0 3 v0 rfl rfl) h0
  obtain ⟨s1, rfl, rfl, rfl, w1⟩ := Go.ChangeMaps.open_string Tryz.underlying9 (hval 1 9 v1 rfl rfl) h1
  clear hA0 hval0
  simp only [List.append_nil] at hW'
  refine (walk a0 s1 W).mono fun e W' ⟨he, hg⟩ => ?_
  subst he
  exact ⟨_, rfl, post_stays (pa := []) (pv := []) hW' (fun _ _ _ => (trodAll_cons_mk (shut_bool Tryz.underlying4 _) trodAll_mk0)) (fun sp _ => (trodAll_cons_mk (shut_int Tryz.underlying3 w0) (trodAll_cons_mk (Go.ChangeMaps.shut_string Tryz.underlying9 w1) trodAll_mk0))) (fun _ _ => rfl) rfl hg (ok_one (by kernel_rfl) rfl (okWide_bool_mk Tryz.underlying4 _))⟩
set_option maxRecDepth 100000 in
theorem facts : joinedFacts Tryz.prog 7 Tryz.f7 Rows.hideTwiceSpec Rows.hideTwiceRow = true :=
  @joined_of Tryz.prog 7 Tryz.f7 Rows.hideTwiceSpec Rows.hideTwiceRow fact1 fact2 fact3 fact4 fact5 fact6 fact7 fact8 fact9 fact10 fact11 fact12 fact13 fact14 fact15 fact16 fact17 fact18 fact19 fact20 fact21 fact22 fact23 fact24 fact25 fact26 fact27 fact28 fact29 fact30 fact31 fact32
theorem over : Rows.hideTwiceRow.holds Tryz.pinned (OpenSpec.ofChange Rows.hideTwiceSpec) :=
  OpenClaim.holds_of_wide 7 Tryz.f7 rfl rfl rfl rfl rfl rfl rfl ⟨rfl, rfl, rfl, rfl, rfl⟩ rfl rfl rfl rfl rfl (by kernel_rfl) Tryz.func7 facts
    (of_decide_eq_true (by kernel_rfl)) (by unfold Func.isWrapper; first | (rw [if_pos (by decide +kernel)]; kernel_rfl) | (rw [if_neg (by decide +kernel)]; exact ⟨rfl, rfl⟩))
    (fun os started H enc _ => lifted os started H enc)
theorem proved : Rows.HideTwiceSaid := over
end Go.Proofs.YtjmdmpfekoinbaaGreat.hideTwice
