/- For every way and every number of a path, the law HideNone returns true: of what lies in nothing, or in a file, White and Clear tell the error, and nothing is hidden. No condition. -/
import Derived.Test.YtjmdmpfekoinbaaGreatHideNoneC0
import Derived.Test.YtjmdmpfekoinbaaGreatHideNoneC1
import Derived.Test.YtjmdmpfekoinbaaGreatHideNoneC2
import Derived.Test.YtjmdmpfekoinbaaGreatHideNoneC3
import Derived.Test.YtjmdmpfekoinbaaGreatEnd
import Derived.Test.YtjmdmpfekoinbaaGreatHideNoneFacts
import Derived.WalkKit
import Derived.ProofKit
import Derived.OpenShut
import Derived.ChangeMaps5
namespace Go.Proofs.YtjmdmpfekoinbaaGreat.hideNone
open Go.ChangeShapes Go.WideShapes Go.ChangeAt Go.RowKit
set_option linter.unusedVariables false
theorem own : ownKnob Tryz.prog.godebug = none := by kernel_rfl
theorem out0 (a0 : Int) (a1 : Int) (h0 : a0 < 1) (w : World) : Calls Tryz.prog 5 #[.int .i64 a0, .int .i64 a1] w fun e w' => e = .returned (.bool true) ∧ Grown w w' := by
  go_enter Tryz.func5, Tryz.ntmps5
  go_wp2
  all_goals go_ret
  all_goals exact ⟨rfl, by repeat (first | exact Grown.refl _ | apply Grown.drew | apply Grown.alloc)⟩
theorem out1 (a0 : Int) (a1 : Int) (h0 : ¬ a0 < 1) (h1 : 3 < a0) (w : World) : Calls Tryz.prog 5 #[.int .i64 a0, .int .i64 a1] w fun e w' => e = .returned (.bool true) ∧ Grown w w' := by
  go_enter Tryz.func5, Tryz.ntmps5
  go_wp2
  all_goals go_ret
  all_goals exact ⟨rfl, by repeat (first | exact Grown.refl _ | apply Grown.drew | apply Grown.alloc)⟩
theorem out2 (a0 : Int) (a1 : Int) (h0 : ¬ a0 < 1) (h1 : ¬ 3 < a0) (h2 : a1 < 0) (w : World) : Calls Tryz.prog 5 #[.int .i64 a0, .int .i64 a1] w fun e w' => e = .returned (.bool true) ∧ Grown w w' := by
  go_enter Tryz.func5, Tryz.ntmps5
  go_wp2
  all_goals go_ret
  all_goals exact ⟨rfl, by repeat (first | exact Grown.refl _ | apply Grown.drew | apply Grown.alloc)⟩
theorem out3 (a0 : Int) (a1 : Int) (h0 : ¬ a0 < 1) (h1 : ¬ 3 < a0) (h2 : ¬ a1 < 0) (h3 : 4 ≤ a1) (w : World) : Calls Tryz.prog 5 #[.int .i64 a0, .int .i64 a1] w fun e w' => e = .returned (.bool true) ∧ Grown w w' := by
  go_enter Tryz.func5, Tryz.ntmps5
  go_wp2
  all_goals go_ret
  all_goals exact ⟨rfl, by repeat (first | exact Grown.refl _ | apply Grown.drew | apply Grown.alloc)⟩
theorem walk (a0 : Int) (a1 : Int) (w : World) : Calls Tryz.prog 5 #[.int .i64 a0, .int .i64 a1] w fun e w' => e = .returned (.bool true) ∧ Stays w w' := by
  by_cases h0 : a0 < 1
  · exact (out0 a0 a1 h0 w).mono fun e w' h => ⟨h.1, .of_grown h.2⟩
  by_cases h1 : 3 < a0
  · exact (out1 a0 a1 h0 h1 w).mono fun e w' h => ⟨h.1, .of_grown h.2⟩
  by_cases h2 : a1 < 0
  · exact (out2 a0 a1 h0 h1 h2 w).mono fun e w' h => ⟨h.1, .of_grown h.2⟩
  by_cases h3 : 4 ≤ a1
  · exact (out3 a0 a1 h0 h1 h2 h3 w).mono fun e w' h => ⟨h.1, .of_grown h.2⟩
  have e0 : a0 = 1 ∨ a0 = 2 ∨ a0 = 3 := by omega
  have e1 : a1 = 0 ∨ a1 = 1 ∨ a1 = 2 ∨ a1 = 3 := by omega
  rcases e0 with rfl | rfl | rfl
  · rcases e1 with rfl | rfl | rfl | rfl
    · exact calls_stays (E := L17.env2) (n := 100000) (f := 5) (args := [.sc (.int .i64 (.ofNat 1)), .sc (.int .i64 (.ofNat 0))]) (us := [.int .i64 (.ofNat 1), .int .i64 (.ofNat 0)]) rfl L17.env2_ok L17.env2_ovr (fun φ => .cons rfl (.cons rfl .nil)) L17.HideNone_1_0 w
    · exact calls_stays (E := L17.env2) (n := 100000) (f := 5) (args := [.sc (.int .i64 (.ofNat 1)), .sc (.int .i64 (.ofNat 1))]) (us := [.int .i64 (.ofNat 1), .int .i64 (.ofNat 1)]) rfl L17.env2_ok L17.env2_ovr (fun φ => .cons rfl (.cons rfl .nil)) L17.HideNone_1_1 w
    · exact calls_stays (E := L17.env2) (n := 100000) (f := 5) (args := [.sc (.int .i64 (.ofNat 1)), .sc (.int .i64 (.ofNat 2))]) (us := [.int .i64 (.ofNat 1), .int .i64 (.ofNat 2)]) rfl L17.env2_ok L17.env2_ovr (fun φ => .cons rfl (.cons rfl .nil)) L17.HideNone_1_2 w
    · exact calls_stays (E := L17.env2) (n := 100000) (f := 5) (args := [.sc (.int .i64 (.ofNat 1)), .sc (.int .i64 (.ofNat 3))]) (us := [.int .i64 (.ofNat 1), .int .i64 (.ofNat 3)]) rfl L17.env2_ok L17.env2_ovr (fun φ => .cons rfl (.cons rfl .nil)) L17.HideNone_1_3 w
  · rcases e1 with rfl | rfl | rfl | rfl
    · exact calls_stays (E := L17.env2) (n := 100000) (f := 5) (args := [.sc (.int .i64 (.ofNat 2)), .sc (.int .i64 (.ofNat 0))]) (us := [.int .i64 (.ofNat 2), .int .i64 (.ofNat 0)]) rfl L17.env2_ok L17.env2_ovr (fun φ => .cons rfl (.cons rfl .nil)) L17.HideNone_2_0 w
    · exact calls_stays (E := L17.env2) (n := 100000) (f := 5) (args := [.sc (.int .i64 (.ofNat 2)), .sc (.int .i64 (.ofNat 1))]) (us := [.int .i64 (.ofNat 2), .int .i64 (.ofNat 1)]) rfl L17.env2_ok L17.env2_ovr (fun φ => .cons rfl (.cons rfl .nil)) L17.HideNone_2_1 w
    · exact calls_stays (E := L17.env2) (n := 100000) (f := 5) (args := [.sc (.int .i64 (.ofNat 2)), .sc (.int .i64 (.ofNat 2))]) (us := [.int .i64 (.ofNat 2), .int .i64 (.ofNat 2)]) rfl L17.env2_ok L17.env2_ovr (fun φ => .cons rfl (.cons rfl .nil)) L17.HideNone_2_2 w
    · exact calls_stays (E := L17.env2) (n := 100000) (f := 5) (args := [.sc (.int .i64 (.ofNat 2)), .sc (.int .i64 (.ofNat 3))]) (us := [.int .i64 (.ofNat 2), .int .i64 (.ofNat 3)]) rfl L17.env2_ok L17.env2_ovr (fun φ => .cons rfl (.cons rfl .nil)) L17.HideNone_2_3 w
  · rcases e1 with rfl | rfl | rfl | rfl
    · exact calls_stays (E := L17.env2) (n := 100000) (f := 5) (args := [.sc (.int .i64 (.ofNat 3)), .sc (.int .i64 (.ofNat 0))]) (us := [.int .i64 (.ofNat 3), .int .i64 (.ofNat 0)]) rfl L17.env2_ok L17.env2_ovr (fun φ => .cons rfl (.cons rfl .nil)) L17.HideNone_3_0 w
    · exact calls_stays (E := L17.env2) (n := 100000) (f := 5) (args := [.sc (.int .i64 (.ofNat 3)), .sc (.int .i64 (.ofNat 1))]) (us := [.int .i64 (.ofNat 3), .int .i64 (.ofNat 1)]) rfl L17.env2_ok L17.env2_ovr (fun φ => .cons rfl (.cons rfl .nil)) L17.HideNone_3_1 w
    · exact calls_stays (E := L17.env2) (n := 100000) (f := 5) (args := [.sc (.int .i64 (.ofNat 3)), .sc (.int .i64 (.ofNat 2))]) (us := [.int .i64 (.ofNat 3), .int .i64 (.ofNat 2)]) rfl L17.env2_ok L17.env2_ovr (fun φ => .cons rfl (.cons rfl .nil)) L17.HideNone_3_2 w
    · exact calls_stays (E := L17.env2) (n := 100000) (f := 5) (args := [.sc (.int .i64 (.ofNat 3)), .sc (.int .i64 (.ofNat 3))]) (us := [.int .i64 (.ofNat 3), .int .i64 (.ofNat 3)]) rfl L17.env2_ok L17.env2_ovr (fun φ => .cons rfl (.cons rfl .nil)) L17.HideNone_3_3 w
set_option maxRecDepth 100000 in
theorem lifted (os : Os) (started : os.Started) (H : Type) (enc : TypeId × Value → H) :
    ReturnsInHanded {} Tryz.checked os 5 .any (Rows.hideNoneSpec.pre6 enc Tryz.prog Tryz.f5 Rows.hideNoneRow.domain false) (Rows.hideNoneSpec.post enc Tryz.prog Tryz.f5 false true false false) := by
  refine returnsInHanded_of_change (C := Tryz.checked) own started (by kernel_rfl) Tryz.func5
    (ChangeSpec.witness6 (enc := enc) (C := Tryz.checked) false ⟨#[], #[.int .i64 0, .int .i64 0], []⟩ 8 (by kernel_rfl) (by kernel_rfl) (by kernel_rfl) (by kernel_rfl)) ?_
  intro W base args ds gs before hval0 hW hcnd _
  have hval : ∀ (j : Nat) t v, Tryz.f5.params[j]? = some t → args[j]? = some v → Value.okWide Tryz.prog W .any base t v := hval0
  have hW' := hW
  obtain ⟨p, q, hA0, hV, rfl, hfz, hnd⟩ := hW
  have hA : DataW.TrodAll enc Tryz.prog W 0 (fun _ => true) true Tryz.f5.params.toList args.toList ds p := hA0
  rw [Tryz.params5] at hA hval
  obtain ⟨v0, vs0, d0, ds0, p0, q0, hargs, rfl, rfl, h0, r0⟩ := trodAll_cons hA
  obtain ⟨v1, vs1, d1, ds1, p1, q1, rfl, rfl, rfl, h1, r1⟩ := trodAll_cons r0
  obtain ⟨rfl, rfl, rfl⟩ := trodAll_nil r1
  obtain rfl : args = #[v0, v1] := by cases args; simp_all
  obtain ⟨rfl, rfl⟩ := trodVars_none hV
  obtain ⟨a0, rfl, rfl, rfl, w0⟩ := open_int Tryz.underlying3 (hval 0 3 v0 rfl rfl) h0
  obtain ⟨a1, rfl, rfl, rfl, w1⟩ := open_int Tryz.underlying3 (hval 1 3 v1 rfl rfl) h1
  clear hA0 hval0
  simp only [List.append_nil] at hW'
  refine (walk a0 a1 W).mono fun e W' ⟨he, hg⟩ => ?_
  subst he
  exact ⟨_, rfl, post_stays (pa := []) (pv := []) hW' (fun _ _ _ => (trodAll_cons_mk (shut_bool Tryz.underlying4 _) trodAll_mk0)) (fun sp _ => (trodAll_cons_mk (shut_int Tryz.underlying3 w0) (trodAll_cons_mk (shut_int Tryz.underlying3 w1) trodAll_mk0))) (fun _ _ => rfl) rfl hg (ok_one (by kernel_rfl) rfl (okWide_bool_mk Tryz.underlying4 _))⟩
set_option maxRecDepth 100000 in
theorem facts : joinedFacts Tryz.prog 5 Tryz.f5 Rows.hideNoneSpec Rows.hideNoneRow = true :=
  @joined_of Tryz.prog 5 Tryz.f5 Rows.hideNoneSpec Rows.hideNoneRow fact1 fact2 fact3 fact4 fact5 fact6 fact7 fact8 fact9 fact10 fact11 fact12 fact13 fact14 fact15 fact16 fact17 fact18 fact19 fact20 fact21 fact22 fact23 fact24 fact25 fact26 fact27 fact28 fact29 fact30 fact31 fact32
theorem over : Rows.hideNoneRow.holds Tryz.pinned (OpenSpec.ofChange Rows.hideNoneSpec) :=
  OpenClaim.holds_of_wide 5 Tryz.f5 rfl rfl rfl rfl rfl rfl rfl ⟨rfl, rfl, rfl, rfl, rfl⟩ rfl rfl rfl rfl rfl (by kernel_rfl) Tryz.func5 facts
    (of_decide_eq_true (by kernel_rfl)) (by unfold Func.isWrapper; first | (rw [if_pos (by decide +kernel)]; kernel_rfl) | (rw [if_neg (by decide +kernel)]; exact ⟨rfl, rfl⟩))
    (fun os started H enc _ => lifted os started H enc)
theorem proved : Rows.HideNoneSaid := over
end Go.Proofs.YtjmdmpfekoinbaaGreat.hideNone
