/- The program, as the abstract machine takes it; the structs that it compares. No condition. -/
import Derived.Test.YtjmdmpfekoinbaaGreatAmE
import Derived.Test.YtjmdmpfekoinbaaGreatProg
import Derived.KernelRfl
namespace Go.Proofs.YtjmdmpfekoinbaaGreat
open AMK
/-- the program, as the machine takes it -/
noncomputable def env : AMK.Env := ⟨Tryz.prog, fun t => if t = 58 then some [0, 0] else if t = 75 then some [0, 0, 0] else if t = 213 then some [2, 0] else none, fun _ => none⟩
theorem mixed : Tryz.prog.follows .mixedOrders = true := by kernel_rfl
theorem guard58 : Tryz.prog.eqGuardType Tryz.prog.depth 58 = false := by kernel_rfl
theorem guard75 : Tryz.prog.eqGuardType Tryz.prog.depth 75 = false := by kernel_rfl
theorem guard213 : Tryz.prog.eqGuardType Tryz.prog.depth 213 = false := by kernel_rfl
theorem stood58 : Tryz.prog.stoodInHeld 58 = false := by kernel_rfl
theorem stood75 : Tryz.prog.stoodInHeld 75 = false := by kernel_rfl
theorem stood213 : Tryz.prog.stoodInHeld 213 = false := by kernel_rfl
theorem info58 : (Tryz.prog.info? 58).map (·.size) = some 2 := by kernel_rfl
theorem eq58 : EqTOk Tryz.prog 58 [0, 0] := two_ok guard58 Tryz.underlying58 stood58 (by decide) (by decide) rfl rfl (.inl ⟨rfl, _, Tryz.underlying3⟩) (.inl ⟨rfl, _, Tryz.underlying2⟩)
theorem eq213 : EqTOk Tryz.prog 213 [2, 0] := two_ok guard213 Tryz.underlying213 stood213 (by decide) (by decide) rfl rfl (.inr (.inr ⟨rfl, Tryz.underlying9⟩)) (.inl ⟨rfl, _, Tryz.underlying2⟩)
theorem eq75 : EqTOk Tryz.prog 75 [0, 0, 0] := by
  cases hi : Tryz.prog.info? 58 with
  | none =>
    have := info58
    rw [hi] at this
    cases this
  | some i =>
    have hs : i.size = 2 := by
      have := info58
      rw [hi] at this
      exact Option.some.inj this
    exact row_ok guard75 Tryz.underlying75 stood75 (by decide) (by decide) rfl rfl rfl (.inl ⟨rfl, _, Tryz.underlying2⟩) Tryz.underlying58 hi hs stood58 (by decide) (by decide) rfl rfl (.inl ⟨rfl, _, Tryz.underlying3⟩) (.inl ⟨rfl, _, Tryz.underlying2⟩)
theorem env_ok : env.Ok := by
  refine ⟨fun t ks h => ?_, mixed⟩
  replace h : (if t = 58 then some [0, 0] else if t = 75 then some [0, 0, 0] else if t = 213 then some [2, 0] else none) = some ks := h
  split at h
  · rename_i e; subst e; cases h; exact eq58
  · split at h
    · rename_i e; subst e; cases h; exact eq75
    · split at h
      · rename_i e; subst e; cases h; exact eq213
      · cases h
theorem env_bare : OvrOk env := ⟨fun f k hk => (by cases hk), fun f k hk => (by cases hk)⟩
end Go.Proofs.YtjmdmpfekoinbaaGreat
