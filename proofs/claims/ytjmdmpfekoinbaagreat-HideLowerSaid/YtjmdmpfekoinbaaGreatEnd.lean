/- What the abstract machine says is true, the Go call returns, and all memory that there was stays. No condition. -/
import Derived.Test.YtjmdmpfekoinbaaGreatEnv
import Derived.WalkKit
import Derived.ProofKit
import Derived.OpenShut
import Derived.Deep.Onto
namespace Go.Proofs.YtjmdmpfekoinbaaGreat
open Go.ChangeShapes Go.WideShapes Go.RowKit
/-- all that there was stays -/
def Stays (W W' : World) : Prop := (∀ may, W.keptBut W' may) ∧ ∀ a : Addr, a.block < W.heap.size → W'.frozen? a = W.frozen? a
theorem Stays.of_grown {W W' : World} (h : Grown W W') : Stays W W' := ⟨fun may => h.frame may, fun a _ => h.2.1 a⟩
theorem calls_stays {E : AMK.Env} (hP : E.P = Tryz.prog) (hE : E.Ok) (hO : AMK.OvrOk E) {n f : Nat} {args : List AMK.V} {us : List Value} (hus : ∀ φ, AMK.All2 (AMK.VR φ) args us) (q : AMK.isTrue ((AMK.big E n).call f args AMK.H.empty) = true) (w : World) :
    Calls Tryz.prog f us.toArray w fun e w' => e = .returned (.bool true) ∧ Stays w w' := by
  rw [← hP]
  refine Calls.mono (AMK.calls_true hE hO hus q w) fun e w' h => ?_
  obtain ⟨h1, h2, h3, h4, h5, h6⟩ := h
  exact ⟨h1, fun may => (World.keptBut_refl w may).congr h2 h4 h6, fun a ha => World.frozen?_of_block (h6 a.block ha)⟩
theorem bytes_of {s : ByteArray} {l : List UInt8} {m : List Nat} (h : (s.toList == l) = true) (e : l.map (·.toNat) = m) : AMK.bytesOf s = m := by
  have h1 := eq_of_beq h
  rw [AMK.toList_data] at h1
  unfold AMK.bytesOf
  rw [h1, e]
theorem post_stays {H : Type} {enc : TypeId × Value → H} {P : Program} {f : Func} {s : ChangeSpec} {apart fresh handsOn again : Bool} {W W' : World} {args : Array Value} {v : Value} {ds gs : List (DataW H)} {before pa pv : List MemPlace}
    (hW : DataW.Whole enc P f.params.toList s.vars apart W args.toList ds gs before)
    (hres : ∀ (b : Nat) (sp : Nat → Bool) (hd : Bool), DataW.TrodAll enc P W' b sp hd f.resultTypes.toList (v.resultList f.resultTypes.size) (s.fn H (ds ++ gs)).results [])
    (hargs : ∀ sp : Nat → Bool, (∀ p ∈ before, sp p.block = true) → DataW.TrodAll enc P W' 0 sp true f.params.toList args.toList (s.fn H (ds ++ gs)).args pa)
    (hvars : ∀ sp : Nat → Bool, (∀ p ∈ before, sp p.block = true) → DataW.TrodVars enc P W' sp s.vars (s.fn H (ds ++ gs)).vars pv)
    (hps : before = pa ++ pv) (hs : Stays W W')
    (hok : ∀ (j : Nat) (t : TypeId) (r : Value), f.resultTypes[j]? = some t → (v.resultList f.resultTypes.size)[j]? = some r → Value.okWide P W' .any 0 t r) :
    s.post enc P f apart fresh handsOn again W args v W' := by
  have hold : ∀ p ∈ before, (fun b => decide (b < W.heap.size)) p.block = true := fun p hp => by simpa using hW.lt p hp
  have hlt : ∀ p ∈ before, p.block < W.heap.size := fun p hp => hW.lt p hp
  refine ⟨ds, gs, before, [], pa, pv, hW, hres _ _ _, hargs _ hold, hvars _ hold, World.keptBut_mono (fun p hp => ⟨hp, ?_⟩) (hs.1 (· ∈ before)), fun _ => ?_⟩
  · rw [hps, List.mem_append] at hp
    exact Or.inr hp
  · obtain ⟨_, _, _, _, _, hz, hn⟩ := hW
    refine ⟨hok, _, _, ([] ++ pa) ++ pv, ⟨[] ++ pa, pv, trodAll_append (hargs _ (fun _ _ => rfl)) (hres _ _ _), hvars _ (fun _ _ => rfl), rfl, ?_, ?_⟩, ?_⟩
    · intro b off hp
      have hp' : MemPlace.cell b off ∈ before := by rw [hps]; simpa using hp
      rw [hs.2 ⟨b, off, none⟩ (hlt _ hp')]
      exact hz b off hp'
    · intro ha
      have := hn ha
      rw [hps] at this
      simpa using this
    · intro p hp _
      rw [hps]
      simpa using hp
end Go.Proofs.YtjmdmpfekoinbaaGreat
