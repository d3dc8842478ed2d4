/- One operation of the abstract machine is one operation of the Go code. No condition. -/
import Derived.Orders
import Derived.Test.YtjmdmpfekoinbaaGreatAmB
set_option linter.unusedVariables false
namespace Go.Proofs.YtjmdmpfekoinbaaGreat.AMK
open Go

/-! ### one operation, whichever -/
/-- the operands' values -/
def OpsR (φ : Phi) (nt : Nat) (sl : Slots) (ρ : Operand → Value) (xs : Array Operand) : Prop := ∀ x, x ∈ xs.toList → ∀ g, operC nt x = some g → VR φ (g.v sl) (ρ x)
def ReadsN (P : Program) (φ : Phi) (g : Id → Blk) (w : World) (m : Sem Next) (v : V) : Prop := ∃ u w', m.run P w = .ok (.value u) w' ∧ VR φ v u ∧ Calm φ g w w'
def AllotsN (P : Program) (φ : Phi) (h : H) (w : World) (m : Sem Next) (v : V) (h' : H) : Prop :=
  (∃ blk, Grew h h' blk ∧ (φ h.next = none → ∃ l u w', m.run P w = .ok (.value u) w' ∧ Fresh w w' ∧ l.b = w.heap.size ∧ BR (upd φ h.next l) w' l blk ∧ VR (upd φ h.next l) v u)) ∨
  (h' = h ∧ ∃ u w', m.run P w = .ok (.value u) w' ∧ Fresh w w' ∧ VR φ v u)
def ActsN (P : Program) (φ : Phi) (h : H) (w : World) (m : Sem Next) (v : V) (h' : H) : Prop :=
  ∃ u w' φ', (m.run P w = .ok (.value u) w' ∨ (m.run P w = .ok .skip w' ∧ u = Go.undef)) ∧ Step φ h w φ' h' w' ∧ VR φ' v u
def valN (m : Sem Value) : Sem Next := do pure (.value (← m))
def skipN (m : Sem Unit) : Sem Next := do m; pure .skip
section
variable {P : Program}
theorem run_valN {m : Sem Value} {w w' : World} {u : Value} (h : m.run P w = .ok u w') : (valN m).run P w = .ok (.value u) w' := by
  unfold valN
  rw [Sem.run_bind, h]
  rfl
theorem run_skipN {m : Sem Unit} {w w' : World} (h : m.run P w = .ok () w') : (skipN m).run P w = .ok .skip w' := by
  unfold skipN
  rw [Sem.run_bind, h]
  rfl
theorem Reads.n {φ : Phi} {g : Id → Blk} {w : World} {m : Sem Value} {v : V} (h : Reads P φ g w m v) : ReadsN P φ g w (valN m) v := let ⟨u, w', h1, h2, h3⟩ := h; ⟨u, w', run_valN h1, h2, h3⟩
theorem Allots.n {φ : Phi} {h h' : H} {w : World} {m : Sem Value} {v : V} (a : Allots P φ h w m v h') : AllotsN P φ h w (valN m) v h' := by
  rcases a with ⟨blk, gr, a⟩ | ⟨rfl, u, w', h1, h2, h3⟩
  · exact .inl ⟨blk, gr, fun hn => let ⟨l, u, w', h1, h2⟩ := a hn; ⟨l, u, w', run_valN h1, h2⟩⟩
  · exact .inr ⟨rfl, u, w', run_valN h1, h2, h3⟩
theorem Yields.n {φ : Phi} {h h' : H} {w : World} {m : Sem Value} {v : V} (a : Yields P φ h w m v h') : ActsN P φ h w (valN m) v h' := let ⟨u, w', φ', h1, h2, h3⟩ := a; ⟨u, w', φ', .inl (run_valN h1), h2, h3⟩
theorem Acts.n {φ : Phi} {h h' : H} {w : World} {m : Sem Unit} {v : V} (hv : v = .undef) (a : Acts P φ h w m h') : ActsN P φ h w (skipN m) v h' := let ⟨w', φ', h1, h2⟩ := a; ⟨Go.undef, w', φ', .inr ⟨run_skipN h1, rfl⟩, h2, hv ▸ VR.undef φ'⟩
theorem ReadsN.acts {φ : Phi} {h : H} {w : World} {m : Sem Next} {v : V} (hr : HR φ h.get w) (a : ReadsN P φ h.get w m v) : ActsN P φ h w m v h := let ⟨u, w', h1, h2, h3⟩ := a; ⟨u, w', φ, .inl h1, h3.step hr, h2⟩
theorem AllotsN.acts {φ : Phi} {h h' : H} {w : World} {m : Sem Next} {v : V} (hr : HR φ h.get w) (hf : Free φ h h') (a : AllotsN P φ h w m v h') : ActsN P φ h w m v h' := by
  rcases a with ⟨blk, gr, a⟩ | ⟨rfl, u, w', h1, h2, h3⟩
  · have hn := hf h.next (Nat.le_refl _) (by rw [gr.1]; omega)
    obtain ⟨l, u, w', h1, h2, h3, h4, h5⟩ := a hn
    exact ⟨u, w', _, .inl h1, Step.fresh hr hn gr h2 h3 h4, h5⟩
  · exact ⟨u, w', φ, .inl h1, Step.blank hr h2, h3⟩
end
theorem opt1_some {x : Option G} {f : G → Dyn} {d : Dyn} (h : opt1 x f = some d) : ∃ g, x = some g ∧ d = f g := by
  cases x with
  | none => cases h
  | some g => cases h; exact ⟨g, rfl, rfl⟩
theorem optC_some {nt : Nat} {x : Option Operand} {og : Option G} (h : optC nt x = some og) : (x = none ∧ og = none) ∨ ∃ y g, x = some y ∧ og = some g ∧ operC nt y = some g := by
  cases x with
  | none => cases h; exact .inl ⟨rfl, rfl⟩
  | some y =>
    unfold optC at h
    dsimp only at h
    split at h
    · rename_i g hg
      cases h
      exact .inr ⟨y, g, rfl, rfl, hg⟩
    · cases h
theorem bnd_r {φ : Phi} {nt : Nat} {sl : Slots} {ρ : Operand → Value} {x : Option Operand} {og : Option G} (ho : optC nt x = some og) (hρ : ∀ y, x = some y → ∀ g, operC nt y = some g → VR φ (g.v sl) (ρ y)) {β : Type} {no r : β} {k : Option Nat → β} (h : bnd og sl no k = r) (hn : no ≠ r) :
    ∃ b, BndR b (x.map ρ) ∧ k b = r ∧ b.isSome = x.isSome := by
  rcases optC_some ho with ⟨rfl, rfl⟩ | ⟨y, g, rfl, rfl, hg⟩
  · rcases bnd_yes h hn with ⟨_, h1⟩ | ⟨g, kk, n, h1, _⟩
    · exact ⟨none, .inl ⟨rfl, rfl⟩, h1, rfl⟩
    · cases h1
  · rcases bnd_yes h hn with ⟨h0, _⟩ | ⟨g', kk, n, h1, h2, h3⟩
    · cases h0
    · cases h1
      have hv := hρ y rfl g hg
      rw [h2] at hv
      exact ⟨some n, .inr ⟨kk, n, rfl, congrArg some hv⟩, h3, rfl⟩
theorem gets_all {nt : Nat} : ∀ {xs : List Operand} {gs : List G}, gets (xs.map (operC nt)) = some gs → All2 (fun g x => operC nt x = some g) gs xs
  | [], gs, h => by cases h; exact .nil
  | x :: xs, gs, h => by
    rw [List.map_cons] at h
    cases hx : operC nt x with
    | none => rw [hx] at h; cases h
    | some g =>
      rw [hx] at h
      unfold gets at h
      split at h
      · rename_i r hr
        cases h
        exact .cons hx (gets_all hr)
      · cases h
theorem evals_eq (sl : Slots) : ∀ gs : List G, (evals gs).v sl = gs.map (·.v sl)
  | [] => rfl
  | g :: gs => by
    show g.v sl :: (evals gs).v sl = _
    rw [evals_eq sl gs]
    rfl
theorem args_ok {φ : Phi} {nt : Nat} {sl : Slots} {ρ : Operand → Value} {xs : List Operand} {gs : List G} (h : gets (xs.map (operC nt)) = some gs) (hρ : ∀ x ∈ xs, ∀ g, operC nt x = some g → VR φ (g.v sl) (ρ x)) : All2 (VR φ) ((evals gs).v sl) (xs.map ρ) := by
  rw [evals_eq]
  have h1 := gets_all h
  clear h
  induction h1 with
  | nil => exact .nil
  | @cons g x gs xs hg ht ih => exact .cons (hρ x (List.mem_cons_self ..) g hg) (ih fun x hx => hρ x (List.mem_cons_of_mem _ hx))
theorem arr_of_list {α : Type} {a : Array α} {l : List α} (h : a.toList = l) : a = l.toArray := by rw [← h]
theorem parts_ok {φ : Phi} {nt : Nat} {sl : Slots} {ρ : Operand → Value} (parts : Array (Nat × Operand)) (hρ : ∀ x, x ∈ (parts.toList.map (·.2)).toArray.toList → ∀ g, operC nt x = some g → VR φ (g.v sl) (ρ x)) :
    All2 (fun (p : Nat × Option G) (q : Nat × Value) => p.1 = q.1 ∧ ∀ g, p.2 = some g → VR φ (g.v sl) q.2) (parts.toList.map fun (i, x) => (i, operC nt x)) (parts.map fun (i, x) => (i, ρ x)).toList := by
  rw [Array.toList_map]
  simp only at hρ
  generalize parts.toList = l at hρ
  induction l with
  | nil => exact .nil
  | cons p l ih =>
    obtain ⟨i, x⟩ := p
    refine .cons ⟨rfl, fun g hg => hρ x (by simp) g hg⟩ (ih fun x hx => hρ x ?_)
    simp only [List.map_cons, List.mem_cons]
    exact .inr hx
theorem one_arg {nt : Nat} {xs : Array Operand} {g : G} (h : gets (xs.toList.map (operC nt)) = some [g]) : ∃ x, xs = #[x] ∧ operC nt x = some g := by
  have h1 := gets_all h
  generalize hl : xs.toList = l at h1
  cases h1 with
  | cons hx ht =>
    cases ht
    exact ⟨_, arr_of_list hl, hx⟩
theorem two_args {nt : Nat} {xs : Array Operand} {g k : G} (h : gets (xs.toList.map (operC nt)) = some [g, k]) : ∃ x y, xs = #[x, y] ∧ operC nt x = some g ∧ operC nt y = some k := by
  have h1 := gets_all h
  generalize hl : xs.toList = l at h1
  cases h1 with
  | cons hx ht =>
    cases ht with
    | cons hy ht =>
      cases ht
      exact ⟨_, _, arr_of_list hl, hx, hy⟩
theorem bind_some' {α β : Type} {x : Option α} {f : α → Option β} {b : β} (h : x.bind f = some b) : ∃ a, x = some a ∧ f a = some b := by
  cases x with
  | none => cases h
  | some a => exact ⟨a, rfl, h⟩
/-- what a weak operation comes to -/
def WeakR (E : Env) (nt : Nat) (o : Oper) (φ : Phi) (sl : Slots) (h : H) (v : V) (h' : H) (ρ : Operand → Value) (w : World) : Prop :=
  (∀ g, HR φ g w → (∀ gop, loadOf nt o.op = some gop → ∀ x, refs (gop.v sl) x → g x = h.get x) → h' = h ∧ ReadsN E.P φ g w (execOp ρ o) v) ∨ AllotsN E.P φ h w (execOp ρ o) v h'
theorem WeakR.rd {E : Env} {nt : Nat} {o : Oper} {φ : Phi} {sl : Slots} {h : H} {v : V} {h' : H} {ρ : Operand → Value} {w : World} {m : Sem Value} (he : execOp ρ o = valN m)
    (hm : ∀ g, HR φ g w → (∀ gop, loadOf nt o.op = some gop → ∀ x, refs (gop.v sl) x → g x = h.get x) → h' = h ∧ Reads E.P φ g w m v) : WeakR E nt o φ sl h v h' ρ w := by
  refine .inl fun g h1 h2 => ?_
  obtain ⟨e1, e2⟩ := hm g h1 h2
  rw [he]
  exact ⟨e1, e2.n⟩
theorem WeakR.al {E : Env} {nt : Nat} {o : Oper} {φ : Phi} {sl : Slots} {h : H} {v : V} {h' : H} {ρ : Operand → Value} {w : World} {m : Sem Value} (he : execOp ρ o = valN m) (hm : Allots E.P φ h w m v h') : WeakR E nt o φ sl h v h' ρ w := by
  unfold WeakR
  rw [he]
  exact .inr hm.n
theorem weak_move {E : Env} (hE : E.Ok) {nt : Nat} {dst : Option Tmp} {ty : TypeId} {pos : String} {aft : Array Edge} {gd : Option (Nat × Bool)} {x : Operand} {d : Dyn} (hw : isStrong (.move x : Op) = false) (hd : opC E nt (.move x : Op) = some d) {φ : Phi} {sl : Slots} {h h' : H} {v : V} {ρ : Operand → Value} (hρ : OpsR φ nt sl ρ (.move x : Op).operands) (q : d.v sl h = .yes v h') (w : World) :
    WeakR E nt ⟨dst, .move x, ty, pos, aft, gd⟩ φ sl h v h' ρ w := by
  obtain ⟨g, hg, rfl⟩ := opt1_some hd
  obtain ⟨rfl, rfl⟩ := yes_inj q
  exact WeakR.rd (m := pure (ρ x)) rfl fun k _ _ => ⟨rfl, Reads.pure rfl (hρ x (by simp [Op.operands]) g hg)⟩
theorem weak_assign {E : Env} (hE : E.Ok) {nt : Nat} {dst : Option Tmp} {ty : TypeId} {pos : String} {aft : Array Edge} {gd : Option (Nat × Bool)} {x : Operand} {d : Dyn} (hw : isStrong (.assign x : Op) = false) (hd : opC E nt (.assign x : Op) = some d) {φ : Phi} {sl : Slots} {h h' : H} {v : V} {ρ : Operand → Value} (hρ : OpsR φ nt sl ρ (.assign x : Op).operands) (q : d.v sl h = .yes v h') (w : World) :
    WeakR E nt ⟨dst, .assign x, ty, pos, aft, gd⟩ φ sl h v h' ρ w := by
  obtain ⟨g, hg, rfl⟩ := opt1_some hd
  obtain ⟨rfl, rfl⟩ := yes_inj q
  exact WeakR.rd (m := pure (ρ x)) rfl fun k _ _ => ⟨rfl, Reads.pure rfl (hρ x (by simp [Op.operands]) g hg)⟩
theorem weak_pick {E : Env} (hE : E.Ok) {nt : Nat} {dst : Option Tmp} {ty : TypeId} {pos : String} {aft : Array Edge} {gd : Option (Nat × Bool)} {c a b : Operand} {d : Dyn} (hw : isStrong (.pick c a b : Op) = false) (hd : opC E nt (.pick c a b : Op) = some d) {φ : Phi} {sl : Slots} {h h' : H} {v : V} {ρ : Operand → Value} (hρ : OpsR φ nt sl ρ (.pick c a b : Op).operands) (q : d.v sl h = .yes v h') (w : World) :
    WeakR E nt ⟨dst, .pick c a b, ty, pos, aft, gd⟩ φ sl h v h' ρ w := by
  unfold opC at hd
  dsimp only at hd
  split at hd
  · rename_i gc ga gb hc ha hb
    cases hd
    obtain ⟨t, ht, q1⟩ := onBool_yes q noYes
    obtain ⟨rfl, rfl⟩ := yes_inj q1
    have h1 := hρ c (by simp [Op.operands]) _ hc
    rw [ht] at h1
    have h2 := hρ a (by simp [Op.operands]) _ ha
    have h3 := hρ b (by simp [Op.operands]) _ hb
    refine .inl fun k _ _ => ⟨rfl, if t then ρ a else ρ b, w, ?_, ?_, Calm.refl _ _ _⟩
    · simp only [execOp]
      rw [show ρ c = .bool t from h1]
      rfl
    · cases t
      · exact h3
      · exact h2
  · cases hd
theorem weak_alloc {E : Env} (hE : E.Ok) {nt : Nat} {dst : Option Tmp} {ty : TypeId} {pos : String} {aft : Array Edge} {gd : Option (Nat × Bool)} {t : TypeId} {d : Dyn} (hw : isStrong (.alloc t : Op) = false) (hd : opC E nt (.alloc t : Op) = some d) {φ : Phi} {sl : Slots} {h h' : H} {v : V} {ρ : Operand → Value} (hρ : OpsR φ nt sl ρ (.alloc t : Op).operands) (q : d.v sl h = .yes v h') (w : World) :
    WeakR E nt ⟨dst, .alloc t, ty, pos, aft, gd⟩ φ sl h v h' ρ w := by
  unfold opC at hd
  dsimp only at hd
  split at hd
  · rename_i z n hz hn
    cases hd
    exact WeakR.al rfl (new_ok hz hn q)
  · cases hd
theorem weak_box {E : Env} (hE : E.Ok) {nt : Nat} {dst : Option Tmp} {ty : TypeId} {pos : String} {aft : Array Edge} {gd : Option (Nat × Bool)} {t : TypeId} {x : Operand} {d : Dyn} (hw : isStrong (.box t x : Op) = false) (hd : opC E nt (.box t x : Op) = some d) {φ : Phi} {sl : Slots} {h h' : H} {v : V} {ρ : Operand → Value} (hρ : OpsR φ nt sl ρ (.box t x : Op).operands) (q : d.v sl h = .yes v h') (w : World) :
    WeakR E nt ⟨dst, .box t x, ty, pos, aft, gd⟩ φ sl h v h' ρ w := by
  unfold opC at hd
  dsimp only at hd
  split at hd
  · rename_i n hn
    obtain ⟨g, hg, rfl⟩ := opt1_some hd
    exact WeakR.al rfl (box_ok hn (hρ x (by simp [Op.operands]) _ hg) q)
  · cases hd
theorem weak_build {E : Env} (hE : E.Ok) {nt : Nat} {dst : Option Tmp} {ty : TypeId} {pos : String} {aft : Array Edge} {gd : Option (Nat × Bool)} {t : TypeId} {parts : Array (Nat × Operand)} {d : Dyn} (hw : isStrong (.build t parts : Op) = false) (hd : opC E nt (.build t parts : Op) = some d) {φ : Phi} {sl : Slots} {h h' : H} {v : V} {ρ : Operand → Value} (hρ : OpsR φ nt sl ρ (.build t parts : Op).operands) (q : d.v sl h = .yes v h') (w : World) :
    WeakR E nt ⟨dst, .build t parts, ty, pos, aft, gd⟩ φ sl h v h' ρ w := by
  unfold opC at hd
  dsimp only at hd
  split at hd
  · rename_i fs z hu hz
    split at hd
    · rename_i places hp
      split at hd
      · rename_i l hl
        cases hd
        exact WeakR.rd (m := Instr.build t (parts.map fun (i, x) => (i, ρ x))) rfl fun k _ _ => build_ok hu hz hp hl (parts_ok parts hρ) q
      · cases hd
    · cases hd
  · cases hd
theorem weak_buildSlice {E : Env} (hE : E.Ok) {nt : Nat} {dst : Option Tmp} {ty : TypeId} {pos : String} {aft : Array Edge} {gd : Option (Nat × Bool)} {t : TypeId} {n : Nat} {parts : Array (Nat × Operand)} {d : Dyn} (hw : isStrong (.buildSlice t n parts : Op) = false) (hd : opC E nt (.buildSlice t n parts : Op) = some d) {φ : Phi} {sl : Slots} {h h' : H} {v : V} {ρ : Operand → Value} (hρ : OpsR φ nt sl ρ (.buildSlice t n parts : Op).operands) (q : d.v sl h = .yes v h') (w : World) :
    WeakR E nt ⟨dst, .buildSlice t n parts, ty, pos, aft, gd⟩ φ sl h v h' ρ w := by
  unfold opC at hd
  dsimp only at hd
  split at hd
  · rename_i e hu
    split at hd
    · rename_i size z hn hz
      split at hd
      · rename_i f hf
        split at hd
        · rename_i hsm
          cases hd
          exact WeakR.al (m := Instr.buildSlice t n (parts.map fun (i, x) => (i, ρ x))) (by rfl) (buildSl_ok hu hz hn hf (parts_ok parts hρ) q hsm)
        · cases hd
      · cases hd
    · cases hd
  · cases hd
theorem weak_load {E : Env} (hE : E.Ok) {nt : Nat} {dst : Option Tmp} {ty : TypeId} {pos : String} {aft : Array Edge} {gd : Option (Nat × Bool)} {t : TypeId} {a : Operand} {d : Dyn} (hw : isStrong (.load t a : Op) = false) (hd : opC E nt (.load t a : Op) = some d) {φ : Phi} {sl : Slots} {h h' : H} {v : V} {ρ : Operand → Value} (hρ : OpsR φ nt sl ρ (.load t a : Op).operands) (q : d.v sl h = .yes v h') (w : World) :
    WeakR E nt ⟨dst, .load t a, ty, pos, aft, gd⟩ φ sl h v h' ρ w := by
  unfold opC at hd
  dsimp only at hd
  split at hd
  · rename_i ha
    split at hd
    · rename_i n hn
      obtain ⟨g, hg, rfl⟩ := opt1_some hd
      exact WeakR.rd (m := Instr.loadAt t (ρ a)) rfl fun k hr hk => load_ok hr ha hn (hk g hg) (hρ a (by simp [Op.operands]) _ hg) q
    · cases hd
  · rename_i ha
    obtain ⟨g, hg, rfl⟩ := opt1_some hd
    exact WeakR.rd (m := Instr.loadAt t (ρ a)) rfl fun k hr hk => load1_ok hr ha (hk g hg) (hρ a (by simp [Op.operands]) _ hg) q
  · cases hd
theorem weak_nilCheck {E : Env} (hE : E.Ok) {nt : Nat} {dst : Option Tmp} {ty : TypeId} {pos : String} {aft : Array Edge} {gd : Option (Nat × Bool)} {x : Operand} {d : Dyn} (hw : isStrong (.nilCheck x : Op) = false) (hd : opC E nt (.nilCheck x : Op) = some d) {φ : Phi} {sl : Slots} {h h' : H} {v : V} {ρ : Operand → Value} (hρ : OpsR φ nt sl ρ (.nilCheck x : Op).operands) (q : d.v sl h = .yes v h') (w : World) :
    WeakR E nt ⟨dst, .nilCheck x, ty, pos, aft, gd⟩ φ sl h v h' ρ w := by
  obtain ⟨g, hg, rfl⟩ := opt1_some hd
  obtain ⟨s, hs, q1⟩ := onSc_yes q noYes
  have hv := hρ x (by simp [Op.operands]) _ hg
  rw [hs] at hv
  left
  intro k hr hk
  cases s with
  | ptr y i f =>
    obtain ⟨rfl, rfl⟩ := yes_inj q1
    have hv' := hv
    obtain ⟨l, hl, he⟩ := hv'
    refine ⟨rfl, ρ x, w, ?_, hv, Calm.refl _ _ _⟩
    simp only [execOp]
    rw [he]
    rfl
  | fn f c =>
    obtain ⟨rfl, rfl⟩ := yes_inj q1
    have hv' := hv
    obtain ⟨l, hl, he⟩ := hv'
    refine ⟨rfl, ρ x, w, ?_, hv, Calm.refl _ _ _⟩
    simp only [execOp]
    rw [he]
    rfl
  | _ => cases q1
theorem weak_binOp {E : Env} (hE : E.Ok) {nt : Nat} {dst : Option Tmp} {ty : TypeId} {pos : String} {aft : Array Edge} {gd : Option (Nat × Bool)} {op : BinOp} {t : TypeId} {x y : Operand} {yt : TypeId} {d : Dyn} (hw : isStrong (.binOp op t x y yt : Op) = false) (hd : opC E nt (.binOp op t x y yt : Op) = some d) {φ : Phi} {sl : Slots} {h h' : H} {v : V} {ρ : Operand → Value} (hρ : OpsR φ nt sl ρ (.binOp op t x y yt : Op).operands) (q : d.v sl h = .yes v h') (w : World) :
    WeakR E nt ⟨dst, .binOp op t x y yt, ty, pos, aft, gd⟩ φ sl h v h' ρ w := by
  unfold opC at hd
  dsimp only at hd
  split at hd
  · rename_i gx gy f hx hy hf
    cases hd
    obtain ⟨q1, rfl⟩ := lift2_yes q
    refine WeakR.rd (m := do eqGuard op t x y (ρ x) (ρ y); Go.binOp op t (ρ x) (ρ y)) rfl fun k _ _ => ⟨rfl, ?_⟩
    obtain ⟨r, h1, h2⟩ := kBin_ok hf (hE.eqT t) q1 (hρ x (by simp [Op.operands]) _ hx) (hρ y (by simp [Op.operands]) _ hy) w
    exact Reads.pure (h1 x y) h2
  · cases hd
theorem weak_unOp {E : Env} (hE : E.Ok) {nt : Nat} {dst : Option Tmp} {ty : TypeId} {pos : String} {aft : Array Edge} {gd : Option (Nat × Bool)} {op : UnOp} {t : TypeId} {x : Operand} {d : Dyn} (hw : isStrong (.unOp op t x : Op) = false) (hd : opC E nt (.unOp op t x : Op) = some d) {φ : Phi} {sl : Slots} {h h' : H} {v : V} {ρ : Operand → Value} (hρ : OpsR φ nt sl ρ (.unOp op t x : Op).operands) (q : d.v sl h = .yes v h') (w : World) :
    WeakR E nt ⟨dst, .unOp op t x, ty, pos, aft, gd⟩ φ sl h v h' ρ w := by
  unfold opC at hd
  dsimp only at hd
  split at hd
  · obtain ⟨g, hg, rfl⟩ := opt1_some hd
    obtain ⟨q1, rfl⟩ := lift_yes q
    exact WeakR.rd (m := Op.unary .neg (ρ x)) rfl fun k _ _ => ⟨rfl, Reads.of (neg_ok (hρ x (by simp [Op.operands]) _ hg) q1 w)⟩
  · obtain ⟨g, hg, rfl⟩ := opt1_some hd
    obtain ⟨q1, rfl⟩ := lift_yes q
    exact WeakR.rd (m := Op.unary .not (ρ x)) rfl fun k _ _ => ⟨rfl, Reads.of (not_ok (hρ x (by simp [Op.operands]) _ hg) q1 w)⟩
  · cases hd
theorem weak_convert {E : Env} (hE : E.Ok) {nt : Nat} {dst : Option Tmp} {ty : TypeId} {pos : String} {aft : Array Edge} {gd : Option (Nat × Bool)} {src dt : TypeId} {x : Operand} {d : Dyn} (hw : isStrong (.convert src dt x : Op) = false) (hd : opC E nt (.convert src dt x : Op) = some d) {φ : Phi} {sl : Slots} {h h' : H} {v : V} {ρ : Operand → Value} (hρ : OpsR φ nt sl ρ (.convert src dt x : Op).operands) (q : d.v sl h = .yes v h') (w : World) :
    WeakR E nt ⟨dst, .convert src dt x, ty, pos, aft, gd⟩ φ sl h v h' ρ w := by
  unfold opC at hd
  dsimp only at hd
  split at hd
  · rename_i g hg
    have hv := hρ x (by simp [Op.operands]) _ hg
    unfold convC at hd
    split at hd
    · rename_i hs ht
      cases hd
      exact WeakR.rd (m := Go.convert src dt (ρ x)) rfl fun k _ _ => convInt_ok hs ht hv q
    · rename_i hs ht
      cases hd
      exact WeakR.rd (m := Go.convert src dt (ρ x)) rfl fun k _ _ => convStr_ok hs ht hv q
    · rename_i hs ht
      split at hd
      · rename_i he
        cases hd
        exact WeakR.rd (m := Go.convert src dt (ρ x)) rfl fun k hr hk => bytesStr_ok hr hs he ht (hk g hg) hv q
      · cases hd
    · rename_i e1 e2 hs ht
      split at hd
      · rename_i he
        split at hd
        · rename_i hst
          cases hd
          subst hst
          rw [hs] at ht
          cases ht
          exact WeakR.rd (m := Go.convert src src (ρ x)) rfl fun k hr hk => convBytes_ok (e' := e1) hr hs he (hk g hg) hv q
        · cases hd
      · cases hd
    · rename_i hs ht
      split at hd
      · rename_i he
        cases hd
        exact WeakR.al (m := Go.convert src dt (ρ x)) rfl (strBytes_ok hs ht he hv q)
      · cases hd
    · cases hd
  · cases hd
theorem weak_makeFunc {E : Env} (hE : E.Ok) {nt : Nat} {dst : Option Tmp} {ty : TypeId} {pos : String} {aft : Array Edge} {gd : Option (Nat × Bool)} {fn : Fn} {first caps : Array Operand} {d : Dyn} (hw : isStrong (.makeFunc fn first caps : Op) = false) (hd : opC E nt (.makeFunc fn first caps : Op) = some d) {φ : Phi} {sl : Slots} {h h' : H} {v : V} {ρ : Operand → Value} (hρ : OpsR φ nt sl ρ (.makeFunc fn first caps : Op).operands) (q : d.v sl h = .yes v h') (w : World) :
    WeakR E nt ⟨dst, .makeFunc fn first caps, ty, pos, aft, gd⟩ φ sl h v h' ρ w := by
  cases fn with
  | func f =>
    unfold opC at hd
    dsimp only at hd
    split at hd
    · rename_i h0
      split at hd
      · rename_i l hl
        cases hd
        obtain ⟨c, h1, q1⟩ := onO_yes q noYes
        obtain ⟨rfl, rfl⟩ := yes_inj q1
        have hall := args_ok (φ := φ) (sl := sl) (ρ := ρ) hl (fun x hx g hg => hρ x (by simp only [Op.operands, Array.toList_append, List.mem_append]; exact .inr hx) g hg)
        obtain ⟨cs, h2, h3⟩ := capsOf_ok h1 hall
        have hf0 : first = #[] := Array.size_eq_zero_iff.1 h0
        subst hf0
        refine WeakR.rd (m := Instr.makeFunc (.func f) (#[].map ρ) (caps.map ρ)) rfl fun k _ _ => ⟨rfl, Reads.pure (u := .func (.func f) #[] (caps.map ρ)) (by simp [Instr.makeFunc]) ⟨cs, h2, ?_⟩⟩
        congr 1
        apply Array.ext'
        rw [Array.toList_map, h3]
      · cases hd
    · cases hd
  | _ => cases hd
theorem weak_makeMap {E : Env} (hE : E.Ok) {nt : Nat} {dst : Option Tmp} {ty : TypeId} {pos : String} {aft : Array Edge} {gd : Option (Nat × Bool)} {t : TypeId} {r : Option Operand} {d : Dyn} (hw : isStrong (.makeMap t r : Op) = false) (hd : opC E nt (.makeMap t r : Op) = some d) {φ : Phi} {sl : Slots} {h h' : H} {v : V} {ρ : Operand → Value} (hρ : OpsR φ nt sl ρ (.makeMap t r : Op).operands) (q : d.v sl h = .yes v h') (w : World) :
    WeakR E nt ⟨dst, .makeMap t r, ty, pos, aft, gd⟩ φ sl h v h' ρ w := by
  cases r with
  | none =>
    cases hd
    exact WeakR.al (m := Instr.makeMap t none) rfl (makeMap_ok q)
  | some r => cases hd
theorem weak_makeSlice {E : Env} (hE : E.Ok) {nt : Nat} {dst : Option Tmp} {ty : TypeId} {pos : String} {aft : Array Edge} {gd : Option (Nat × Bool)} {t : TypeId} {l c : Operand} {d : Dyn} (hw : isStrong (.makeSlice t l c : Op) = false) (hd : opC E nt (.makeSlice t l c : Op) = some d) {φ : Phi} {sl : Slots} {h h' : H} {v : V} {ρ : Operand → Value} (hρ : OpsR φ nt sl ρ (.makeSlice t l c : Op).operands) (q : d.v sl h = .yes v h') (w : World) :
    WeakR E nt ⟨dst, .makeSlice t l c, ty, pos, aft, gd⟩ φ sl h v h' ρ w := by
  unfold opC at hd
  dsimp only at hd
  split at hd
  · rename_i e gl gc hu hl hc
    split at hd
    · rename_i z n hz hn
      cases hd
      exact WeakR.al (m := Instr.makeSlice t (ρ l) (ρ c)) rfl (make_ok hu hz hn (hρ l (by simp [Op.operands]) _ hl) (hρ c (by simp [Op.operands]) _ hc) q)
    · cases hd
  · cases hd
theorem weak_slice {E : Env} (hE : E.Ok) {nt : Nat} {dst : Option Tmp} {ty : TypeId} {pos : String} {aft : Array Edge} {gd : Option (Nat × Bool)} {t : TypeId} {x : Operand} {lo hi mx : Option Operand} {d : Dyn} (hw : isStrong (.slice t x lo hi mx : Op) = false) (hd : opC E nt (.slice t x lo hi mx : Op) = some d) {φ : Phi} {sl : Slots} {h h' : H} {v : V} {ρ : Operand → Value} (hρ : OpsR φ nt sl ρ (.slice t x lo hi mx : Op).operands) (q : d.v sl h = .yes v h') (w : World) :
    WeakR E nt ⟨dst, .slice t x lo hi mx, ty, pos, aft, gd⟩ φ sl h v h' ρ w := by
  unfold opC at hd
  dsimp only at hd
  split at hd
  · cases hd
  · rename_i hmx
    have hx0 : ∀ g, operC nt x = some g → VR φ (g.v sl) (ρ x) := hρ x (by simp [Op.operands])
    have hlo : ∀ y, lo = some y → ∀ g, operC nt y = some g → VR φ (g.v sl) (ρ y) := fun y hy => hρ y (by subst hy; simp [Op.operands])
    have hhi : ∀ y, hi = some y → ∀ g, operC nt y = some g → VR φ (g.v sl) (ρ y) := fun y hy => hρ y (by subst hy; simp [Op.operands])
    have hmx' : ∀ y, mx = some y → ∀ g, operC nt y = some g → VR φ (g.v sl) (ρ y) := fun y hy => hρ y (by subst hy; simp [Op.operands])
    split at hd
    · rename_i gx glo ghi hu hgx hglo hghi hgmx
      cases hd
      unfold dSliceStr at q
      dsimp only at q
      obtain ⟨blo, b1, q1, _⟩ := bnd_r hglo hlo q noYes
      obtain ⟨bhi, b2, q2, _⟩ := bnd_r hghi hhi q1 noYes
      have hmn : mx = none := by
        rcases optC_some hgmx with ⟨h1, _⟩ | ⟨y, g, _, h1, _⟩
        · exact h1
        · cases h1
      subst hmn
      exact WeakR.rd (m := Instr.sliceAt t (ρ x) (lo.map ρ) (hi.map ρ) none) rfl fun k _ _ => sliceStr_ok hu (hx0 gx hgx) b1 b2 q2
    · rename_i e gx glo ghi gmx hu hgx hglo hghi hgmx
      split at hd
      · rename_i size hn
        cases hd
        unfold dSlice at q
        dsimp only at q
        obtain ⟨blo, b1, q1, c1⟩ := bnd_r hglo hlo q noYes
        obtain ⟨bhi, b2, q2, c2⟩ := bnd_r hghi hhi q1 noYes
        obtain ⟨bmx, b3, q3, c3⟩ := bnd_r hgmx hmx' q2 noYes
        obtain ⟨s, hs, q4⟩ := onSc_yes q3 noYes
        obtain ⟨r, h1, q5⟩ := onO_yes q4 noYes
        obtain ⟨rfl, rfl⟩ := yes_inj q5
        refine WeakR.rd (m := Instr.sliceAt t (ρ x) (lo.map ρ) (hi.map ρ) (mx.map ρ)) rfl fun k hr hk => ⟨rfl, ?_⟩
        have hxv := hx0 gx hgx
        rw [hs] at hxv
        refine slice_ok hr hu hn (fun y hy => hk gx hgx y (by rw [hs]; exact hy)) hxv b1 b2 b3 (fun hm => ?_) h1
        rw [c2]
        rw [c3] at hm
        cases hi with
        | some y => rfl
        | none => simp [hm] at hmx
      · cases hd
    · cases hd
theorem weak_fieldAddr {E : Env} (hE : E.Ok) {nt : Nat} {dst : Option Tmp} {ty : TypeId} {pos : String} {aft : Array Edge} {gd : Option (Nat × Bool)} {s : TypeId} {x : Operand} {f : Nat} {d : Dyn} (hw : isStrong (.fieldAddr s x f : Op) = false) (hd : opC E nt (.fieldAddr s x f : Op) = some d) {φ : Phi} {sl : Slots} {h h' : H} {v : V} {ρ : Operand → Value} (hρ : OpsR φ nt sl ρ (.fieldAddr s x f : Op).operands) (q : d.v sl h = .yes v h') (w : World) :
    WeakR E nt ⟨dst, .fieldAddr s x f, ty, pos, aft, gd⟩ φ sl h v h' ρ w := by
  unfold opC at hd
  dsimp only at hd
  split at hd
  · rename_i fs hu
    split at hd
    · rename_i fd hf
      split at hd
      · rename_i n hn
        obtain ⟨g, hg, rfl⟩ := opt1_some hd
        obtain ⟨y, i, j, hx, q1⟩ := onPtr_yes q noYes
        obtain ⟨rfl, rfl⟩ := yes_inj q1
        have hv := hρ x (by simp [Op.operands]) _ hg
        rw [hx] at hv
        obtain ⟨l, hl, he⟩ := hv
        obtain ⟨ti, hti, hts, _⟩ := sizeOf_ok hn
        refine WeakR.rd (m := Instr.fieldAt s (ρ x) f) rfl fun k _ _ => ⟨rfl, Reads.pure (u := .pointer (some ((l.at i j).add fd.offset))) ?_ ⟨l, hl, by rw [at_add]⟩⟩
        rw [he]
        simp [Instr.fieldAt, Instr.sureAddr, fieldPlace, run_underlying hu, hf, run_size hti, hts]
      · cases hd
    · cases hd
  · cases hd
theorem weak_field {E : Env} (hE : E.Ok) {nt : Nat} {dst : Option Tmp} {ty : TypeId} {pos : String} {aft : Array Edge} {gd : Option (Nat × Bool)} {t : TypeId} {x : Operand} {f : Nat} {d : Dyn} (hw : isStrong (.field t x f : Op) = false) (hd : opC E nt (.field t x f : Op) = some d) {φ : Phi} {sl : Slots} {h h' : H} {v : V} {ρ : Operand → Value} (hρ : OpsR φ nt sl ρ (.field t x f : Op).operands) (q : d.v sl h = .yes v h') (w : World) :
    WeakR E nt ⟨dst, .field t x f, ty, pos, aft, gd⟩ φ sl h v h' ρ w := by
  unfold opC at hd
  dsimp only at hd
  split at hd
  · rename_i fs hu
    split at hd
    · rename_i fd hf
      split at hd
      · rename_i ha
        split at hd
        · rename_i n hn
          obtain ⟨g, hg, rfl⟩ := opt1_some hd
          obtain ⟨q1, rfl⟩ := lift_yes q
          exact WeakR.rd (m := Instr.field t (ρ x) f) rfl fun k _ _ => ⟨rfl, Reads.of (field_ok hu hf ha hn (hρ x (by simp [Op.operands]) _ hg) q1 w)⟩
        · cases hd
      · rename_i ha
        obtain ⟨g, hg, rfl⟩ := opt1_some hd
        obtain ⟨q1, rfl⟩ := lift_yes q
        exact WeakR.rd (m := Instr.field t (ρ x) f) rfl fun k _ _ => ⟨rfl, Reads.of (field1_ok hu hf ha (hρ x (by simp [Op.operands]) _ hg) q1 w)⟩
      · cases hd
    · cases hd
  · cases hd
theorem weak_indexAddr {E : Env} (hE : E.Ok) {nt : Nat} {dst : Option Tmp} {ty : TypeId} {pos : String} {aft : Array Edge} {gd : Option (Nat × Bool)} {t : TypeId} {x ix : Operand} {d : Dyn} (hw : isStrong (.indexAddr t x ix : Op) = false) (hd : opC E nt (.indexAddr t x ix : Op) = some d) {φ : Phi} {sl : Slots} {h h' : H} {v : V} {ρ : Operand → Value} (hρ : OpsR φ nt sl ρ (.indexAddr t x ix : Op).operands) (q : d.v sl h = .yes v h') (w : World) :
    WeakR E nt ⟨dst, .indexAddr t x ix, ty, pos, aft, gd⟩ φ sl h v h' ρ w := by
  unfold opC at hd
  dsimp only at hd
  split at hd
  · rename_i e gx gi hu hx hi
    split at hd
    · rename_i size hn
      cases hd
      exact WeakR.rd (m := Instr.indexAt t (ρ x) (ρ ix)) rfl fun k hr hk => indexAddr_ok hr hu hn (hk gx hx) (hρ x (by simp [Op.operands]) _ hx) (hρ ix (by simp [Op.operands]) _ hi) q
    · cases hd
  · cases hd
theorem weak_index {E : Env} (hE : E.Ok) {nt : Nat} {dst : Option Tmp} {ty : TypeId} {pos : String} {aft : Array Edge} {gd : Option (Nat × Bool)} {t : TypeId} {x ix : Operand} {d : Dyn} (hw : isStrong (.index t x ix : Op) = false) (hd : opC E nt (.index t x ix : Op) = some d) {φ : Phi} {sl : Slots} {h h' : H} {v : V} {ρ : Operand → Value} (hρ : OpsR φ nt sl ρ (.index t x ix : Op).operands) (q : d.v sl h = .yes v h') (w : World) :
    WeakR E nt ⟨dst, .index t x ix, ty, pos, aft, gd⟩ φ sl h v h' ρ w := by
  unfold opC at hd
  dsimp only at hd
  split at hd
  · rename_i gx gi hu hx hi
    cases hd
    exact WeakR.rd (m := Instr.index t (ρ x) (ρ ix)) rfl fun k _ _ => index_ok hu (hρ x (by simp [Op.operands]) _ hx) (hρ ix (by simp [Op.operands]) _ hi) q
  · cases hd
theorem weak_lookup {E : Env} (hE : E.Ok) {nt : Nat} {dst : Option Tmp} {ty : TypeId} {pos : String} {aft : Array Edge} {gd : Option (Nat × Bool)} {t : TypeId} {x ix : Operand} {comma : Bool} {d : Dyn} (hw : isStrong (.lookup t x ix comma : Op) = false) (hd : opC E nt (.lookup t x ix comma : Op) = some d) {φ : Phi} {sl : Slots} {h h' : H} {v : V} {ρ : Operand → Value} (hρ : OpsR φ nt sl ρ (.lookup t x ix comma : Op).operands) (q : d.v sl h = .yes v h') (w : World) :
    WeakR E nt ⟨dst, .lookup t x ix comma, ty, pos, aft, gd⟩ φ sl h v h' ρ w := by
  unfold opC at hd
  dsimp only at hd
  split at hd
  · rename_i kt e gx gi hu hx hi
    split at hd
    · rename_i hk0
      split at hd
      · rename_i z hz
        cases hd
        exact WeakR.rd (m := Instr.lookup t (ρ x) (ρ ix) comma) rfl fun k hr hk => lookup_ok hr hu hk0 hz (hk gx hx) (hρ x (by simp [Op.operands]) _ hx) (hρ ix (by simp [Op.operands]) _ hi) q
      · cases hd
    · cases hd
  · cases hd
theorem weak_extract {E : Env} (hE : E.Ok) {nt : Nat} {dst : Option Tmp} {ty : TypeId} {pos : String} {aft : Array Edge} {gd : Option (Nat × Bool)} {x : Operand} {ix : Nat} {d : Dyn} (hw : isStrong (.extract x ix : Op) = false) (hd : opC E nt (.extract x ix : Op) = some d) {φ : Phi} {sl : Slots} {h h' : H} {v : V} {ρ : Operand → Value} (hρ : OpsR φ nt sl ρ (.extract x ix : Op).operands) (q : d.v sl h = .yes v h') (w : World) :
    WeakR E nt ⟨dst, .extract x ix, ty, pos, aft, gd⟩ φ sl h v h' ρ w := by
  obtain ⟨g, hg, rfl⟩ := opt1_some hd
  obtain ⟨q1, rfl⟩ := lift_yes q
  exact WeakR.rd (m := Instr.extract (ρ x) ix) rfl fun k _ _ => ⟨rfl, Reads.of (extract_ok (hρ x (by simp [Op.operands]) _ hg) q1 w)⟩
theorem weak_call {E : Env} (hE : E.Ok) {nt : Nat} {dst : Option Tmp} {ty : TypeId} {pos : String} {aft : Array Edge} {gd : Option (Nat × Bool)} {c : Call} {d : Dyn} (hw : isStrong (.call c : Op) = false) (hd : opC E nt (.call c : Op) = some d) {φ : Phi} {sl : Slots} {h h' : H} {v : V} {ρ : Operand → Value} (hρ : OpsR φ nt sl ρ (.call c : Op).operands) (q : d.v sl h = .yes v h') (w : World) :
    WeakR E nt ⟨dst, .call c, ty, pos, aft, gd⟩ φ sl h v h' ρ w := by
  obtain ⟨callee, args, ats⟩ := c
  cases callee with
  | builtin b =>
    unfold opC at hd
    dsimp only at hd
    split at hd
    · rename_i gs hgs
      unfold builtinC at hd
      split at hd
      · rename_i g
        obtain ⟨x, rfl, hx⟩ := one_arg hgs
        have hv := hρ x (by simp [Op.operands, Call.operands]) _ hx
        split at hd
        · rename_i ht
          obtain ⟨t, h1, h2⟩ := bind_some' ht
          cases hd
          exact WeakR.rd (m := Builtin.len_ ats ty #[ρ x]) (by simp [execOp, resolve, invoke, builtin, valN]) fun k _ _ => lenStr_ok h1 h2 hv q
        · rename_i ht
          obtain ⟨t, h1, h2⟩ := bind_some' ht
          cases hd
          exact WeakR.rd (m := Builtin.len_ ats ty #[ρ x]) (by simp [execOp, resolve, invoke, builtin, valN]) fun k _ _ => lenSl_ok h1 h2 hv q
        · rename_i ht
          obtain ⟨t, h1, h2⟩ := bind_some' ht
          cases hd
          exact WeakR.rd (m := Builtin.len_ ats ty #[ρ x]) (by simp [execOp, resolve, invoke, builtin, valN]) fun k hr hk => lenMap_ok hr h1 h2 (hk g hx) hv q
        · cases hd
      · rename_i g
        obtain ⟨x, rfl, hx⟩ := one_arg hgs
        have hv := hρ x (by simp [Op.operands, Call.operands]) _ hx
        split at hd
        · rename_i ht
          obtain ⟨t, h1, h2⟩ := bind_some' ht
          cases hd
          exact WeakR.rd (m := Builtin.cap_ ats ty #[ρ x]) (by simp [execOp, resolve, invoke, builtin, valN]) fun k _ _ => capNil_ok h1 h2 hv q
        · cases hd
      · cases hw
      · cases hw
      · cases hw
      · rename_i g k
        obtain ⟨x, y, rfl, hx, hy⟩ := two_args hgs
        cases hd
        obtain ⟨q1, rfl⟩ := lift2_yes q
        exact WeakR.rd (m := Builtin.min_ ats ty #[ρ x, ρ y]) (by simp [execOp, resolve, invoke, builtin, valN]) fun k' _ _ => ⟨rfl, Reads.of (min_ok (hρ x (by simp [Op.operands, Call.operands]) _ hx) (hρ y (by simp [Op.operands, Call.operands]) _ hy) q1 ats ty w)⟩
      · rename_i g k
        obtain ⟨x, y, rfl, hx, hy⟩ := two_args hgs
        cases hd
        obtain ⟨q1, rfl⟩ := lift2_yes q
        exact WeakR.rd (m := Builtin.max_ ats ty #[ρ x, ρ y]) (by simp [execOp, resolve, invoke, builtin, valN]) fun k' _ _ => ⟨rfl, Reads.of (max_ok (hρ x (by simp [Op.operands, Call.operands]) _ hx) (hρ y (by simp [Op.operands, Call.operands]) _ hy) q1 ats ty w)⟩
      · cases hd
    · cases hd
  | _ => cases hd
theorem weak_ok {E : Env} (hE : E.Ok) {nt : Nat} {o : Oper} {d : Dyn} (hw : isStrong o.op = false) (hd : opC E nt o.op = some d) {φ : Phi} {sl : Slots} {h h' : H} {v : V} {ρ : Operand → Value} (hρ : OpsR φ nt sl ρ o.op.operands) (q : d.v sl h = .yes v h') (w : World) : WeakR E nt o φ sl h v h' ρ w := by
  obtain ⟨dst, op, ty, pos, aft, gd⟩ := o
  dsimp only at hw hd hρ ⊢
  cases op with
  | move x => exact weak_move hE hw hd hρ q w
  | assign x => exact weak_assign hE hw hd hρ q w
  | pick c a b => exact weak_pick hE hw hd hρ q w
  | alloc t => exact weak_alloc hE hw hd hρ q w
  | box t x => exact weak_box hE hw hd hρ q w
  | build t parts => exact weak_build hE hw hd hρ q w
  | buildSlice t n parts => exact weak_buildSlice hE hw hd hρ q w
  | load t a => exact weak_load hE hw hd hρ q w
  | nilCheck x => exact weak_nilCheck hE hw hd hρ q w
  | binOp op t x y yt => exact weak_binOp hE hw hd hρ q w
  | unOp op t x => exact weak_unOp hE hw hd hρ q w
  | convert src dt x => exact weak_convert hE hw hd hρ q w
  | makeFunc fn first caps => exact weak_makeFunc hE hw hd hρ q w
  | makeMap t r => exact weak_makeMap hE hw hd hρ q w
  | makeSlice t l c => exact weak_makeSlice hE hw hd hρ q w
  | slice t x lo hi mx => exact weak_slice hE hw hd hρ q w
  | fieldAddr s x f => exact weak_fieldAddr hE hw hd hρ q w
  | field t x f => exact weak_field hE hw hd hρ q w
  | indexAddr t x ix => exact weak_indexAddr hE hw hd hρ q w
  | index t x ix => exact weak_index hE hw hd hρ q w
  | lookup t x ix comma => exact weak_lookup hE hw hd hρ q w
  | extract x ix => exact weak_extract hE hw hd hρ q w
  | call c => exact weak_call hE hw hd hρ q w
  | _ => first | (cases hw; done) | cases hd
theorem strong_ok {E : Env} (hE : E.Ok) {nt : Nat} {o : Oper} {d : Dyn} (hw : isStrong o.op = true) (hd : opC E nt o.op = some d) {φ : Phi} {sl : Slots} {h h' : H} {v : V} {ρ : Operand → Value} (hρ : OpsR φ nt sl ρ o.op.operands) (q : d.v sl h = .yes v h') {w : World} (hr : HR φ h.get w) (hf : Free φ h h') :
    ActsN E.P φ h w (execOp ρ o) v h' := by
  obtain ⟨dst, op, ty, pos, aft, gd⟩ := o
  dsimp only at hw hd hρ ⊢
  cases op with
  | store t a x =>
    unfold opC at hd
    dsimp only at hd
    split at hd
    · rename_i ga gx n ha hx hn
      cases hd
      obtain ⟨h1, h2⟩ := store_ok (P := E.P) hr hn (hρ a (by simp [Op.operands]) _ ha) (hρ x (by simp [Op.operands]) _ hx) q
      exact h2.n h1
    · cases hd
  | mapUpdate t m k x =>
    unfold opC at hd
    dsimp only at hd
    split at hd
    · rename_i kt et gm gk gx hu hm hk hx
      split at hd
      · rename_i hki
        cases hd
        obtain ⟨h1, h2⟩ := mapPut_ok (P := E.P) hr hu hki (hρ m (by simp [Op.operands]) _ hm) (hρ k (by simp [Op.operands]) _ hk) (hρ x (by simp [Op.operands]) _ hx) q
        exact h2.n h1
      · cases hd
    · cases hd
  | insert t m k x =>
    unfold opC at hd
    dsimp only at hd
    split at hd
    · rename_i kt et gm gk gx hu hm hk hx
      split at hd
      · rename_i hki
        cases hd
        obtain ⟨h1, h2⟩ := mapPut_ok (P := E.P) hr hu hki (hρ m (by simp [Op.operands]) _ hm) (hρ k (by simp [Op.operands]) _ hk) (hρ x (by simp [Op.operands]) _ hx) q
        exact h2.n h1
      · cases hd
    · cases hd
  | call c =>
    obtain ⟨callee, args, ats⟩ := c
    cases callee with
    | builtin b =>
      unfold opC at hd
      dsimp only at hd
      split at hd
      · rename_i gs hgs
        unfold builtinC at hd
        split at hd
        · cases hw
        · cases hw
        · rename_i g k
          obtain ⟨x, y, rfl, hx, hy⟩ := two_args hgs
          split at hd
          · rename_i t xt hat
            have hats : ats = #[t, xt] := arr_of_list hat
            subst hats
            have key : ∀ e, E.P.underlying t = some (.slice e) → ((∃ e', E.P.underlying xt = some (.slice e')) ∨ E.P.underlying xt = some .string) → (match sizeOf E.P e, zeroCells E.P e with | some size, some _ => some (dAppend size g k) | _, _ => none) = some d → ActsN E.P φ h w (execOp ρ ⟨dst, .call ⟨.builtin .append, #[x, y], #[t, xt]⟩, ty, pos, aft, gd⟩) v h' := by
              intro e h1 h2 h3
              split at h3
              · rename_i size zz hn hz
                cases h3
                have hex : execOp ρ ⟨dst, .call ⟨.builtin .append, #[x, y], #[t, xt]⟩, ty, pos, aft, gd⟩ = valN (Builtin.append_ #[t, xt] ty #[ρ x, ρ y]) := by simp [execOp, resolve, invoke, builtin, valN]
                rw [hex]
                exact (append_ok (P := E.P) (ty := ty) hr hf h1 h2 hn hz (hρ x (by simp [Op.operands, Call.operands]) _ hx) (hρ y (by simp [Op.operands, Call.operands]) _ hy) q).n
              · cases h3
            split at hd
            · rename_i e e' h1 h2
              exact key e h1 (.inl ⟨e', h2⟩) hd
            · rename_i e h1 h2
              exact key e h1 (.inr h2) hd
            · cases hd
          · cases hd
        · rename_i g k
          obtain ⟨x, y, rfl, hx, hy⟩ := two_args hgs
          split at hd
          · rename_i e ht
            obtain ⟨t, h1, h2⟩ := bind_some' ht
            split at hd
            · rename_i size hn
              cases hd
              have hex : execOp ρ ⟨dst, .call ⟨.builtin .copy, #[x, y], ats⟩, ty, pos, aft, gd⟩ = valN (Builtin.copy_ ats ty #[ρ x, ρ y]) := by simp [execOp, resolve, invoke, builtin, valN]
              rw [hex]
              exact (copy_ok (P := E.P) (ty := ty) hr h1 h2 hn (hρ x (by simp [Op.operands, Call.operands]) _ hx) (hρ y (by simp [Op.operands, Call.operands]) _ hy) q).n
            · cases hd
          · cases hd
        · rename_i g
          obtain ⟨x, rfl, hx⟩ := one_arg hgs
          split at hd
          · rename_i e ht
            obtain ⟨t, h1, h2⟩ := bind_some' ht
            split at hd
            · rename_i z size hz hn
              cases hd
              have hex : execOp ρ ⟨dst, .call ⟨.builtin .clear, #[x], ats⟩, ty, pos, aft, gd⟩ = valN (Builtin.clear_ ats ty #[ρ x]) := by simp [execOp, resolve, invoke, builtin, valN]
              rw [hex]
              exact (clear_ok (P := E.P) (ty := ty) hr h1 h2 hz hn (hρ x (by simp [Op.operands, Call.operands]) _ hx) q).n
            · cases hd
          · cases hd
        · cases hw
        · cases hw
        · cases hd
      · cases hd
    | _ => cases hd
  | _ => first | cases hw; done | cases hd
end Go.Proofs.YtjmdmpfekoinbaaGreat.AMK

namespace Go.Proofs.YtjmdmpfekoinbaaGreat.AMK
open Go

/-! ### how the abstract heap moves on -/
def Blk.stamped (b : Blk) (c : Nat) : Bool :=
  match b with
  | .box _ _ s => Nat.ble (s + 1) c
  | .arr _ _ _ _ s => Nat.ble (s + 1) c
  | .map _ _ s => Nat.ble (s + 1) c
  | .dead => false
theorem stampLt_eq (h : H) (x : Id) (c : Nat) : stampLt h x c = (h.get x).stamped c := by
  unfold stampLt
  cases h.get x <;> rfl
structure WF (h : H) : Prop where
  dead : ∀ x : Id, h.next.num ≤ x.num → h.get x = .dead
  own : ∀ x, (h.get x).alive = true → (h.get x).own = true
structure Adv (h h' : H) : Prop where
  next : h.next.num ≤ h'.next.num
  clk : h.clk ≤ h'.clk
  same : ∀ x c, c ≤ h.clk → (h'.get x).stamped c = true → h'.get x = h.get x
  wf : WF h → WF h'
theorem Adv.refl (h : H) : Adv h h := ⟨Nat.le_refl _, Nat.le_refl _, fun _ _ _ _ => rfl, id⟩
theorem Adv.trans {a b c : H} (h : Adv a b) (k : Adv b c) : Adv a c :=
  ⟨Nat.le_trans h.next k.next, Nat.le_trans h.clk k.clk, fun x n hn hs => by
    have e := k.same x n (Nat.le_trans hn h.clk) hs
    rw [e] at hs ⊢
    exact h.same x n hn hs, fun w => k.wf (h.wf w)⟩
theorem Blk.dead_of {b : Blk} (h : b.alive = false) : b = .dead := by cases b <;> first | rfl | cases h
theorem Adv.put (h : H) (x : Id) (f : Nat → Blk) (hs : ∀ c, c ≤ h.clk → (f h.clk).stamped c = false) (ha : (f h.clk).alive = true → (f h.clk).own = true ∧ (h.get x).alive = true) : Adv h (h.put x f) := by
  obtain ⟨n1, n2, n3⟩ := H.put_get h x f
  refine ⟨by rw [n1]; exact Nat.le_refl _, by rw [n2]; omega, fun y c hc hy => ?_, fun w => ⟨fun y hy => ?_, fun y hy => ?_⟩⟩
  · rw [n3] at hy ⊢
    by_cases e : y = x
    · rw [if_pos e, hs c hc] at hy
      cases hy
    · rw [if_neg e]
  · rw [n1] at hy
    rw [n3]
    by_cases e : y = x
    · rw [if_pos e]
      cases hal : (f h.clk).alive with
      | false => exact Blk.dead_of hal
      | true =>
        have := (ha hal).2
        rw [← e, w.dead y hy] at this
        cases this
    · rw [if_neg e]
      exact w.dead y hy
  · rw [n3] at hy ⊢
    by_cases e : y = x
    · rw [if_pos e] at hy ⊢
      exact (ha hy).1
    · rw [if_neg e] at hy ⊢
      exact w.own y hy
/-- h' is h, or has one block more -/
def New (h h' : H) : Prop := ∃ blk, Grew h h' blk ∧ (∀ c, c ≤ h.clk → blk.stamped c = false) ∧ blk.own = true
theorem New.adv {h h' : H} (n : New h h') : Adv h h' := by
  obtain ⟨blk, ⟨g1, g2, g3⟩, hs, ho⟩ := n
  refine ⟨by omega, by omega, fun y c hc hy => ?_, fun w => ⟨fun y hy => ?_, fun y hy => ?_⟩⟩
  · rw [g3] at hy ⊢
    by_cases e : y = h.next
    · rw [if_pos e, hs c hc] at hy
      cases hy
    · rw [if_neg e]
  · rw [g3]
    have e : y ≠ h.next := fun e => by subst e; omega
    rw [if_neg e]
    exact w.dead y (by omega)
  · rw [g3] at hy ⊢
    by_cases e : y = h.next
    · rw [if_pos e]; exact ho
    · rw [if_neg e] at hy ⊢
      exact w.own y hy
theorem stamp_no (s c : Nat) (h : c ≤ s) : Nat.ble (s + 1) c = false := by
  cases e : Nat.ble (s + 1) c
  · rfl
  · have := ble_iff.1 e; omega
theorem add_new {h h' : H} {b : Nat → Blk} {k : Id → H → RV} {v : V} (hb : ∀ c, c ≤ h.clk → (b h.clk).stamped c = false) (ho : (b h.clk).own = true) (e : h.add b .no k = .yes v h') : ∃ h1, k h.next h1 = .yes v h' ∧ New h h1 := by
  obtain ⟨h1, e1, e2, e3, e4⟩ := H.add_yes e noYes
  exact ⟨h1, e1, _, ⟨e2, e3, e4⟩, hb, ho⟩
theorem newA_new {h h' : H} {t : Arr} {n size : Nat} {k : Id → H → RV} {v : V} (e : h.newA t n size .no k = .yes v h') : ∃ h1, k h.next h1 = .yes v h' ∧ New h h1 := by
  obtain ⟨_, e0⟩ := onC_yes e noYes
  exact add_new (b := Blk.arr t n size false) (fun c hc => stamp_no _ _ hc) rfl e0
theorem newSl_new {h h' : H} {t : Arr} {n size : Nat} {v : V} (e : newSl h t n size = .yes v h') : New h h' := by
  obtain ⟨h1, e1, hn⟩ := newA_new e
  obtain ⟨_, rfl⟩ := yes_inj e1
  exact hn
/-- an operation that lays at most one block -/
def Dyn.Keeps (d : Dyn) : Prop := ∀ sl h v h', d.v sl h = .yes v h' → h' = h ∨ New h h'
theorem keeps_get (g : G) : Dyn.Keeps (dGet g) := fun sl h v h' e => .inl (yes_inj e).2.symm
theorem keeps_lift (g : G) (f : V → Option V) : Dyn.Keeps (dLift g f) := fun sl h v h' e => .inl (lift_yes e).2
theorem keeps_lift2 (g k : G) (f : Bin2) : Dyn.Keeps (dLift2 f g k) := fun sl h v h' e => .inl (lift2_yes e).2
theorem keeps_pick (c a b : G) : Dyn.Keeps (dPick c a b) := fun sl h v h' e => by
  obtain ⟨t, _, e1⟩ := onBool_yes e noYes
  exact .inl (yes_inj e1).2.symm
theorem keeps_new (z : List S) (n : Nat) : Dyn.Keeps (dNew z n) := fun sl h v h' e => by
  obtain ⟨h1, e1, hn⟩ := add_new (b := Blk.box z n) (fun c hc => stamp_no _ _ hc) rfl (show h.add (Blk.box z n) RV.no (fun y h1 => RV.yes (.sc (.ptr y 0 0)) h1) = RV.yes v h' from e)
  obtain ⟨_, rfl⟩ := yes_inj e1
  exact .inr hn
theorem keeps_box (n : Nat) (g : G) : Dyn.Keeps (dBox n g) := fun sl h v h' e => by
  obtain ⟨_, e0⟩ := onC_yes e noYes
  obtain ⟨h1, e1, hn⟩ := add_new (b := Blk.box (V.cells (g.v sl)) n) (fun c hc => stamp_no _ _ hc) rfl (show h.add (Blk.box (V.cells (g.v sl)) n) RV.no (fun y h1 => RV.yes (.sc (.ptr y 0 0)) h1) = RV.yes v h' from e0)
  obtain ⟨_, rfl⟩ := yes_inj e1
  exact .inr hn
theorem keeps_build (f : FillF) (z : List S) : Dyn.Keeps (dBuild f z) := fun sl h v h' e => by
  obtain ⟨_, _, e1⟩ := onO_yes e noYes
  exact .inl (yes_inj e1).2.symm
theorem keeps_buildSl (f : RowF) (n size : Nat) : Dyn.Keeps (dBuildSl f n size) := fun sl h v h' e => by
  obtain ⟨_, _, e1⟩ := onO_yes e noYes
  obtain ⟨h1, e2, hn⟩ := newA_new e1
  obtain ⟨_, rfl⟩ := yes_inj e2
  exact .inr hn
theorem keeps_load (n : Nat) (g : G) : Dyn.Keeps (dLoad n g) := fun sl h v h' e => by
  obtain ⟨x, i, f, _, e1⟩ := onPtr_yes e noYes
  have key : ∀ cs size, onC (andB (Nat.beq f 0) (Nat.beq n size)) (onO (takeN n (dropN f cs)) .no fun l => .yes (.agg l) h) (.yes (.agg cs) h) = RV.yes v h' → h' = h := by
    intro cs size e2
    cases hc : andB (Nat.beq f 0) (Nat.beq n size)
    · rw [hc] at e2
      obtain ⟨_, _, e3⟩ := onO_yes e2 noYes
      exact (yes_inj e3).2.symm
    · rw [hc] at e2
      exact (yes_inj e2).2.symm
  rcases onElem_yes e1 noYes with ⟨cs, size, s, _, e2⟩ | ⟨t, m, size, ro, s, _, _, e2⟩
  · exact .inl (key _ _ e2)
  · exact .inl (key _ _ e2)
theorem keeps_load1 (g : G) : Dyn.Keeps (dLoad1 g) := fun sl h v h' e => by
  obtain ⟨x, i, f, _, e1⟩ := onPtr_yes e noYes
  have key : ∀ cs : List S, nth RV.no (fun v => .yes (.sc v) h) cs f = RV.yes v h' → h' = h := by
    intro cs e2
    rw [nth_eq] at e2
    split at e2
    · exact (yes_inj e2).2.symm
    · cases e2
  rcases onElem_yes e1 noYes with ⟨cs, size, s, _, e2⟩ | ⟨t, m, size, ro, s, _, _, e2⟩
  · exact .inl (key _ e2)
  · exact .inl (key _ e2)
theorem keeps_nilCheck (g : G) : Dyn.Keeps (dNilCheck g) := fun sl h v h' e => by
  obtain ⟨s, _, e1⟩ := onSc_yes e noYes
  cases s <;> first | cases e1; done | exact .inl (yes_inj e1).2.symm
theorem keeps_convInt (k : IntKind) (g : G) : Dyn.Keeps (dConvInt k g) := fun sl h v h' e => by
  obtain ⟨_, _, _, e1⟩ := onInt_yes e noYes
  exact .inl (yes_inj e1).2.symm
theorem keeps_convStr (g : G) : Dyn.Keeps (dConvStr g) := fun sl h v h' e => by
  obtain ⟨_, _, e1⟩ := onStr_yes e noYes
  exact .inl (yes_inj e1).2.symm
theorem keeps_bytesStr (g : G) : Dyn.Keeps (dBytesStr g) := fun sl h v h' e => by
  obtain ⟨s, _, e1⟩ := onSc_yes e noYes
  rcases sSlice_yes e1 noYes with ⟨_, e2⟩ | ⟨x, o, n, c, _, e2⟩
  · exact .inl (yes_inj e2).2.symm
  · obtain ⟨_, _, _, _, _, _, e3⟩ := onArr_yes e2 noYes
    obtain ⟨_, e4⟩ := onC_yes e3 noYes
    obtain ⟨_, _, e5⟩ := onO_yes e4 noYes
    exact .inl (yes_inj e5).2.symm
theorem keeps_convBytes (g : G) : Dyn.Keeps (dConvBytes g) := fun sl h v h' e => by
  obtain ⟨s, _, e1⟩ := onSc_yes e noYes
  obtain ⟨x, o, n, c, _, e2⟩ := sSl_yes e1 noYes
  obtain ⟨_, _, e3⟩ := onO_yes e2 noYes
  obtain ⟨_, _, _, _, _, _, e4⟩ := onArr_yes e3 noYes
  obtain ⟨_, e5⟩ := onC_yes e4 noYes
  exact .inl (yes_inj e5).2.symm
theorem keeps_strBytes (g : G) : Dyn.Keeps (dStrBytes g) := fun sl h v h' e => by
  obtain ⟨s, _, e1⟩ := onStr_yes e noYes
  cases hc : Nat.beq (len s) 0
  · rw [hc] at e1
    exact .inr (newSl_new e1)
  · rw [hc] at e1
    exact .inl (yes_inj e1).2.symm
theorem keeps_func (f : Nat) (l : GL) : Dyn.Keeps (dFunc f l) := fun sl h v h' e => by
  obtain ⟨_, _, e1⟩ := onO_yes e noYes
  exact .inl (yes_inj e1).2.symm
theorem keeps_makeMap : Dyn.Keeps dMakeMap := fun sl h v h' e => by
  obtain ⟨h1, e1, hn⟩ := add_new (b := Blk.map [] 0) (fun c hc => stamp_no _ _ hc) rfl (show h.add (Blk.map [] 0) RV.no (fun y h1 => RV.yes (.sc (.map y)) h1) = RV.yes v h' from e)
  obtain ⟨_, rfl⟩ := yes_inj e1
  exact .inr hn
theorem keeps_make (z : List S) (size : Nat) (l c : G) : Dyn.Keeps (dMake z size l c) := fun sl h v h' e => by
  obtain ⟨_, _, _, e1⟩ := onNat_yes e noYes
  obtain ⟨_, _, _, e2⟩ := onNat_yes e1 noYes
  obtain ⟨_, e3⟩ := onC_yes e2 noYes
  obtain ⟨h1, e4, hn⟩ := newA_new e3
  obtain ⟨_, rfl⟩ := yes_inj e4
  exact .inr hn
theorem bnd_any {x : Option G} {sl : Slots} {β : Type} {no r : β} {k : Option Nat → β} (h : bnd x sl no k = r) (hn : no ≠ r) : ∃ b, k b = r := by
  rcases bnd_yes h hn with ⟨_, h1⟩ | ⟨_, _, _, _, _, h1⟩
  · exact ⟨_, h1⟩
  · exact ⟨_, h1⟩
theorem keeps_slice (size : Nat) (x : G) (lo hi mx : Option G) : Dyn.Keeps (dSlice size x lo hi mx) := fun sl h v h' e => by
  unfold dSlice at e
  dsimp only at e
  obtain ⟨_, e1⟩ := bnd_any e noYes
  obtain ⟨_, e2⟩ := bnd_any e1 noYes
  obtain ⟨_, e3⟩ := bnd_any e2 noYes
  obtain ⟨_, _, e4⟩ := onSc_yes e3 noYes
  obtain ⟨_, _, e5⟩ := onO_yes e4 noYes
  exact .inl (yes_inj e5).2.symm
theorem keeps_sliceStr (x : G) (lo hi : Option G) : Dyn.Keeps (dSliceStr x lo hi) := fun sl h v h' e => by
  unfold dSliceStr at e
  dsimp only at e
  obtain ⟨_, e1⟩ := bnd_any e noYes
  obtain ⟨_, e2⟩ := bnd_any e1 noYes
  obtain ⟨_, _, e3⟩ := onStr_yes e2 noYes
  obtain ⟨_, e4⟩ := onC_yes e3 noYes
  obtain ⟨_, _, e5⟩ := onO_yes e4 noYes
  exact .inl (yes_inj e5).2.symm
theorem keeps_fieldAddr (off : Nat) (g : G) : Dyn.Keeps (dFieldAddr off g) := fun sl h v h' e => by
  obtain ⟨_, _, _, _, e1⟩ := onPtr_yes e noYes
  exact .inl (yes_inj e1).2.symm
theorem keeps_indexAddr (size : Nat) (x i : G) : Dyn.Keeps (dIndexAddr size x i) := fun sl h v h' e => by
  obtain ⟨_, _, e1⟩ := onSc_yes e noYes
  obtain ⟨_, _, _, _, _, e2⟩ := sSl_yes e1 noYes
  obtain ⟨_, _, _, e3⟩ := onNat_yes e2 noYes
  obtain ⟨_, e4⟩ := onC_yes e3 noYes
  obtain ⟨_, _, _, _, _, _, e5⟩ := onArr_yes e4 noYes
  obtain ⟨_, e6⟩ := onC_yes e5 noYes
  exact .inl (yes_inj e6).2.symm
theorem keeps_index (x i : G) : Dyn.Keeps (dIndex x i) := fun sl h v h' e => by
  obtain ⟨_, _, e1⟩ := onStr_yes e noYes
  obtain ⟨_, _, _, e2⟩ := onNat_yes e1 noYes
  rw [nth_eq] at e2
  split at e2
  · exact .inl (yes_inj e2).2.symm
  · cases e2
theorem keeps_lookup (z : S) (comma : Bool) (x i : G) : Dyn.Keeps (dLookup z comma x i) := fun sl h v h' e => by
  obtain ⟨_, _, _, e1⟩ := onInt_yes e noYes
  obtain ⟨_, _, e2⟩ := onSc_yes e1 noYes
  rcases sMap_yes e2 noYes with ⟨_, e3⟩ | ⟨_, _, e3⟩
  · exact .inl (yes_inj e3).2.symm
  · obtain ⟨_, _, _, _, e4⟩ := onMap_yes e3 noYes
    split at e4
    · exact .inl (yes_inj e4).2.symm
    · exact .inl (yes_inj e4).2.symm
    · cases e4
theorem keeps_lenStr (g : G) : Dyn.Keeps (dLenStr g) := fun sl h v h' e => by
  obtain ⟨_, _, e1⟩ := onStr_yes e noYes
  exact .inl (yes_inj e1).2.symm
theorem keeps_lenSl (g : G) : Dyn.Keeps (dLenSl g) := fun sl h v h' e => by
  obtain ⟨s, _, e1⟩ := onSc_yes e noYes
  rcases sSlice_yes e1 noYes with ⟨_, e2⟩ | ⟨_, _, _, _, _, e2⟩
  · exact .inl (yes_inj e2).2.symm
  · exact .inl (yes_inj e2).2.symm
theorem keeps_lenMap (g : G) : Dyn.Keeps (dLenMap g) := fun sl h v h' e => by
  obtain ⟨s, _, e1⟩ := onSc_yes e noYes
  rcases sMap_yes e1 noYes with ⟨_, e2⟩ | ⟨_, _, e2⟩
  · exact .inl (yes_inj e2).2.symm
  · obtain ⟨_, _, _, _, e3⟩ := onMap_yes e2 noYes
    exact .inl (yes_inj e3).2.symm
theorem keeps_capNil (g : G) : Dyn.Keeps (dCapNil g) := fun sl h v h' e => by
  obtain ⟨s, _, e1⟩ := onSc_yes e noYes
  cases s with
  | nils => exact .inl (yes_inj e1).2.symm
  | sl x o n c =>
    obtain ⟨_, _, e2⟩ := onO_yes (show onO c RV.no _ = _ from e1) noYes
    exact .inl (yes_inj e2).2.symm
  | _ => cases e1
theorem opt1_keeps {x : Option G} {f : G → Dyn} {d : Dyn} (h : opt1 x f = some d) (k : ∀ g, Dyn.Keeps (f g)) : d.Keeps := by
  obtain ⟨g, _, rfl⟩ := opt1_some h
  exact k g
theorem conv_keeps {P : Program} {src dst : TypeId} {g : G} {d : Dyn} (h : convC P src dst g = some d) : d.Keeps := by
  unfold convC at h
  repeat' split at h
  all_goals first
    | (cases h; done)
    | (cases h; first | exact keeps_convInt _ _ | exact keeps_convStr _ | exact keeps_bytesStr _ | exact keeps_convBytes _ | exact keeps_strBytes _)
theorem weak_keeps {E : Env} {nt : Nat} {o : Op} {d : Dyn} (hw : isStrong o = false) (hd : opC E nt o = some d) : d.Keeps := by
  cases o with
  | move x => exact opt1_keeps hd keeps_get
  | assign x => exact opt1_keeps hd keeps_get
  | pick c a b =>
    unfold opC at hd
    dsimp only at hd
    split at hd
    · cases hd; exact keeps_pick _ _ _
    · cases hd
  | alloc t =>
    unfold opC at hd
    dsimp only at hd
    split at hd
    · cases hd; exact keeps_new _ _
    · cases hd
  | box t x =>
    unfold opC at hd
    dsimp only at hd
    split at hd
    · exact opt1_keeps hd (keeps_box _)
    · cases hd
  | build t parts =>
    unfold opC at hd
    dsimp only at hd
    repeat' split at hd
    all_goals first | (cases hd; done) | (cases hd; exact keeps_build _ _)
  | buildSlice t n parts =>
    unfold opC at hd
    dsimp only at hd
    repeat' split at hd
    all_goals first | (cases hd; done) | (cases hd; exact keeps_buildSl _ _ _)
  | load t a =>
    unfold opC at hd
    dsimp only at hd
    repeat' split at hd
    all_goals first | (cases hd; done) | exact opt1_keeps hd (keeps_load _) | exact opt1_keeps hd keeps_load1
  | nilCheck x => exact opt1_keeps hd keeps_nilCheck
  | binOp op t x y yt =>
    unfold opC at hd
    dsimp only at hd
    split at hd
    · cases hd; exact keeps_lift2 _ _ _
    · cases hd
  | unOp op t x =>
    unfold opC at hd
    dsimp only at hd
    split at hd
    · exact opt1_keeps hd fun g => keeps_lift _ _
    · exact opt1_keeps hd fun g => keeps_lift _ _
    · cases hd
  | convert src dt x =>
    unfold opC at hd
    dsimp only at hd
    split at hd
    · exact conv_keeps hd
    · cases hd
  | makeFunc fn first caps =>
    cases fn with
    | func f =>
      unfold opC at hd
      dsimp only at hd
      repeat' split at hd
      all_goals first | (cases hd; done) | (cases hd; exact keeps_func _ _)
    | _ => cases hd
  | makeMap t r =>
    cases r with
    | none => cases hd; exact keeps_makeMap
    | some r => cases hd
  | makeSlice t l c =>
    unfold opC at hd
    dsimp only at hd
    repeat' split at hd
    all_goals first | (cases hd; done) | (cases hd; exact keeps_make _ _ _ _)
  | slice t x lo hi mx =>
    unfold opC at hd
    dsimp only at hd
    repeat' split at hd
    all_goals first | (cases hd; done) | (cases hd; first | exact keeps_sliceStr _ _ _ | exact keeps_slice _ _ _ _ _)
  | fieldAddr s x f =>
    unfold opC at hd
    dsimp only at hd
    repeat' split at hd
    all_goals first | (cases hd; done) | exact opt1_keeps hd (keeps_fieldAddr _)
  | field t x f =>
    unfold opC at hd
    dsimp only at hd
    repeat' split at hd
    all_goals first | (cases hd; done) | exact opt1_keeps hd fun g => keeps_lift _ _
  | indexAddr t x ix =>
    unfold opC at hd
    dsimp only at hd
    repeat' split at hd
    all_goals first | (cases hd; done) | (cases hd; exact keeps_indexAddr _ _ _)
  | index t x ix =>
    unfold opC at hd
    dsimp only at hd
    repeat' split at hd
    all_goals first | (cases hd; done) | (cases hd; exact keeps_index _ _)
  | lookup t x ix comma =>
    unfold opC at hd
    dsimp only at hd
    repeat' split at hd
    all_goals first | (cases hd; done) | (cases hd; exact keeps_lookup _ _ _ _)
  | extract x ix => exact opt1_keeps hd fun g => keeps_lift _ _
  | call c =>
    obtain ⟨callee, args, ats⟩ := c
    cases callee with
    | builtin b =>
      unfold opC at hd
      dsimp only at hd
      split at hd
      · unfold builtinC at hd
        split at hd
        · repeat' split at hd
          all_goals first | (cases hd; done) | (cases hd; first | exact keeps_lenStr _ | exact keeps_lenSl _ | exact keeps_lenMap _)
        · repeat' split at hd
          all_goals first | (cases hd; done) | (cases hd; exact keeps_capNil _)
        · cases hw
        · cases hw
        · cases hw
        · cases hd; exact keeps_lift2 _ _ _
        · cases hd; exact keeps_lift2 _ _ _
        · cases hd
      · cases hd
    | _ => cases hd
  | _ => first | (cases hw; done) | cases hd
theorem keeps_adv {d : Dyn} (k : d.Keeps) {sl : Slots} {h h' : H} {v : V} (q : d.v sl h = .yes v h') : Adv h h' := by
  rcases k sl h v h' q with rfl | hn
  · exact Adv.refl _
  · exact hn.adv

/-! ### the strong ones -/
theorem writeE_adv {h h' : H} {x : Id} {i f m : Nat} {vs : List S} {k : H → RV} {v : V} (q : h.writeE x i f m vs .no k = .yes v h') : ∃ h1, k h1 = .yes v h' ∧ Adv h h1 := by
  unfold H.writeE at q
  cases hb : h.get x with
  | box cs size st =>
    rw [hb] at q
    obtain ⟨cs', _, q1⟩ := onO_yes (show onO (putIn vs m f size cs) RV.no (fun cs' => k (h.put x fun s => .box cs' size s)) = RV.yes v h' from q) noYes
    exact ⟨_, q1, Adv.put h x _ (fun c hc => stamp_no _ _ hc) fun _ => ⟨rfl, by rw [hb]; rfl⟩⟩
  | arr t n size ro st =>
    rw [hb] at q
    replace q : onC ro (onC (Nat.ble (i + 1) n) RV.no (onO (putIn vs m f size (t.get i)) RV.no fun cs' => k (h.put x fun s => .arr (t.set i cs') n size false s))) RV.no = RV.yes v h' := q
    cases ro with
    | true => cases q
    | false =>
      obtain ⟨_, q1⟩ := onC_yes (show onC (Nat.ble (i + 1) n) RV.no _ = RV.yes v h' from q) noYes
      obtain ⟨cs', _, q2⟩ := onO_yes q1 noYes
      exact ⟨_, q2, Adv.put h x _ (fun c hc => stamp_no _ _ hc) fun _ => ⟨rfl, by rw [hb]; rfl⟩⟩
  | map es c st => rw [hb] at q; cases q
  | dead => rw [hb] at q; cases q
theorem putA_adv {h : H} {x : Id} {t : Arr} {n size : Nat} (ha : (h.get x).alive = true) : Adv h (putA h x t n size) := Adv.put h x _ (fun c hc => stamp_no _ _ hc) fun _ => ⟨rfl, ha⟩
theorem kill_adv (h : H) (x : Id) : Adv h (h.put x fun _ => .dead) := Adv.put h x _ (fun c hc => rfl) fun e => by cases e
theorem appendF_adv {size n : Nat} {f : Arr → Nat → Arr} {h h' : H} {s : S} {v : V} (q : appendF size n f h s = .yes v h') : Adv h h' := by
  cases s with
  | nils => exact (newSl_new q).adv
  | sl b o m c =>
    obtain ⟨t, e, size', ro, st, hb, q1⟩ := onArr_yes (show onArr RV.no _ (h.get b) = RV.yes v h' from q) noYes
    obtain ⟨_, q2⟩ := onC_yes q1 noYes
    have hal : (h.get b).alive = true := by rw [hb]; rfl
    cases c with
    | none =>
      replace q2 : onC ro (onC (Nat.ble (o + m + n) e) (onC (Nat.ble (o + m) e) .no (onC (Nat.beq o 0) (newSl (h.put b fun _ => .dead) (f (moveE m t o Arr.none 0) m) (m + n) size) (newSl (h.put b fun _ => .dead) (f t m) (m + n) size))) (.yes (.sc (.sl b o (m + n) none)) (putA h b (f t (o + m)) e size))) .no = RV.yes v h' := q2
      cases ro with
      | true => cases q2
      | false =>
        replace q2 : onC (Nat.ble (o + m + n) e) (onC (Nat.ble (o + m) e) .no (onC (Nat.beq o 0) (newSl (h.put b fun _ => .dead) (f (moveE m t o Arr.none 0) m) (m + n) size) (newSl (h.put b fun _ => .dead) (f t m) (m + n) size))) (.yes (.sc (.sl b o (m + n) none)) (putA h b (f t (o + m)) e size)) = RV.yes v h' := q2
        cases hc : Nat.ble (o + m + n) e
        · rw [hc, onC_false] at q2
          obtain ⟨_, q3⟩ := onC_yes q2 noYes
          cases ho : Nat.beq o 0
          · rw [ho] at q3
            exact (kill_adv h b).trans (newSl_new q3).adv
          · rw [ho] at q3
            exact (kill_adv h b).trans (newSl_new q3).adv
        · rw [hc] at q2
          obtain ⟨_, rfl⟩ := yes_inj q2
          exact putA_adv hal
    | some k =>
      replace q2 : onC (Nat.ble (m + n) k) (onC (Nat.ble (o + m) e) .no (newSl h (f (moveE m t o Arr.none 0) m) (m + n) size)) (onC ro (onC (Nat.ble (o + m + n) e) .no (.yes (.sc (.sl b o (m + n) (some k))) (putA h b (f t (o + m)) e size))) .no) = RV.yes v h' := q2
      cases hc : Nat.ble (m + n) k
      · rw [hc, onC_false] at q2
        obtain ⟨_, q3⟩ := onC_yes q2 noYes
        exact (newSl_new q3).adv
      · rw [hc, onC_true] at q2
        cases ro with
        | true => cases q2
        | false =>
          obtain ⟨_, q3⟩ := onC_yes (show onC (Nat.ble (o + m + n) e) RV.no _ = RV.yes v h' from q2) noYes
          obtain ⟨_, rfl⟩ := yes_inj q3
          exact putA_adv hal
  | _ => cases q
theorem source_any {h : H} {size n : Nat} {s : S} {β : Type} {no r : β} {k : (Arr → Nat → Arr) → β} (q : source h size n no k s = r) (hno : no ≠ r) : ∃ f, k f = r := by
  cases s with
  | str s =>
    obtain ⟨_, q1⟩ := onC_yes (show onC (Nat.beq size 1) no (onO (takeN n s) no fun s' => k (moveS s')) = r from q) hno
    obtain ⟨_, _, q2⟩ := onO_yes q1 hno
    exact ⟨_, q2⟩
  | nils => exact ⟨_, q⟩
  | emp => exact ⟨_, q⟩
  | sl x o n' c =>
    obtain ⟨_, _, _, _, _, _, q1⟩ := onArr_yes (show onArr no (fun t m size' _ => onC (andB (Nat.beq size' size) (Nat.ble (o + n) m)) no (k (moveE n t o))) (h.get x) = r from q) hno
    obtain ⟨_, q2⟩ := onC_yes q1 hno
    exact ⟨_, q2⟩
  | _ => exact absurd q hno
theorem append_adv {size : Nat} {g k : G} {sl : Slots} {h h' : H} {v : V} (q : (dAppend size g k).v sl h = .yes v h') : Adv h h' := by
  obtain ⟨s, _, q1⟩ := onSc_yes q noYes
  obtain ⟨x, _, q2⟩ := onSc_yes q1 noYes
  obtain ⟨n, _, q3⟩ := sliceLen_yes q2 noYes
  cases h0 : Nat.beq n 0
  · rw [h0, onC_false] at q3
    obtain ⟨f, q4⟩ := source_any q3 noYes
    exact appendF_adv q4
  · rw [h0] at q3
    rcases sSlice_yes q3 noYes with ⟨_, q4⟩ | ⟨_, _, _, _, _, q4⟩
    · obtain ⟨_, rfl⟩ := yes_inj q4
      exact Adv.refl _
    · obtain ⟨_, rfl⟩ := yes_inj q4
      exact Adv.refl _
theorem writeF_adv {h h' : H} {b : Id} {o n size : Nat} {f : Arr → Nat → Arr} {k : H → RV} {v : V} (q : writeF h b o n size f k = .yes v h') : ∃ h1, k h1 = .yes v h' ∧ Adv h h1 := by
  obtain ⟨_, _, _, _, _, hb, q1⟩ := onArr_yes q noYes
  obtain ⟨_, q2⟩ := onC_yes q1 noYes
  exact ⟨_, q2, putA_adv (by rw [hb]; rfl)⟩
theorem copy_adv {size : Nat} {g k : G} {sl : Slots} {h h' : H} {v : V} (q : (dCopy size g k).v sl h = .yes v h') : Adv h h' := by
  obtain ⟨d, _, q1⟩ := onSc_yes q noYes
  obtain ⟨s, _, q2⟩ := onSc_yes q1 noYes
  obtain ⟨_, _, q3⟩ := sliceLen_yes q2 noYes
  obtain ⟨_, _, q4⟩ := sliceLen_yes q3 noYes
  obtain ⟨f, q5⟩ := source_any q4 noYes
  rcases sSlice_yes q5 noYes with ⟨_, q6⟩ | ⟨_, _, _, _, _, q6⟩
  · obtain ⟨_, rfl⟩ := yes_inj q6
    exact Adv.refl _
  · generalize hn : Nat.beq _ 0 = t at q6
    cases t
    · obtain ⟨h1, q7, ha⟩ := writeF_adv q6
      obtain ⟨_, rfl⟩ := yes_inj q7
      exact ha
    · obtain ⟨_, rfl⟩ := yes_inj q6
      exact Adv.refl _
theorem clear_adv {size : Nat} {z : List S} {g : G} {sl : Slots} {h h' : H} {v : V} (q : (dClear size z g).v sl h = .yes v h') : Adv h h' := by
  obtain ⟨s, _, q1⟩ := onSc_yes q noYes
  rcases sSlice_yes q1 noYes with ⟨_, q6⟩ | ⟨b, o, n, c, _, q6⟩
  · obtain ⟨_, rfl⟩ := yes_inj q6
    exact Adv.refl _
  · cases hn : Nat.beq n 0
    · rw [hn] at q6
      obtain ⟨h1, q7, ha⟩ := writeF_adv q6
      obtain ⟨_, rfl⟩ := yes_inj q7
      exact ha
    · rw [hn] at q6
      obtain ⟨_, rfl⟩ := yes_inj q6
      exact Adv.refl _
theorem store_adv {n : Nat} {a g : G} {sl : Slots} {h h' : H} {v : V} (q : (dStore n a g).v sl h = .yes v h') : Adv h h' := by
  obtain ⟨_, q1⟩ := onC_yes q noYes
  obtain ⟨_, _, _, _, q2⟩ := onPtr_yes q1 noYes
  obtain ⟨h1, q3, ha⟩ := writeE_adv q2
  obtain ⟨_, rfl⟩ := yes_inj q3
  exact ha
theorem mapPut_adv {m k x : G} {sl : Slots} {h h' : H} {v : V} (q : (dMapPut m k x).v sl h = .yes v h') : Adv h h' := by
  obtain ⟨_, _, q1⟩ := onSc_yes q noYes
  obtain ⟨_, _, _, q2⟩ := onInt_yes q1 noYes
  obtain ⟨_, _, q3⟩ := onSc_yes q2 noYes
  rcases sMap_yes q3 noYes with ⟨_, q4⟩ | ⟨r, _, q4⟩
  · cases q4
  · obtain ⟨es, c, st, hb, q5⟩ := onMap_yes q4 noYes
    have hal : (h.get r).alive = true := by rw [hb]; rfl
    split at q5
    · obtain ⟨_, rfl⟩ := yes_inj q5
      exact Adv.put h r _ (fun c hc => stamp_no _ _ hc) fun _ => ⟨rfl, hal⟩
    · obtain ⟨_, rfl⟩ := yes_inj q5
      exact Adv.put h r _ (fun c hc => stamp_no _ _ hc) fun _ => ⟨rfl, hal⟩
    · cases q5
theorem opC_adv {E : Env} {nt : Nat} {o : Op} {d : Dyn} (hd : opC E nt o = some d) {sl : Slots} {h h' : H} {v : V} (q : d.v sl h = .yes v h') : Adv h h' := by
  cases hw : isStrong o with
  | false => exact keeps_adv (weak_keeps hw hd) q
  | true =>
    cases o with
    | store t a x =>
      unfold opC at hd
      dsimp only at hd
      repeat' split at hd
      all_goals first | (cases hd; done) | (cases hd; exact store_adv q)
    | mapUpdate t m k x =>
      unfold opC at hd
      dsimp only at hd
      repeat' split at hd
      all_goals first | (cases hd; done) | (cases hd; exact mapPut_adv q)
    | insert t m k x =>
      unfold opC at hd
      dsimp only at hd
      repeat' split at hd
      all_goals first | (cases hd; done) | (cases hd; exact mapPut_adv q)
    | call c =>
      obtain ⟨callee, args, ats⟩ := c
      cases callee with
      | builtin b =>
        unfold opC at hd
        dsimp only at hd
        split at hd
        · unfold builtinC at hd
          split at hd
          · cases hw
          · cases hw
          · repeat' split at hd
            all_goals first | (cases hd; done) | (cases hd; exact append_adv q)
          · repeat' split at hd
            all_goals first | (cases hd; done) | (cases hd; exact copy_adv q)
          · repeat' split at hd
            all_goals first | (cases hd; done) | (cases hd; exact clear_adv q)
          · cases hw
          · cases hw
          · cases hd
        · cases hd
      | _ => cases hd
    | _ => first | (cases hw; done) | cases hd

/-! ### calls, regions, code -/
def AdvF (r : CallF) : Prop := ∀ f args h v h', r f args h = .yes v h' → Adv h h'
theorem opX_cases {E : Env} {nt : Nat} {o : Op} {f : DynX} (ho : opX E nt o = some f) : (∃ d, opC E nt o = some d ∧ f = xOp d) ∨
    ∃ fo args ats l, o = .call ⟨.value fo, args, ats⟩ ∧ gets (args.toList.map (operC nt)) = some l ∧ ((∃ g, fo = .func g ∧ f = xStatic g (evals l)) ∨ ∃ g, operC nt fo = some g ∧ f = xCall g (evals l)) := by
  have other : (match opC E nt o with | some d => some (xOp d) | none => none) = some f → ∃ d, opC E nt o = some d ∧ f = xOp d := by
    intro h
    split at h
    · rename_i d hd
      cases h
      exact ⟨d, hd, rfl⟩
    · cases h
  cases o with
  | call c =>
    obtain ⟨callee, args, ats⟩ := c
    cases callee with
    | value fo =>
      right
      unfold opX at ho
      dsimp only at ho
      split at ho
      · rename_i l hl
        split at ho
        · rename_i g
          cases ho
          exact ⟨_, args, ats, l, rfl, hl, .inl ⟨g, rfl, rfl⟩⟩
        · split at ho
          · rename_i g hg
            cases ho
            exact ⟨_, args, ats, l, rfl, hl, .inr ⟨g, hg, rfl⟩⟩
          · cases ho
      · cases ho
    | _ => exact .inl (other ho)
  | _ => exact .inl (other ho)
theorem xCall_yes {g : G} {l : GL} {r : CallF} {sl : Slots} {h h' : H} {v : V} (q : (xCall g l).v r sl h = .yes v h') : ∃ f caps, g.v sl = .sc (.fn f caps) ∧ r f (l.v sl ++ caps.map fun x => .sc (.ptr x 0 0)) h = .yes v h' := by
  obtain ⟨s, hs, q1⟩ := onSc_yes q noYes
  cases s <;> try (cases q1; done)
  rename_i f caps
  refine ⟨f, caps, hs, ?_⟩
  rw [← mapL_eq, ← app_eq]
  exact q1
theorem opX_adv {E : Env} {nt : Nat} {o : Op} {f : DynX} (ho : opX E nt o = some f) {r : CallF} (hr : AdvF r) {sl : Slots} {h h' : H} {v : V} (q : f.v r sl h = .yes v h') : Adv h h' := by
  rcases opX_cases ho with ⟨d, hd, rfl⟩ | ⟨fo, args, ats, l, _, _, ⟨g, _, rfl⟩ | ⟨g, _, rfl⟩⟩
  · exact opC_adv hd q
  · exact hr _ _ _ _ _ q
  · obtain ⟨f, caps, _, q1⟩ := xCall_yes q
    exact hr _ _ _ _ _ q1
theorem rsNo {sl : Slots} {h : H} : RS.no ≠ RS.yes sl h := by simp
theorem rs_inj {sl sl' : Slots} {h h' : H} (e : RS.yes sl h = RS.yes sl' h') : sl = sl' ∧ h = h' := by cases e; exact ⟨rfl, rfl⟩
theorem oneS_yes {f : DynX} {set : Set} {k : RunS} {r : CallF} {sl sl' : Slots} {h h' : H} (q : (oneS f set k).v r sl h = .yes sl' h') : ∃ v h1, f.v r sl h = .yes v h1 ∧ k.v r (set.v v sl) h1 = .yes sl' h' := by
  replace q : RV.rec (motive := fun _ => RS) .no (fun v h' => k.v r (set.v v sl) h') (f.v r sl h) = .yes sl' h' := q
  cases hf : f.v r sl h with
  | no => rw [hf] at q; cases q
  | yes v h1 => rw [hf] at q; exact ⟨v, h1, rfl, q⟩
/-- what a guard's slot says -/
noncomputable def told (v : V) : Option Bool := onSc none (sBool none some) v
theorem guardS_eq {g : G} {want : Bool} {yes no : RunS} {r : CallF} {sl : Slots} {h : H} : (guardS g want yes no).v r sl h = if told (g.v sl) = some want then yes.v r sl h else no.v r sl h := by
  show onSc (no.v r sl h) (sBool (no.v r sl h) fun b => onC (eqB b want) (no.v r sl h) (yes.v r sl h)) (g.v sl) = _
  cases g.v sl with
  | sc s =>
    cases s <;> try rfl
    rename_i b
    show onC (eqB b want) (no.v r sl h) (yes.v r sl h) = if some b = some want then _ else _
    cases b <;> cases want <;> rfl
  | agg _ => rfl
  | tup _ => rfl
theorem opsC_adv {E : Env} {nt : Nat} {ops : Array Oper} {r : CallF} (hr : AdvF r) : ∀ (l : List Oper) (sl sl' : Slots) (h h' : H), (opsC E nt ops l).v r sl h = .yes sl' h' → Adv h h'
  | [], sl, sl', h, h', q => by
    obtain ⟨_, rfl⟩ := rs_inj q
    exact Adv.refl _
  | o :: rest, sl, sl', h, h', q => by
    unfold opsC at q
    split at q
    · rename_i set hset
      have skip : (skipS set (opsC E nt ops rest)).v r sl h = .yes sl' h' → Adv h h' := fun q => opsC_adv hr rest _ _ _ _ q
      have one : (match opX E nt o.op with | some f => oneS f set (opsC E nt ops rest) | none => failS).v r sl h = .yes sl' h' → Adv h h' := by
        intro q
        split at q
        · rename_i f hf
          obtain ⟨v, h1, q1, q2⟩ := oneS_yes q
          exact (opX_adv hf hr q1).trans (opsC_adv hr rest _ _ _ _ q2)
        · cases q
      unfold guarded at q
      split at q
      · exact one q
      · split at q
        · rw [guardS_eq] at q
          split at q
          · exact one q
          · exact skip q
        · cases q
    · cases q
def RCAdv (h : H) : RC → Prop
  | .no => True
  | .normal _ h' => Adv h h'
  | .exit _ _ h' => Adv h h'
  | .ret _ h' => Adv h h'
theorem RCAdv.trans {h h1 : H} {c : RC} (a : Adv h h1) (b : RCAdv h1 c) : RCAdv h c := by
  cases c with
  | no => trivial
  | _ => exact a.trans b
structure AdvC (r : Rec) : Prop where
  call : AdvF r.call
  code : ∀ nt c sl h, RCAdv h (r.code nt c sl h)
end Go.Proofs.YtjmdmpfekoinbaaGreat.AMK

namespace Go.Proofs.YtjmdmpfekoinbaaGreat.AMK
open Go

/-! ### an operation in the machine: calls too -/
def Enters (P : Program) (f : Nat) : Prop := ∃ fn, P.funcs[f]? = some fn ∧ (fn.name == "runtime.NumGoroutine") = false ∧ fn.body.isNone = false
def CallsTo (P : Program) (f : Nat) (us : List Value) (φ : Phi) (h : H) (w : World) (v : V) (h' : H) : Prop :=
  Calls P f us.toArray w fun e w' => match e with
    | .returned u => ∃ φ', Step φ h w φ' h' w' ∧ VR φ' v u
    | _ => False
def CallSim (P : Program) (r : CallF) : Prop := ∀ f args h v h', r f args h = .yes v h' → WF h → Enters P f ∧ ∀ φ w us, HR φ h.get w → All2 (VR φ) args us → Free φ h h' → CallsTo P f us φ h w v h'
theorem run_enter {P : Program} {f : Nat} (he : Enters P f) {ρ : Operand → Value} {dst : Option Tmp} {fo : Operand} {args : Array Operand} {ats : Array TypeId} {ty : TypeId} {pos : String} {aft : Array Edge} {gd : Option (Nat × Bool)} {caps : Array Value} (hf : ρ fo = .func (.func f) #[] caps) (w : World) :
    (execOp ρ ⟨dst, .call ⟨.value fo, args, ats⟩, ty, pos, aft, gd⟩).run P w = .ok (.enter f (args.map ρ ++ caps)) w := by
  obtain ⟨fn, h1, h2, h3⟩ := he
  have h2' : ¬ fn.name = "runtime.NumGoroutine" := by simpa using h2
  have h3' : ¬ fn.body = none := by intro e; rw [e] at h3; cases h3
  simp [execOp, resolve, hf, Deferred.ofValue, invoke, callFunc, h1, h2', h3']
theorem caps_ok {φ : Phi} : ∀ {caps : List Id} {cs : List Loc}, caps.map φ = cs.map some → All2 (VR φ) (caps.map fun x => V.sc (.ptr x 0 0)) (cs.map fun l => Value.pointer (some (l.at 0 0)))
  | [], [], _ => .nil
  | [], _ :: _, h => by simp at h
  | _ :: _, [], h => by simp at h
  | x :: caps, l :: cs, h => by
    simp only [List.map_cons, List.cons.injEq] at h
    exact .cons ⟨l, h.1, rfl⟩ (caps_ok h.2)
theorem opX_wp {E : Env} (hE : E.Ok) {nt : Nat} {o : Oper} {f : DynX} (ho : opX E nt o.op = some f) {r : CallF} (hr : CallSim E.P r) {φ : Phi} {sl : Slots} {h h' : H} {v : V} {a : Act} (hρ : OpsR φ nt sl a.eval o.op.operands) (q : f.v r sl h = .yes v h') {w : World} (hw : WF h) (hh : HR φ h.get w) (hf : Free φ h h')
    {next : Act → World → Prop} {Q : Exit → Act → World → Prop} (hn : ∀ u w' φ', Step φ h w φ' h' w' → VR φ' v u → next (a.put o.dst u) w') : o.wp E.P a w next Q := by
  rcases opX_cases ho with ⟨d, hd, rfl⟩ | ⟨fo, args, ats, l, hop, hl, hx⟩
  · have hact : ActsN E.P φ h w (execOp a.eval o) v h' := by
      cases hs : isStrong o.op with
      | true => exact strong_ok hE hs hd hρ q hh hf
      | false =>
        rcases weak_ok hE hs hd hρ q w with hk | hk
        · obtain ⟨rfl, h2⟩ := hk h.get hh (fun _ _ _ _ => rfl)
          exact h2.acts hh
        · exact hk.acts hh hf
    obtain ⟨u, w', φ', h1 | ⟨h1, rfl⟩, h2, h3⟩ := hact
    · unfold Oper.wp
      rw [h1]
      exact hn u w' φ' h2 h3
    · unfold Oper.wp
      rw [h1]
      exact hn _ w' φ' h2 h3
  · obtain ⟨dst, op, ty, pos, aft, gd⟩ := o
    dsimp only at hop hρ hn ⊢
    subst hop
    have hargs := args_ok (φ := φ) (sl := sl) (ρ := a.eval) hl (fun x hx g hg => hρ x (by simp only [Op.operands, Call.operands, Array.toList_append, List.mem_append]; exact .inr hx) g hg)
    have done : ∀ (fid : Nat) (caps : Array Value), a.eval fo = .func (.func fid) #[] caps → Enters E.P fid → CallsTo E.P fid ((args.map a.eval ++ caps).toList) φ h w v h' → Oper.wp E.P ⟨dst, .call ⟨.value fo, args, ats⟩, ty, pos, aft, gd⟩ a w next Q := by
      intro fid caps h1 h2 h3
      unfold Oper.wp
      rw [run_enter h2 h1 w, Oper.upon_enter]
      refine Calls.mono (show Calls E.P fid (args.map a.eval ++ caps) w _ from h3) fun e w' he => ?_
      cases e with
      | returned u => obtain ⟨φ', s1, s2⟩ := he; exact hn u w' φ' s1 s2
      | panicked _ => exact he.elim
      | outgrown => exact he.elim
    rcases hx with ⟨g, rfl, rfl⟩ | ⟨g, hg, rfl⟩
    · obtain ⟨h1, h2⟩ := hr g _ _ _ _ q hw
      refine done g #[] rfl h1 (h2 φ w _ hh ?_ hf)
      simpa using hargs
    · obtain ⟨fid, caps, hv, q1⟩ := xCall_yes q
      have hfo := hρ fo (by simp [Op.operands, Call.operands]) g hg
      rw [hv] at hfo
      obtain ⟨cs, c1, c2⟩ := hfo
      obtain ⟨h1, h2⟩ := hr fid _ _ _ _ q1 hw
      refine done fid _ c2 h1 (h2 φ w _ hh ?_ hf)
      rw [Array.toList_append, Array.toList_map]
      exact hargs.append (caps_ok c1)

/-! ### guards -/
theorem told_ok {φ : Phi} {a : V} {u : Value} (h : VR φ a u) (b : Bool) : told a = some b ↔ u = .bool b := by
  cases a with
  | sc s =>
    cases s with
    | bool c =>
      cases h
      constructor
      · intro e; cases e; rfl
      · intro e; cases e; rfl
    | sl x o n c =>
      cases c <;> (obtain ⟨l, _, h⟩ := h; constructor <;> intro e <;> first | (cases e; done) | (subst e; simp at h))
    | str s => obtain ⟨t, rfl, _⟩ := h; constructor <;> intro e <;> cases e
    | ptr x i f => obtain ⟨l, _, rfl⟩ := h; constructor <;> intro e <;> cases e
    | emp => obtain ⟨p, c, rfl⟩ := h; constructor <;> intro e <;> cases e
    | map x => obtain ⟨l, _, rfl⟩ := h; constructor <;> intro e <;> cases e
    | fn f caps => obtain ⟨cs, _, rfl⟩ := h; constructor <;> intro e <;> cases e
    | _ => cases h; constructor <;> intro e <;> cases e
  | agg cs => obtain ⟨l, rfl, _⟩ := h; constructor <;> intro e <;> cases e
  | tup vs => obtain ⟨l, rfl, _⟩ := h; constructor <;> intro e <;> cases e
/-- is the operation done? -/
noncomputable def wantedA (nt : Nat) (ops : Array Oper) (o : Oper) (sl : Slots) : Bool :=
  match o.guard with
  | none => true
  | some (j, want) => match guardOf nt ops j with
    | some d => told (sget sl d) == some want
    | none => false
theorem guardOf_some {nt : Nat} {ops : Array Oper} {j d : Nat} (h : guardOf nt ops j = some d) : d < nt ∧ ∃ oj, ops[j]? = some oj ∧ oj.dst = some d := by
  unfold guardOf at h
  split at h
  · rename_i oj hj
    split at h
    · rename_i d' hd
      split at h
      · rename_i hlt
        cases h
        exact ⟨hlt, oj, hj, hd⟩
      · cases h
    · cases h
  · cases h
theorem yielded_eq {φ : Phi} {nt : Nat} {ops : Array Oper} {j d : Nat} (h : guardOf nt ops j = some d) {tm : Array Value} (hs : tm.size = nt) {a : V} (hv : VR φ a (tm.getD d Go.undef)) (want : Bool) : (told a == some want) = (yielded ops tm j == some want) := by
  obtain ⟨hlt, oj, h1, h2⟩ := guardOf_some h
  have h3 : tm[d]? = some (tm.getD d Go.undef) := by
    have : d < tm.size := by omega
    simp [Array.getD, this]
  have hy : yielded ops tm j = match (some (tm.getD d Go.undef) : Option Value) with | some (.bool b) => some b | _ => none := by
    unfold yielded
    rw [h1]
    simp only [Option.bind_some, h2, h3]
    rfl
  rw [hy]
  have h4 := told_ok hv want
  rw [Bool.eq_iff_iff, beq_iff_eq, beq_iff_eq, h4]
  constructor
  · intro e; rw [e]
  · intro e
    split at e
    · rename_i b hb
      cases e
      exact (Option.some.inj hb)
    · cases e
theorem OpsR.of {φ : Phi} {nt : Nat} {sl : Slots} {a : Act} (h : SlR φ nt sl a.tmps) (xs : Array Operand) : OpsR φ nt sl a.eval xs := fun x _ g hg => operC_ok h hg a.defers
theorem Free.left {φ : Phi} {h h1 h' : H} (f : Free φ h h') (a : h1.next.num ≤ h'.next.num) : Free φ h h1 := fun x h1 h2 => f x h1 (by omega)
theorem Free.right {φ φ1 : Phi} {h h1 h' : H} {w w1 : World} (f : Free φ h h') (a : h.next.num ≤ h1.next.num) (s : Step φ h w φ1 h1 w1) : Free φ1 h1 h' := fun x h1 h2 => by
  rw [s.phi x (.inr h1)]
  exact f x (by omega) h2

/-! ### a region in the text's order -/
theorem opsC_wp {E : Env} (hE : E.Ok) {nt : Nat} {ops : Array Oper} {r : CallF} (hr : CallSim E.P r) (ha : AdvF r) {Q : Exit → Act → World → Prop} (l : List Oper) : ∀ (i : Nat) (sl sl' : Slots) (h h' : H) (φ : Phi) (a : Act) (w : World), ops.toList.drop i = l → SlR φ nt sl a.tmps → HR φ h.get w → WF h →
    (opsC E nt ops l).v r sl h = .yes sl' h' → Free φ h h' → (∀ φ' tm' w', Step φ h w φ' h' w' → SlR φ' nt sl' tm' → Q .normal ⟨tm', a.defers⟩ w') → wpOps E.P ops Q (List.range' i l.length) a w := by
  induction l with
  | nil =>
    intro i sl sl' h h' φ a w hl hs hh hw q hf hQ
    obtain ⟨rfl, rfl⟩ := rs_inj q
    exact hQ φ a.tmps w (Step.refl hh) hs
  | cons o rest ih =>
    intro i sl sl' h h' φ a w hl hs hh hw q hf hQ
    have hoi : ops[i]? = some o := by
      rw [← Array.getElem?_toList]
      have : (ops.toList.drop i)[0]? = some o := by rw [hl]; rfl
      rw [List.getElem?_drop, Nat.add_zero] at this
      exact this
    have hrest : ops.toList.drop (i + 1) = rest := by
      rw [← List.drop_drop, hl]
      rfl
    unfold opsC at q
    split at q
    · rename_i set hset
      rw [List.length_cons, List.range'_succ]
      unfold wpOps
      rw [hoi]
      dsimp only
      have skip : (skipS set (opsC E nt ops rest)).v r sl h = .yes sl' h' → Region.wanted o (yielded ops a.tmps) = false → (if Region.wanted o (yielded ops a.tmps) then o.wp E.P a w (wpOps E.P ops Q (List.range' (i + 1) rest.length)) Q ∨ (o.asks E.P a w ∧ LetsOut Q) else wpOps E.P ops Q (List.range' (i + 1) rest.length) (a.put o.dst Go.undef) w) := by
        intro q hw'
        rw [hw']
        simp only [Bool.false_eq_true, if_false]
        have hs' := hs.set hset (VR.undef φ) a.defers
        have := ih (i + 1) _ sl' h h' φ (a.put o.dst Go.undef) w hrest hs' hh hw q hf
        have hdf : (a.put o.dst Go.undef).defers = a.defers := by unfold Act.put; cases o.dst <;> rfl
        rw [hdf] at this
        exact this hQ
      have one : (match opX E nt o.op with | some f => oneS f set (opsC E nt ops rest) | none => failS).v r sl h = .yes sl' h' → Region.wanted o (yielded ops a.tmps) = true → (if Region.wanted o (yielded ops a.tmps) then o.wp E.P a w (wpOps E.P ops Q (List.range' (i + 1) rest.length)) Q ∨ (o.asks E.P a w ∧ LetsOut Q) else wpOps E.P ops Q (List.range' (i + 1) rest.length) (a.put o.dst Go.undef) w) := by
        intro q hw'
        rw [hw']
        simp only [if_true]
        left
        split at q
        · rename_i f hfx
          obtain ⟨v, h1, q1, q2⟩ := oneS_yes q
          have adv1 := opX_adv hfx ha q1
          have adv2 := opsC_adv ha rest _ _ _ _ q2
          refine opX_wp hE hfx hr (OpsR.of hs _) q1 hw hh (hf.left adv2.next) fun u w1 φ1 s1 hv => ?_
          have hext : Ext φ φ1 := s1.ext (hf.left adv2.next)
          have hs' := (hs.mono hext).set hset hv a.defers
          have := ih (i + 1) _ sl' h1 h' φ1 (a.put o.dst u) w1 hrest hs' s1.heap (adv1.wf hw) q2 (hf.right adv1.next s1)
          have hdf : (a.put o.dst u).defers = a.defers := by unfold Act.put; cases o.dst <;> rfl
          rw [hdf] at this
          exact this fun φ' tm' w' s2 hs2 => hQ φ' tm' w' (Step.trans adv1.next adv2.next s1 s2) hs2
        · cases q
      unfold guarded at q
      split at q
      · rename_i hg
        exact one q (by simp [Region.wanted, hg])
      · rename_i j want hg
        split at q
        · rename_i d hd
          rw [guardS_eq, getC_eq] at q
          have hlt := (guardOf_some hd).1
          have hy := yielded_eq hd hs.size (hs.at_ d hlt) want
          have hwd : Region.wanted o (yielded ops a.tmps) = (told (sget sl d) == some want) := by simp only [Region.wanted, hg]; rw [hy]
          split at q
          · rename_i ht
            exact one q (by rw [hwd, ht]; simp)
          · rename_i ht
            refine skip q ?_
            rw [hwd]
            simpa using ht
        · cases q
    · cases q
end Go.Proofs.YtjmdmpfekoinbaaGreat.AMK
