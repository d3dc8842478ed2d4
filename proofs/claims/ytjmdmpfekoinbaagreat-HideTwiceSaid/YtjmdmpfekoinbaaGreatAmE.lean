/- Answers of the abstract machine that are told, and structs that are compared. No condition. -/
import Derived.Test.YtjmdmpfekoinbaaGreatAmD
set_option linter.unusedVariables false
namespace Go.Proofs.YtjmdmpfekoinbaaGreat.AMK
open Go
noncomputable section

/-! ### ids, moved on -/
def digOf (n : Nat) : Dig := nth .d7 (fun d => d) [.d0, .d1, .d2, .d3, .d4, .d5, .d6, .d7] n
def addDig {β : Type} (a b : Dig) (c : Bool) (k : Dig → Bool → β) : β :=
  let n := a.n + b.n + onC c 0 1
  onC (Nat.ble 8 n) (k (digOf n) false) (k (digOf (n - 8)) true)
def Id.add (x y : Id) : Option Id :=
  addDig x.e y.e false fun e c => addDig x.d y.d c fun d c => addDig x.c y.c c fun c' c => addDig x.b y.b c fun b c => addDig x.a y.a c fun a c => onC c (some ⟨a, b, c', d, e⟩) none
theorem digOf_n (n : Nat) (h : n < 8) : (digOf n).n = n := by
  have : n = 0 ∨ n = 1 ∨ n = 2 ∨ n = 3 ∨ n = 4 ∨ n = 5 ∨ n = 6 ∨ n = 7 := by omega
  rcases this with rfl | rfl | rfl | rfl | rfl | rfl | rfl | rfl <;> rfl
theorem addDig_ok {β : Type} {a b : Dig} {c : Bool} {k : Dig → Bool → β} {r : β} (h : addDig a b c k = r) : ∃ d c', k d c' = r ∧ d.n + 8 * (if c' then 1 else 0) = a.n + b.n + (if c then 1 else 0) := by
  unfold addDig at h
  have h1 := a.lt
  have h2 := b.lt
  have h3 : onC c 0 1 = if c then 1 else 0 := by cases c <;> rfl
  dsimp only at h
  rw [h3] at h
  cases hb : Nat.ble 8 (a.n + b.n + if c then 1 else 0)
  · rw [hb, onC_false] at h
    have : ¬ 8 ≤ a.n + b.n + (if c then 1 else 0) := fun h => by rw [ble_iff.2 h] at hb; cases hb
    refine ⟨_, _, h, ?_⟩
    rw [digOf_n _ (by omega)]
    simp
  · rw [hb, onC_true] at h
    have := ble_iff.1 hb
    have hc : (if c then 1 else 0) ≤ 1 := by cases c <;> simp
    refine ⟨_, _, h, ?_⟩
    rw [digOf_n _ (by omega)]
    simp
    omega
theorem Id.add_num {x y z : Id} (h : x.add y = some z) : z.num = x.num + y.num := by
  unfold Id.add at h
  obtain ⟨e, c1, h, g1⟩ := addDig_ok h
  obtain ⟨d, c2, h, g2⟩ := addDig_ok h
  obtain ⟨c, c3, h, g3⟩ := addDig_ok h
  obtain ⟨b, c4, h, g4⟩ := addDig_ok h
  obtain ⟨a, c5, h, g5⟩ := addDig_ok h
  cases c5 with
  | true => cases h
  | false =>
    cases h
    simp only [Id.num]
    simp only [Bool.false_eq_true, if_false] at g1 g5
    omega

/-! ### an image of what a call leaves -/
inductive IBlk where
  | box (cs : List S) (size : Nat)
  | arr (rows : List (List S)) (size : Nat)
/-- the answer, the blocks that it reaches, how many numbers were given -/
structure Img where
  v : V
  bs : List (Id × IBlk)
  next : Id
def mapO {α β : Type} (f : α → Option β) (l : List α) : Option (List β) := List.rec (motive := fun _ => Option (List β)) (some []) (fun a _ ih => onO (f a) none fun b => onO ih none fun r => some (b :: r)) l
def S.ren (ρ : Id → Option Id) (s : S) : Option S :=
  S.rec (motive := fun _ => Option S) (fun k n => some (.int k n)) (fun b => some (.bool b)) (fun s => some (.str s)) (some .nilp) (fun x i f => onO (ρ x) none fun y => some (.ptr y i f)) (some .nils) (some .emp)
    (fun x o n c => onO (ρ x) none fun y => some (.sl y o n c)) (some .nilm) (fun x => onO (ρ x) none fun y => some (.map y)) (some .nilf) (fun f caps => onO (mapO ρ caps) none fun c => some (.fn f c)) (some .nili) s
def pren (ρ : Id → Option Id) (p : Bool × List S) : Option (Bool × List S) := onO (mapO (S.ren ρ) p.2) none fun l => some (p.1, l)
def V.ren (ρ : Id → Option Id) (v : V) : Option V :=
  V.rec (motive := fun _ => Option V) (fun s => onO (s.ren ρ) none fun t => some (.sc t)) (fun cs => onO (mapO (S.ren ρ) cs) none fun l => some (.agg l)) (fun vs => onO (mapO (pren ρ) vs) none fun l => some (.tup l)) v
def IBlk.ren (ρ : Id → Option Id) (clk : Nat) (b : IBlk) : Option Blk :=
  IBlk.rec (motive := fun _ => Option Blk) (fun cs size => onO (mapO (S.ren ρ) cs) none fun l => some (.box l size clk))
    (fun rows size => onO (mapO (mapO (S.ren ρ)) rows) none fun l => some (.arr (rowOf l) (len l) size false clk)) b
def layAll (ρ : Id → Option Id) (clk : Nat) (l : List (Id × IBlk)) : Heap → Option Heap :=
  List.rec (motive := fun _ => Heap → Option Heap) (fun t => some t) (fun p _ ih t => onO (ρ p.1) none fun y => onO (p.2.ren ρ clk) none fun b => ih (t.set y b)) l
/-- the image laid behind what there is -/
def Img.lay (m : Img) (h : H) : RV :=
  H.rec (motive := fun _ => RV) (fun t next clk => onO (next.add m.next) .no fun next' => onO (m.v.ren next.add) .no fun v => onO (layAll next.add clk m.bs t) .no fun t' => .yes v ⟨t', next', clk + 1⟩) h

/-! what the machine has left is the image -/
def Id.same (x y : Id) : Bool := Nat.beq x.num y.num
def lsame {α : Type} (f : α → α → Bool) (l : List α) : List α → Bool :=
  List.rec (motive := fun _ => List α → Bool) (fun m => List.rec (motive := fun _ => Bool) true (fun _ _ _ => false) m) (fun a _ ih m => List.rec (motive := fun _ => Bool) false (fun b r _ => onC (f a b) false (ih r)) m) l
def osame (a b : Option Nat) : Bool := onO a (onO b true fun _ => false) fun x => onO b false fun y => Nat.beq x y
def S.same : S → S → Bool
  | .int k n, .int k' n' => onC (kindEq k k') false (eqZ n n')
  | .bool b, .bool b' => eqB b b'
  | .str s, .str s' => listEq s s'
  | .nilp, .nilp => true
  | .ptr x i f, .ptr x' i' f' => onC (x.same x') false (onC (Nat.beq i i') false (Nat.beq f f'))
  | .nils, .nils => true
  | .emp, .emp => true
  | .sl x o n c, .sl x' o' n' c' => onC (x.same x') false (onC (Nat.beq o o') false (onC (Nat.beq n n') false (osame c c')))
  | .nilm, .nilm => true
  | .map x, .map x' => x.same x'
  | .nilf, .nilf => true
  | .fn f caps, .fn f' caps' => onC (Nat.beq f f') false (lsame Id.same caps caps')
  | .nili, .nili => true
  | _, _ => false
def psame (p q : Bool × List S) : Bool := onC (eqB p.1 q.1) false (lsame S.same p.2 q.2)
def V.same : V → V → Bool
  | .sc s, .sc t => s.same t
  | .agg l, .agg m => lsame S.same l m
  | .tup l, .tup m => lsame psame l m
  | _, _ => false
/-- a row's elements, from i on -/
def arrList (t : Arr) (n i : Nat) : List (List S) := Nat.rec (motive := fun _ => Nat → List (List S)) (fun _ => []) (fun _ ih i => t.get i :: ih (i + 1)) n i
def fits (b : Blk) (m : IBlk) : Bool :=
  IBlk.rec (motive := fun _ => Bool) (fun cs size => Blk.rec (motive := fun _ => Bool) (fun cs' size' _ => onC (Nat.beq size size') false (lsame S.same cs cs')) (fun _ _ _ _ _ => false) (fun _ _ _ => false) false b)
    (fun rows size => Blk.rec (motive := fun _ => Bool) (fun _ _ _ => false) (fun t n size' ro _ => onC ro (onC (Nat.beq size size') false (lsame (lsame S.same) rows (arrList t n 0))) false) (fun _ _ _ => false) false b) m
def allL {α : Type} (f : α → Bool) (l : List α) : Bool := List.rec (motive := fun _ => Bool) true (fun a _ ih => onC (f a) false ih) l
def imgOk (r : RV) (m : Img) : Bool := RV.rec (motive := fun _ => Bool) false (fun v h => onC (V.same m.v v) false (onC (Id.same m.next h.next) false (allL (fun p => fits (h.get p.1) p.2) m.bs))) r
theorem Id.same_eq {x y : Id} (h : x.same y = true) : x = y := Id.num_inj (beq_iff.1 h)
theorem lsame_eq {α : Type} {f : α → α → Bool} (hf : ∀ a b, f a b = true → a = b) : ∀ {l m : List α}, lsame f l m = true → l = m
  | [], [], _ => rfl
  | [], _ :: _, h => by cases h
  | _ :: _, [], h => by cases h
  | a :: l, b :: m, h => by
    obtain ⟨h1, h2⟩ := onC_yes (show onC (f a b) false (lsame f l m) = true from h) (by simp)
    rw [hf a b h1, lsame_eq hf h2]
theorem osame_eq {a b : Option Nat} (h : osame a b = true) : a = b := by
  cases a <;> cases b <;> first | rfl | (cases h; done) | exact congrArg some (beq_iff.1 h)
theorem nf : false ≠ true := by simp
theorem S.same_eq {a b : S} (h : a.same b = true) : a = b := by
  unfold S.same at h
  split at h
  · obtain ⟨h1, h2⟩ := onC_yes h nf
    rw [eqZ_eq] at h2
    rw [kindEq_iff.1 h1, eq_of_beq h2]
  · rw [eqB_eq] at h; rw [eq_of_beq h]
  · rw [listEq_iff.1 h]
  · rfl
  · obtain ⟨h1, h2⟩ := onC_yes h nf
    obtain ⟨h3, h4⟩ := onC_yes h2 nf
    rw [Id.same_eq h1, beq_iff.1 h3, beq_iff.1 h4]
  · rfl
  · rfl
  · obtain ⟨h1, h2⟩ := onC_yes h nf
    obtain ⟨h3, h4⟩ := onC_yes h2 nf
    obtain ⟨h5, h6⟩ := onC_yes h4 nf
    rw [Id.same_eq h1, beq_iff.1 h3, beq_iff.1 h5, osame_eq h6]
  · rfl
  · rw [Id.same_eq h]
  · rfl
  · obtain ⟨h1, h2⟩ := onC_yes h nf
    rw [beq_iff.1 h1, lsame_eq (fun _ _ => Id.same_eq) h2]
  · rfl
  · cases h
theorem psame_eq {a b : Bool × List S} (h : psame a b = true) : a = b := by
  obtain ⟨h1, h2⟩ := onC_yes h nf
  rw [eqB_eq] at h1
  exact Prod.ext (eq_of_beq h1) (lsame_eq (fun _ _ => S.same_eq) h2)
theorem V.same_eq {a b : V} (h : a.same b = true) : a = b := by
  unfold V.same at h
  split at h
  · rw [S.same_eq h]
  · rw [lsame_eq (fun _ _ => S.same_eq) h]
  · rw [lsame_eq (fun _ _ => psame_eq) h]
  · cases h
theorem arrList_get (t : Arr) : ∀ (n i j : Nat), j < n → (arrList t n i)[j]? = some (t.get (i + j))
  | n + 1, i, 0, _ => rfl
  | n + 1, i, j + 1, h => by
    show (t.get i :: arrList t n (i + 1))[j + 1]? = _
    rw [List.getElem?_cons_succ, arrList_get t n (i + 1) j (by omega)]
    congr 2
    omega
theorem arrList_length (t : Arr) : ∀ n i, (arrList t n i).length = n
  | 0, _ => rfl
  | n + 1, i => congrArg (· + 1) (arrList_length t n (i + 1))
theorem fits_yes {b : Blk} {m : IBlk} (h : fits b m = true) : (∃ cs size st, m = .box cs size ∧ b = .box cs size st) ∨ ∃ rows size t n st, m = .arr rows size ∧ b = .arr t n size false st ∧ rows = arrList t n 0 := by
  cases m with
  | box cs size =>
    cases b with
    | box cs' size' st =>
      obtain ⟨h1, h2⟩ := onC_yes (show onC (Nat.beq size size') false (lsame S.same cs cs') = true from h) nf
      have h1 := beq_iff.1 h1
      have h2 := lsame_eq (fun _ _ => S.same_eq) h2
      subst h1 h2
      exact .inl ⟨_, _, _, rfl, rfl⟩
    | _ => cases h
  | arr rows size =>
    cases b with
    | arr t n size' ro st =>
      replace h : onC ro (onC (Nat.beq size size') false (lsame (lsame S.same) rows (arrList t n 0))) false = true := h
      cases ro with
      | true => cases h
      | false =>
        obtain ⟨h1, h2⟩ := onC_yes (show onC (Nat.beq size size') false (lsame (lsame S.same) rows (arrList t n 0)) = true from h) nf
        have h1 := beq_iff.1 h1
        subst h1
        exact .inr ⟨_, _, _, _, _, rfl, rfl, lsame_eq (fun _ _ => lsame_eq fun _ _ => S.same_eq) h2⟩
    | _ => cases h
theorem allL_iff {α : Type} {f : α → Bool} : ∀ {l : List α}, allL f l = true → ∀ a ∈ l, f a = true
  | [], _, a, ha => by cases ha
  | b :: l, h, a, ha => by
    obtain ⟨h1, h2⟩ := onC_yes (show onC (f b) false (allL f l) = true from h) nf
    rcases List.mem_cons.1 ha with rfl | ha
    · exact h1
    · exact allL_iff h2 a ha
theorem imgOk_yes {r : RV} {m : Img} (h : imgOk r m = true) : ∃ h1, r = .yes m.v h1 ∧ h1.next = m.next ∧ ∀ p ∈ m.bs, fits (h1.get p.1) p.2 = true := by
  cases r with
  | no => cases h
  | yes v h1 =>
    obtain ⟨e1, e2⟩ := onC_yes (show onC (V.same m.v v) false (onC (Id.same m.next h1.next) false (allL (fun p => fits (h1.get p.1) p.2) m.bs)) = true from h) nf
    obtain ⟨e3, e4⟩ := onC_yes e2 nf
    rw [V.same_eq e1]
    exact ⟨h1, rfl, (Id.same_eq e3).symm, allL_iff e4⟩

/-! ### the image lies as the call left it -/
theorem mapO_yes {α β : Type} {f : α → Option β} : ∀ {l : List α} {m : List β}, mapO f l = some m → All2 (fun a b => f a = some b) l m
  | [], m, h => by cases h; exact .nil
  | a :: l, m, h => by
    obtain ⟨b, h1, h2⟩ := onO_yes (show onO (f a) none (fun b => onO (mapO f l) none fun r => some (b :: r)) = some m from h) nn
    obtain ⟨r, h3, h4⟩ := onO_yes h2 nn
    cases h4
    exact .cons h1 (mapO_yes h3)
/-- phi' knows the moved ids as phi1 knows the old ones -/
def Moved (ρ : Id → Option Id) (φ1 φ' : Phi) : Prop := ∀ x y l, ρ x = some y → φ1 x = some l → φ' y = some l
theorem SR.ren {ρ : Id → Option Id} {φ1 φ' : Phi} (hm : Moved ρ φ1 φ') {s t : S} {u : Value} (h : SR φ1 s u) (hr : s.ren ρ = some t) : SR φ' t u := by
  cases s with
  | ptr x i f =>
    obtain ⟨y, h1, h2⟩ := onO_yes (show onO (ρ x) none (fun y => some (S.ptr y i f)) = some t from hr) nn
    cases h2
    obtain ⟨l, hl, hv⟩ := h
    exact ⟨l, hm x y l h1 hl, hv⟩
  | sl x o n c =>
    obtain ⟨y, h1, h2⟩ := onO_yes (show onO (ρ x) none (fun y => some (S.sl y o n c)) = some t from hr) nn
    cases h2
    cases c with
    | none => obtain ⟨l, hl, hv⟩ := h; exact ⟨l, hm x y l h1 hl, hv⟩
    | some k => obtain ⟨l, hl, hv⟩ := h; exact ⟨l, hm x y l h1 hl, hv⟩
  | map x =>
    obtain ⟨y, h1, h2⟩ := onO_yes (show onO (ρ x) none (fun y => some (S.map y)) = some t from hr) nn
    cases h2
    obtain ⟨l, hl, hv⟩ := h
    exact ⟨l, hm x y l h1 hl, hv⟩
  | fn f caps =>
    obtain ⟨c, h1, h2⟩ := onO_yes (show onO (mapO ρ caps) none (fun c => some (S.fn f c)) = some t from hr) nn
    cases h2
    obtain ⟨cs, hc, hv⟩ := h
    refine ⟨cs, ?_, hv⟩
    have h3 := mapO_yes h1
    clear h1 hv hr
    induction h3 generalizing cs with
    | nil => simpa using hc
    | @cons x y caps c hxy ht ih =>
      cases cs with
      | nil => simp at hc
      | cons l cs =>
        simp only [List.map_cons, List.cons.injEq] at hc ⊢
        exact ⟨hm x y l hxy hc.1, ih cs hc.2⟩
  | _ => cases hr; exact h
theorem All2.ren {ρ : Id → Option Id} {φ1 φ' : Phi} (hm : Moved ρ φ1 φ') {l m : List S} {us : List Value} (h : All2 (SR φ1) l us) (hr : mapO (S.ren ρ) l = some m) : All2 (SR φ') m us := by
  have h1 := mapO_yes hr
  clear hr
  induction h1 generalizing us with
  | nil => cases h; exact .nil
  | cons hab ht ih =>
    cases h with
    | cons hu hus => exact .cons (hu.ren hm hab) (ih hus)
theorem PR.ren {ρ : Id → Option Id} {φ1 φ' : Phi} (hm : Moved ρ φ1 φ') {p q : Bool × List S} {u : Value} (h : PR φ1 p u) (hr : pren ρ p = some q) : PR φ' q u := by
  obtain ⟨l, h1, h2⟩ := onO_yes hr nn
  cases h2
  rcases h with ⟨hp, us, hv, hl⟩ | ⟨hp, s, hs, hv⟩
  · exact .inl ⟨hp, us, hv, hl.ren hm h1⟩
  · rw [hs] at h1
    have h3 := mapO_yes h1
    cases h3 with
    | cons ha ht =>
      cases ht
      exact .inr ⟨hp, _, rfl, hv.ren hm ha⟩
theorem VR.ren {ρ : Id → Option Id} {φ1 φ' : Phi} (hm : Moved ρ φ1 φ') {v v' : V} {u : Value} (h : VR φ1 v u) (hr : v.ren ρ = some v') : VR φ' v' u := by
  cases v with
  | sc s =>
    obtain ⟨t, h1, h2⟩ := onO_yes (show onO (s.ren ρ) none (fun t => some (V.sc t)) = some v' from hr) nn
    cases h2
    exact SR.ren hm h h1
  | agg cs =>
    obtain ⟨l, h1, h2⟩ := onO_yes (show onO (mapO (S.ren ρ) cs) none (fun l => some (V.agg l)) = some v' from hr) nn
    cases h2
    obtain ⟨us, hv, hl⟩ := h
    exact ⟨us, hv, hl.ren hm h1⟩
  | tup vs =>
    obtain ⟨l, h1, h2⟩ := onO_yes (show onO (mapO (pren ρ) vs) none (fun l => some (V.tup l)) = some v' from hr) nn
    cases h2
    obtain ⟨us, hv, hl⟩ := h
    refine ⟨us, hv, ?_⟩
    have h3 := mapO_yes h1
    clear h1 hr hv
    induction h3 generalizing us with
    | nil => cases hl; exact .nil
    | cons hab ht ih =>
      cases hl with
      | cons hu hus => exact .cons (hu.ren hm hab) (ih _ hus)
theorem BR.ren {ρ : Id → Option Id} {φ1 φ' : Phi} (hm : Moved ρ φ1 φ') {w : World} {l : Loc} {b b' : Blk} {m : IBlk} {clk : Nat} (h : BR φ1 w l b) (hf : fits b m = true) (hr : m.ren ρ clk = some b') : BR φ' w l b' ∧ b'.own = true ∧ b.own = true ∧ ∀ c, c ≤ clk → b'.stamped c = false := by
  rcases fits_yes hf with ⟨cs, size, st, rfl, rfl⟩ | ⟨rows, size, t, n, st, rfl, rfl, hrows⟩
  · obtain ⟨cs', h1, h2⟩ := onO_yes (show onO (mapO (S.ren ρ) cs) none (fun l => some (Blk.box l size clk)) = some b' from hr) nn
    cases h2
    have h3 := mapO_yes h1
    refine ⟨⟨h.1, by rw [← h3.length]; exact h.2.1, fun f s hs => ?_⟩, rfl, rfl, fun c hc => stamp_no _ _ hc⟩
    have hlt : f < cs.length := by rw [h3.length]; exact (List.getElem?_eq_some_iff.1 hs).1
    obtain ⟨s', e1, e2⟩ := h3.get f _ (List.getElem?_eq_getElem hlt)
    rw [hs] at e1; cases e1
    obtain ⟨⟨u, c1, c2⟩, c3⟩ := h.2.2 f _ (List.getElem?_eq_getElem hlt)
    exact ⟨⟨u, c1, c2.ren hm e2⟩, c3⟩
  · obtain ⟨rows', h1, h2⟩ := onO_yes (show onO (mapO (mapO (S.ren ρ)) rows) none (fun l => some (Blk.arr (rowOf l) (len l) size false clk)) = some b' from hr) nn
    cases h2
    have h3 := mapO_yes h1
    have hl1 : rows.length = n := by rw [hrows, arrList_length]
    have hl2 : len rows' = n := by rw [len_eq, ← h3.length, hl1]
    have h4 := h.2.2.1
    rw [hl2]
    refine ⟨⟨h.1, h.2.1, h4, fun i hi => ?_, h.2.2.2.2⟩, rfl, rfl, fun c hc => stamp_no _ _ hc⟩
    have hlen' : rows'.length = n := by rw [← len_eq]; exact hl2
    have e0 : rows[i]? = some (t.get i) := by rw [hrows, arrList_get t n 0 i hi, Nat.zero_add]
    obtain ⟨r', e1, e2⟩ := h3.get i _ e0
    have hget : (rowOf rows').get i = r' := by
      unfold rowOf
      rw [rowOf_get rows' _ _ (by omega) _ (by omega), if_pos (by omega)]
      rw [Nat.sub_zero, List.getD, e1]
      rfl
    rw [hget]
    have e3 := mapO_yes e2
    have e4 := h.2.2.2.1 i hi
    refine ⟨by rw [← e3.length]; exact e4.1, fun f s hs => ?_⟩
    have hlt : f < (t.get i).length := by rw [e3.length]; exact (List.getElem?_eq_some_iff.1 hs).1
    obtain ⟨s', e5, e6⟩ := e3.get f _ (List.getElem?_eq_getElem hlt)
    rw [hs] at e5; cases e5
    obtain ⟨u, c1, c2⟩ := e4.2 f _ (List.getElem?_eq_getElem hlt)
    exact ⟨u, c1, c2.ren hm e6⟩
theorem layAll_yes {ρ : Id → Option Id} {clk : Nat} : ∀ {l : List (Id × IBlk)} {t t' : Heap}, layAll ρ clk l t = some t' → ∀ x, (∃ p ∈ l, ρ p.1 = some x ∧ p.2.ren ρ clk = some (t'.get x)) ∨ t'.get x = t.get x
  | [], t, t', h, x => by cases h; exact .inr rfl
  | p :: l, t, t', h, x => by
    obtain ⟨y, h1, h2⟩ := onO_yes (show onO (ρ p.1) none (fun y => onO (p.2.ren ρ clk) none fun b => layAll ρ clk l (t.set y b)) = some t' from h) nn
    obtain ⟨b, h3, h4⟩ := onO_yes h2 nn
    rcases layAll_yes h4 x with ⟨q, a1, a2, a3⟩ | e
    · exact .inl ⟨q, List.mem_cons_of_mem _ a1, a2, a3⟩
    · rw [Heap.get_set] at e
      by_cases hxy : x = y
      · subst hxy
        rw [if_pos rfl] at e
        exact .inl ⟨p, List.mem_cons_self .., h1, by rw [e]; exact h3⟩
      · rw [if_neg hxy] at e
        exact .inr e
theorem layAll_some {ρ : Id → Option Id} {clk : Nat} : ∀ {l : List (Id × IBlk)} {t t' : Heap}, layAll ρ clk l t = some t' → ∀ p ∈ l, ∃ y b, ρ p.1 = some y ∧ p.2.ren ρ clk = some b
  | [], t, t', h, p, hp => by cases hp
  | q :: l, t, t', h, p, hp => by
    obtain ⟨y, h1, h2⟩ := onO_yes (show onO (ρ q.1) none (fun y => onO (q.2.ren ρ clk) none fun b => layAll ρ clk l (t.set y b)) = some t' from h) nn
    obtain ⟨b, h3, h4⟩ := onO_yes h2 nn
    rcases List.mem_cons.1 hp with rfl | hp
    · exact ⟨y, b, h1, h3⟩
    · exact layAll_some h4 p hp
theorem IBlk.ren_own {ρ : Id → Option Id} {clk : Nat} {m : IBlk} {b : Blk} (h : m.ren ρ clk = some b) : b.own = true ∧ ∀ c, c ≤ clk → b.stamped c = false := by
  cases m with
  | box cs size =>
    obtain ⟨l, h1, h2⟩ := onO_yes (show onO (mapO (S.ren ρ) cs) none (fun l => some (Blk.box l size clk)) = some b from h) nn
    cases h2
    exact ⟨rfl, fun c hc => stamp_no _ _ hc⟩
  | arr rows size =>
    obtain ⟨l, h1, h2⟩ := onO_yes (show onO (mapO (mapO (S.ren ρ)) rows) none (fun l => some (Blk.arr (rowOf l) (len l) size false clk)) = some b from h) nn
    cases h2
    exact ⟨rfl, fun c hc => stamp_no _ _ hc⟩
theorem lay_yes {m : Img} {h h' : H} {v : V} (q : m.lay h = .yes v h') : ∃ next', h.next.add m.next = some next' ∧ m.v.ren h.next.add = some v ∧ h'.next = next' ∧ h'.clk = h.clk + 1 ∧ (∀ x, (∃ p ∈ m.bs, h.next.add p.1 = some x ∧ p.2.ren h.next.add h.clk = some (h'.get x)) ∨ h'.get x = h.get x) := by
  obtain ⟨t, nx, c⟩ := h
  obtain ⟨next', h1, h2⟩ := onO_yes (show onO (nx.add m.next) RV.no (fun next' => onO (m.v.ren nx.add) .no fun v => onO (layAll nx.add c m.bs t) .no fun t' => .yes v ⟨t', next', c + 1⟩) = .yes v h' from q) noYes
  obtain ⟨v', h3, h4⟩ := onO_yes h2 noYes
  obtain ⟨t', h5, h6⟩ := onO_yes h4 noYes
  obtain ⟨rfl, rfl⟩ := yes_inj h6
  exact ⟨next', h1, h3, rfl, rfl, fun x => layAll_yes h5 x⟩
theorem lay_adv {m : Img} (hm : ∀ p ∈ m.bs, p.1.num < m.next.num) {h h' : H} {v : V} (q : m.lay h = .yes v h') : Adv h h' := by
  obtain ⟨next', h1, h2, h3, h4, h5⟩ := lay_yes q
  have hn := Id.add_num h1
  refine ⟨by rw [h3]; omega, by omega, fun x c hc hs => ?_, fun w => ⟨fun x hx => ?_, fun x hx => ?_⟩⟩
  · rcases h5 x with ⟨p, _, _, a3⟩ | e
    · rw [(IBlk.ren_own a3).2 c hc] at hs; cases hs
    · exact e
  · rcases h5 x with ⟨p, a1, a2, _⟩ | e
    · have := Id.add_num a2
      have := hm p a1
      rw [h3] at hx
      omega
    · rw [e]
      exact w.dead x (by rw [h3] at hx; omega)
  · rcases h5 x with ⟨p, _, _, a3⟩ | e
    · exact (IBlk.ren_own a3).1
    · rw [e] at hx ⊢
      exact w.own x hx
open Classical in
theorem lay_ok {P : Program} {f : Nat} {us : List Value} {m : Img} {h1 : H} (hwf : WF h1) (hn : h1.next = m.next) (hfit : ∀ p ∈ m.bs, fits (h1.get p.1) p.2 = true) (hc : ∀ w, CallsTo P f us (fun _ => none) H.empty w m.v h1)
    {h h' : H} {v : V} (hw : WF h) (q : m.lay h = .yes v h') {φ : Phi} {w : World} (hh : HR φ h.get w) (hfr : Free φ h h') : CallsTo P f us φ h w v h' := by
  obtain ⟨next', e1, e2, e3, e4, e5⟩ := lay_yes q
  have hnum := Id.add_num e1
  refine Calls.mono (hc w) fun e w' he => ?_
  cases e with
  | panicked _ => exact he.elim
  | outgrown => exact he.elim
  | returned u =>
    obtain ⟨φ1, s, hv⟩ := he
    have hnone : ∀ x : Id, m.next.num ≤ x.num → φ1 x = none := fun x hx => by rw [s.phi x (.inr (by rw [hn]; exact hx))]
    let φ' : Phi := fun x => if hy : ∃ y, y.num < m.next.num ∧ h.next.add y = some x then φ1 hy.choose else φ x
    have hφ' : ∀ x y, y.num < m.next.num → h.next.add y = some x → φ' x = φ1 y := by
      intro x y hy hx
      have hex : ∃ y, y.num < m.next.num ∧ h.next.add y = some x := ⟨y, hy, hx⟩
      have h2 := hex.choose_spec
      have h3 : hex.choose = y := Id.num_inj (by
        have := Id.add_num h2.2
        have := Id.add_num hx
        omega)
      show (if hy : ∃ y, y.num < m.next.num ∧ h.next.add y = some x then φ1 hy.choose else φ x) = _
      rw [dif_pos hex, h3]
    have hold : ∀ x : Id, x.num < h.next.num ∨ next'.num ≤ x.num → φ' x = φ x := by
      intro x hx
      have hex : ¬ ∃ y, y.num < m.next.num ∧ h.next.add y = some x := by
        rintro ⟨y, hy, hxy⟩
        have := Id.add_num hxy
        omega
      show (if hy : ∃ y, y.num < m.next.num ∧ h.next.add y = some x then φ1 hy.choose else φ x) = _
      rw [dif_neg hex]
    have hmv : Moved h.next.add φ1 φ' := by
      intro x y l hxy hl
      have hx : x.num < m.next.num := by
        rcases Nat.lt_or_ge x.num m.next.num with h | h
        · exact h
        · rw [hnone x h] at hl; cases hl
      rw [hφ' y x hx hxy]
      exact hl
    have hblk : ∀ b, b < w.heap.size → w'.heap[b]? = w.heap[b]? := fun b hb => s.fr.block b hb (by
      rintro ⟨x, l, ho, _⟩
      rw [H.empty_get] at ho
      cases ho)
    have hge : ∀ b, owns φ1 h1.get b → w.heap.size ≤ b := fun b hb => (s.grows b hb).resolve_left (by
      rintro ⟨x, l, ho, _⟩
      rw [H.empty_get] at ho
      cases ho)
    have hpl : ∀ p ∈ m.bs, p.1.num < m.next.num := by
      intro p hp
      rcases Nat.lt_or_ge p.1.num m.next.num with h | h
      · exact h
      · have h2 := hfit p hp
        rw [hwf.dead p.1 (by rw [hn]; exact h)] at h2
        rcases fits_yes h2 with ⟨_, _, _, _, h3⟩ | ⟨_, _, _, _, _, _, h3, _⟩ <;> cases h3
    -- what lies at x
    have what : ∀ x, (h'.get x).alive = true → (∃ p ∈ m.bs, ∃ l, h.next.add p.1 = some x ∧ φ1 p.1 = some l ∧ φ' x = some l ∧ l.b < w'.heap.size ∧ w.heap.size ≤ l.b ∧ BR φ' w' l (h'.get x) ∧ (h1.get p.1).own = true) ∨
        (h'.get x = h.get x ∧ ∃ l, φ x = some l ∧ φ' x = some l ∧ l.b < w.heap.size ∧ BR φ w l (h.get x)) := by
      intro x hx
      rcases e5 x with ⟨p, a1, a2, a3⟩ | e
      · have h2 := hfit p a1
        have hal : (h1.get p.1).alive = true := by rcases fits_yes h2 with ⟨_, _, _, _, h3⟩ | ⟨_, _, _, _, _, _, h3, _⟩ <;> rw [h3] <;> rfl
        obtain ⟨l, b1, b2, b3⟩ := s.heap.lies p.1 hal
        obtain ⟨c1, c2, c3, _⟩ := b3.ren hmv h2 a3
        exact .inl ⟨p, a1, l, a2, b1, by rw [hφ' x p.1 (hpl p a1) a2]; exact b1, b2, hge l.b ⟨p.1, l, c3, b1, rfl⟩, c1, c3⟩
      · rw [e] at hx
        have hlt : x.num < h.next.num := by
          rcases Nat.lt_or_ge x.num h.next.num with h2 | h2
          · exact h2
          · rw [hw.dead x h2] at hx; cases hx
        obtain ⟨l, b1, b2, b3⟩ := hh.lies x hx
        exact .inr ⟨e, l, b1, by rw [hold x (.inl hlt)]; exact b1, b2, b3⟩
    have hbr : ∀ x l, (h.get x).alive = true → BR φ w l (h.get x) → l.b < w.heap.size → BR φ' w' l (h.get x) := by
      intro x l _ hb hl
      have hext : Ext φ φ' := fun y k hy => by
        by_cases hin : y.num < h.next.num ∨ next'.num ≤ y.num
        · rw [hold y hin]; exact hy
        · rw [hfr y (by omega) (by rw [e3]; omega)] at hy; cases hy
      exact (hb.mono hext).same (hblk l.b hl)
    refine ⟨φ', ⟨fun x hx => ?_, ⟨fun x hx => ?_, fun x y a b hne ho ha hla hlb => ?_⟩, ⟨s.fr.os, s.fr.tape, s.fr.output, s.fr.size, fun b hb _ => hblk b hb⟩, fun b hb => ?_⟩, hv.ren hmv e2⟩
    · rw [e3] at hx
      exact hold x hx
    · rcases what x hx with ⟨p, _, l, _, _, a3, a4, _, a5, _⟩ | ⟨e, l, a1, a2, a3, a4⟩
      · exact ⟨l, a3, a4, a5⟩
      · rw [e] at hx ⊢
        exact ⟨l, a2, Nat.lt_of_lt_of_le a3 s.fr.size, hbr x l hx a4 a3⟩
    · rcases what x (Blk.own_alive ho) with ⟨p, hp, l, c1, c2, c3, c4, c5, _, c6⟩ | ⟨e, l, c1, c2, c3, c4⟩ <;> rcases what y ha with ⟨p', hp', l', d1, d2, d3, d4, d5, _, d6⟩ | ⟨e', l', d1, d2, d3, d4⟩
      · rw [hla] at c3; cases c3
        rw [hlb] at d3; cases d3
        refine s.heap.apart p.1 p'.1 a b (fun e => hne ?_) c6 (Blk.own_alive d6) c2 d2
        rw [e, d1] at c1
        exact (Option.some.inj c1).symm
      · rw [hla] at c3; cases c3
        rw [hlb] at d2; cases d2
        omega
      · rw [hla] at c2; cases c2
        rw [hlb] at d3; cases d3
        omega
      · rw [hla] at c2; cases c2
        rw [hlb] at d2; cases d2
        rw [e] at ho
        rw [e'] at ha
        exact hh.apart x y a b hne ho ha c1 d1
    · obtain ⟨x, l, a1, a2, a3⟩ := hb
      rcases what x (Blk.own_alive a1) with ⟨p, hp, l', c1, c2, c3, c4, c5, _, c6⟩ | ⟨e, l', c1, c2, c3, c4⟩
      · rw [a2] at c3; cases c3
        right
        omega
      · rw [a2] at c2; cases c2
        rw [e] at a1
        exact .inl ⟨x, l, a1, c1, a3⟩
end
end Go.Proofs.YtjmdmpfekoinbaaGreat.AMK

namespace Go.Proofs.YtjmdmpfekoinbaaGreat.AMK
open Go

/-! ### calls whose answers are told -/
def ints (l : List Nat) : List V := l.map fun n => .sc (.int .i64 (.ofNat n))
def intVs (l : List Nat) : List Value := l.map fun n => .int .i64 (.ofNat n)
theorem ints_vals {φ : Phi} : ∀ {l : List Nat} {us : List Value}, All2 (VR φ) (ints l) us → us = intVs l
  | [], us, h => by cases h; rfl
  | n :: l, us, h => by
    cases h with
    | cons hu hus => rw [show _ = Value.int .i64 (.ofNat n) from hu, ints_vals hus]; rfl
theorem ints_all (φ : Phi) : ∀ l : List Nat, All2 (VR φ) (ints l) (intVs l)
  | [] => .nil
  | n :: l => .cons rfl (ints_all φ l)
/-- what is known of a call that is told -/
structure Good (P : Program) (f : Nat) (l : List Nat) (m : Img) : Prop where
  enters : Enters P f
  ids : ∀ p ∈ m.bs, p.1.num < m.next.num
  calls : ∃ h1, WF h1 ∧ h1.next = m.next ∧ (∀ p ∈ m.bs, fits (h1.get p.1) p.2 = true) ∧ ∀ w, CallsTo P f (intVs l) (fun _ => none) H.empty w m.v h1
noncomputable section
abbrev Tab := List (Nat × List Nat × Img)
/-- the entries of a function, one behind the other -/
def look : List (List V × Img) → W (List V → H → RV)
  | [] => ⟨fun _ _ => .no⟩
  | (a, m) :: l => ⟨fun args h => onC (lsame V.same a args) ((look l).v args h) (m.lay h)⟩
def entries (f : Nat) : Tab → List (List V × Img)
  | [] => []
  | (g, l, m) :: t => if g = f then (ints l, m) :: entries f t else entries f t
def ovrOf (t : Tab) (f : Nat) : Option (W (List V → H → RV)) := match entries f t with | [] => none | e :: l => some (look (e :: l))
def Env.with (E : Env) (t : Tab) : Env := { E with ovr := ovrOf t }
def Env.bare (E : Env) : Env := { E with ovr := fun _ => none }
end
theorem good_of {E : Env} (hE : E.Ok) (hO : OvrOk E) {n f : Nat} {l : List Nat} {m : Img} (q : imgOk ((big E n).call f (ints l) H.empty) m = true) : Good E.P f l m := by
  obtain ⟨h1, e1, e2, e3⟩ := imgOk_yes q
  have hk := big_ok hE hO n
  have hw := (hk.adv.call _ _ _ _ _ e1).wf H.empty_wf
  obtain ⟨h2, h3⟩ := hk.sim _ _ _ _ _ e1 H.empty_wf
  refine ⟨h2, fun p hp => ?_, h1, hw, e2, e3, fun w => ?_⟩
  · rcases Nat.lt_or_ge p.1.num m.next.num with h | h
    · exact h
    · have h4 := e3 p hp
      rw [hw.dead p.1 (by rw [e2]; exact h)] at h4
      rcases fits_yes h4 with ⟨_, _, _, _, h5⟩ | ⟨_, _, _, _, _, _, h5, _⟩ <;> cases h5
  · exact h3 (fun _ => none) w (intVs l) ⟨fun x hx => (by rw [H.empty_get] at hx; cases hx), fun x y a b _ ho => (by rw [H.empty_get] at ho; cases ho)⟩ (ints_all _ l) (fun _ _ _ => rfl)
theorem look_yes : ∀ {l : List (List V × Img)} {args : List V} {h h' : H} {v : V}, (look l).v args h = .yes v h' → ∃ a m, (a, m) ∈ l ∧ a = args ∧ m.lay h = .yes v h'
  | [], args, h, h', v, q => by cases q
  | (a, m) :: l, args, h, h', v, q => by
    replace q : onC (lsame V.same a args) ((look l).v args h) (m.lay h) = .yes v h' := q
    cases hc : lsame V.same a args
    · rw [hc, onC_false] at q
      obtain ⟨a', m', h1, h2, h3⟩ := look_yes q
      exact ⟨a', m', List.mem_cons_of_mem _ h1, h2, h3⟩
    · rw [hc, onC_true] at q
      exact ⟨a, m, List.mem_cons_self .., lsame_eq (fun _ _ => V.same_eq) hc, q⟩
theorem entries_mem {f : Nat} {a : List V} {m : Img} : ∀ {t : Tab}, (a, m) ∈ entries f t → ∃ l, (f, l, m) ∈ t ∧ a = ints l
  | [], h => by cases h
  | (g, l, m') :: t, h => by
    unfold entries at h
    split at h
    · rename_i hg
      subst hg
      rcases List.mem_cons.1 h with h | h
      · cases h
        exact ⟨l, List.mem_cons_self .., rfl⟩
      · obtain ⟨l', h1, h2⟩ := entries_mem h
        exact ⟨l', List.mem_cons_of_mem _ h1, h2⟩
    · obtain ⟨l', h1, h2⟩ := entries_mem h
      exact ⟨l', List.mem_cons_of_mem _ h1, h2⟩
theorem ovrOf_yes {t : Tab} {f : Nat} {k : W (List V → H → RV)} (hk : ovrOf t f = some k) {args : List V} {h h' : H} {v : V} (q : k.v args h = .yes v h') : ∃ l m, (f, l, m) ∈ t ∧ args = ints l ∧ m.lay h = .yes v h' := by
  unfold ovrOf at hk
  split at hk
  · cases hk
  · rename_i e l he
    cases hk
    obtain ⟨a, m, h1, h2, h3⟩ := look_yes q
    rw [← he] at h1
    obtain ⟨l', h4, h5⟩ := entries_mem h1
    exact ⟨l', m, h4, by rw [← h2, h5], h3⟩
theorem tab_ok {E : Env} {t : Tab} (ht : ∀ f l m, (f, l, m) ∈ t → Good E.P f l m) : OvrOk (E.with t) := by
  refine ⟨fun f k hk args h v h' q => ?_, fun f k hk args h v h' q hw => ?_⟩
  · obtain ⟨l, m, h1, _, h3⟩ := ovrOf_yes hk q
    exact lay_adv (ht f l m h1).ids h3
  · obtain ⟨l, m, h1, h2, h3⟩ := ovrOf_yes hk q
    obtain ⟨g1, g2, h1', g3, g4, g5, g6⟩ := ht f l m h1
    refine ⟨g1, fun φ w us hh hus hf => ?_⟩
    rw [h2] at hus
    rw [ints_vals hus]
    exact lay_ok g3 g4 g5 g6 hw h3 hh hf
theorem bare_ok (E : Env) : OvrOk E.bare := ⟨fun f k hk => (by cases hk), fun f k hk => (by cases hk)⟩
theorem Env.Ok.with {E : Env} (h : E.Ok) (t : Tab) : (E.with t).Ok := ⟨h.eqT, h.mixed⟩
theorem Env.Ok.bare {E : Env} (h : E.Ok) : E.bare.Ok := ⟨h.eqT, h.mixed⟩

/-! ### structs that are compared -/
section
variable {P : Program}
/-- a field of one cell -/
def Basic (P : Program) (t : TypeId) (k : Nat) : Prop := (k = 0 ∧ ∃ i, P.underlying t = some (.int i)) ∨ (k = 1 ∧ P.underlying t = some .bool) ∨ (k = 2 ∧ P.underlying t = some .string)
theorem Basic.agg {t : TypeId} {k : Nat} (h : Basic P t k) : isAgg P t = some false := by
  unfold isAgg
  rcases h with ⟨_, i, h⟩ | ⟨_, h⟩ | ⟨_, h⟩ <;> rw [h]
theorem basic_eq {t : TypeId} {k : Nat} (h : Basic P t k) {φ : Phi} {a b : S} {r : Bool} (q : (cellOf k).v a b = some r) {u v : Value} (ha : SR φ a u) (hb : SR φ b v) (d : Nat) (w : World) : (Op.equalIn (d + 1) t u v).run P w = .ok r w := by
  rcases h with ⟨rfl, i, h⟩ | ⟨rfl, h⟩ | ⟨rfl, h⟩
  · obtain ⟨k, x, rfl, q1⟩ := sInt_yes (show sInt none (fun k x => sInt none (fun k' y => onC (kindEq k k') none (some (eqZ x y))) b) a = some r from q) nn
    obtain ⟨k', y, rfl, q2⟩ := sInt_yes q1 nn
    obtain ⟨hk, q3⟩ := onC_yes q2 nn
    cases q3
    cases kindEq_iff.1 hk
    cases ha
    cases hb
    rw [eqZ_eq]
    exact run_equalIn_int w d t k i x y h
  · obtain ⟨x, rfl, q1⟩ := sBool_yes (show sBool none (fun x => sBool none (fun y => some (eqB x y)) b) a = some r from q) nn
    obtain ⟨y, rfl, q2⟩ := sBool_yes q1 nn
    cases q2
    cases ha
    cases hb
    rw [eqB_eq]
    exact run_equalIn_bool' w d t x y h
  · obtain ⟨x, rfl, q1⟩ := sStr_yes (show sStr none (fun x => sStr none (fun y => some (listEq x y)) b) a = some r from q) nn
    obtain ⟨y, rfl, q2⟩ := sStr_yes q1 nn
    cases q2
    obtain ⟨s, rfl, rfl⟩ := ha
    obtain ⟨t', rfl, rfl⟩ := hb
    rw [listEq_eq]
    exact run_equalIn_string w d t s t' h
theorem eqs_cons {k : Nat} {ks : List Nat} {a b : List S} {r : Bool} (q : (eqsC (k :: ks)).v a b = some r) : ∃ x a' y b' p t, a = x :: a' ∧ b = y :: b' ∧ (cellOf k).v x y = some p ∧ (eqsC ks).v a' b' = some t ∧ r = (p && t) := by
  cases a with
  | nil => cases q
  | cons x a' =>
    cases b with
    | nil => cases q
    | cons y b' =>
      obtain ⟨p, q1, q2⟩ := onO_yes (show onO ((cellOf k).v x y) none (fun p => onO ((eqsC ks).v a' b') none fun t => some (andB p t)) = some r from q) nn
      obtain ⟨t, q3, q4⟩ := onO_yes q2 nn
      cases q4
      exact ⟨x, a', y, b', p, t, rfl, rfl, q1, q3, by rw [andB_eq]⟩
theorem eqs_nil {a b : List S} {r : Bool} (q : (eqsC []).v a b = some r) : a = [] ∧ b = [] ∧ r = true := by
  cases a with
  | nil =>
    cases b with
    | nil => cases q; exact ⟨rfl, rfl, rfl⟩
    | cons _ _ => cases q
  | cons _ _ => cases q
theorem run_part {t : TypeId} (h : isAgg P t = some false) {xs : Array Value} {o : Nat} {u : Value} (hx : xs[o]? = some u) (w : World) : (part t xs o).run P w = .ok u w := by
  simp [part, isAgg_ok h, hx]
/-- two fields of one cell -/
theorem two_run {t : TypeId} {f0 f1 : Field} {k0 k1 : Nat} (ht : P.underlying t = some (.struct #[f0, f1])) (hp : P.stoodInHeld t = false) (n0 : f0.name ≠ "_") (n1 : f1.name ≠ "_") (o0 : f0.offset = 0) (o1 : f1.offset = 1) (b0 : Basic P f0.type k0) (b1 : Basic P f1.type k1)
    {φ : Phi} {a b : List S} {r : Bool} {l m : List Value} {w : World} (q : (eqsC [k0, k1]).v a b = some r) (ha : All2 (SR φ) a l) (hb : All2 (SR φ) b m) (d : Nat) : (Op.equalIn (d + 2) t (.agg l.toArray) (.agg m.toArray)).run P w = .ok r w := by
  obtain ⟨x0, a', y0, b', p, t', rfl, rfl, q0, q1, rfl⟩ := eqs_cons q
  obtain ⟨x1, a'', y1, b'', p', t'', rfl, rfl, q2, q3, rfl⟩ := eqs_cons q1
  obtain ⟨rfl, rfl, rfl⟩ := eqs_nil q3
  cases ha with
  | @cons _ u0 _ _ ha0 ha =>
    cases ha with
    | @cons _ u1 _ _ ha1 ha =>
      cases ha
      cases hb with
      | @cons _ v0 _ _ hb0 hb =>
        cases hb with
        | @cons _ v1 _ _ hb1 hb =>
          cases hb
          have hf : P.fieldsOf t = #[f0, f1] := by unfold Program.fieldsOf; rw [ht]
          have h0 := basic_eq b0 q0 ha0 hb0 d w
          have h1 := basic_eq b1 q2 ha1 hb1 d w
          rw [run_equalIn_struct w (d + 1) t _ _ (by rw [hf]; exact ht) hp, hf]
          have p0 := run_part (P := P) b0.agg (xs := [u0, u1].toArray) (o := f0.offset) (u := u0) (by rw [o0]; rfl) w
          have p1 := run_part (P := P) b0.agg (xs := [v0, v1].toArray) (o := f0.offset) (u := v0) (by rw [o0]; rfl) w
          have p2 := run_part (P := P) b1.agg (xs := [u0, u1].toArray) (o := f1.offset) (u := u1) (by rw [o1]; rfl) w
          have p3 := run_part (P := P) b1.agg (xs := [v0, v1].toArray) (o := f1.offset) (u := v1) (by rw [o1]; rfl) w
          simp only [Op.eqFields, n0, n1, ne_eq, not_false_eq_true, if_true, Sem.run_bind, p0, p1, h0, Result.andThen_ok]
          cases p
          · simp
          · cases p' <;> simp [h1, p2, p3, Sem.run_bind]
theorem two_ok {t : TypeId} {f0 f1 : Field} {k0 k1 : Nat} (hg : P.eqGuardType P.depth t = false) (ht : P.underlying t = some (.struct #[f0, f1])) (hp : P.stoodInHeld t = false) (n0 : f0.name ≠ "_") (n1 : f1.name ≠ "_") (o0 : f0.offset = 0) (o1 : f1.offset = 1) (b0 : Basic P f0.type k0) (b1 : Basic P f1.type k1) : EqTOk P t [k0, k1] :=
  ⟨hg, fun φ a b r l m w q ha hb => two_run ht hp n0 n1 o0 o1 b0 b1 q ha hb 9998⟩
/-- a struct of two cells, and a field of one -/
theorem row_ok {t s : TypeId} {g0 g1 f0 f1 : Field} {k0 k1 k2 : Nat} {is : TypeInfo} (hg : P.eqGuardType P.depth t = false) (ht : P.underlying t = some (.struct #[g0, g1])) (hp : P.stoodInHeld t = false) (n0 : g0.name ≠ "_") (n1 : g1.name ≠ "_") (o0 : g0.offset = 0) (o1 : g1.offset = 2) (hs0 : g0.type = s) (b2 : Basic P g1.type k2)
    (hs : P.underlying s = some (.struct #[f0, f1])) (his : P.info? s = some is) (hsz : is.size = 2) (hps : P.stoodInHeld s = false) (m0 : f0.name ≠ "_") (m1 : f1.name ≠ "_") (p0 : f0.offset = 0) (p1 : f1.offset = 1) (b0 : Basic P f0.type k0) (b1 : Basic P f1.type k1) : EqTOk P t [k0, k1, k2] := by
  refine ⟨hg, fun φ a b r l m w q ha hb => ?_⟩
  obtain ⟨x0, a', y0, b', p, t', rfl, rfl, q0, q1, rfl⟩ := eqs_cons q
  obtain ⟨x1, a'', y1, b'', p', t'', rfl, rfl, q2, q3, rfl⟩ := eqs_cons q1
  obtain ⟨x2, a3, y2, b3, p'', t3, rfl, rfl, q4, q5, rfl⟩ := eqs_cons q3
  obtain ⟨rfl, rfl, rfl⟩ := eqs_nil q5
  cases ha with
  | @cons _ u0 _ _ ha0 ha =>
    cases ha with
    | @cons _ u1 _ _ ha1 ha =>
      cases ha with
      | @cons _ u2 _ _ ha2 ha =>
        cases ha
        cases hb with
        | @cons _ v0 _ _ hb0 hb =>
          cases hb with
          | @cons _ v1 _ _ hb1 hb =>
            cases hb with
            | @cons _ v2 _ _ hb2 hb =>
              cases hb
              have hf : P.fieldsOf t = #[g0, g1] := by unfold Program.fieldsOf; rw [ht]
              have hin : (Op.equalIn 9999 s (.agg [u0, u1].toArray) (.agg [v0, v1].toArray)).run P w = .ok (p && p') w := by
                refine two_run hs hps m0 m1 p0 p1 b0 b1 (a := [x0, x1]) (b := [y0, y1]) ?_ (.cons ha0 (.cons ha1 .nil)) (.cons hb0 (.cons hb1 .nil)) 9997
                show onO ((cellOf k0).v x0 y0) none (fun p => onO (onO ((cellOf k1).v x1 y1) none fun p => onO (some true) none fun t => some (andB p t)) none fun t => some (andB p t)) = _
                rw [q0, q2]
                cases p <;> cases p' <;> rfl
              have h2 := basic_eq b2 q4 ha2 hb2 9998 w
              have hagg : isAgg P s = some true := by unfold isAgg; rw [hs]
              have e0 : (part g0.type [u0, u1, u2].toArray g0.offset).run P w = .ok (.agg [u0, u1].toArray) w := by
                rw [hs0, o0]
                simp [part, isAgg_ok hagg, run_size his, hsz]
              have e1 : (part g0.type [v0, v1, v2].toArray g0.offset).run P w = .ok (.agg [v0, v1].toArray) w := by
                rw [hs0, o0]
                simp [part, isAgg_ok hagg, run_size his, hsz]
              have e2 := run_part (P := P) b2.agg (xs := [u0, u1, u2].toArray) (o := g1.offset) (u := u2) (by rw [o1]; rfl) w
              have e3 := run_part (P := P) b2.agg (xs := [v0, v1, v2].toArray) (o := g1.offset) (u := v2) (by rw [o1]; rfl) w
              rw [run_equalIn_struct w 9999 t _ _ (by rw [hf]; exact ht) hp, hf]
              rw [hs0] at e0 e1
              simp only [Op.eqFields, n0, n1, ne_eq, not_false_eq_true, if_true, Sem.run_bind, hs0, e0, e1, hin, Result.andThen_ok]
              cases p
              · simp
              · cases p'
                · simp
                · cases p'' <;> simp [h2, e2, e3, Sem.run_bind]
end
end Go.Proofs.YtjmdmpfekoinbaaGreat.AMK
