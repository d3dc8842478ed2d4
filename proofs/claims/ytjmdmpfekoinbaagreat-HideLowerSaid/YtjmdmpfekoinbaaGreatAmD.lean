/- Regions, code and calls: what the abstract machine answers the Go call returns. No condition. -/
import Derived.Test.YtjmdmpfekoinbaaGreatAmC
set_option linter.unusedVariables false
namespace Go.Proofs.YtjmdmpfekoinbaaGreat.AMK
open Go

/-! ### the order of a region that draws -/
theorem foldl_bits (A : Array Nat) (j : Nat) : ∀ (l : List Edge) (s : Nat), (l.foldl (fun s e => if Region.binds .any e then s ||| 2 ^ e.on ||| A.getD e.on 0 else s) s).testBit j = (s.testBit j || l.any fun e => Region.binds .any e && (decide (e.on = j) || (A.getD e.on 0).testBit j))
  | [], s => by simp
  | e :: l, s => by
    rw [List.foldl_cons, foldl_bits A j l, List.any_cons]
    cases Region.binds .any e
    · simp
    · simp [Nat.testBit_or, Nat.testBit_two_pow, Bool.or_assoc]
def befF (acc : Array Nat) (o : Oper) : Array Nat := acc.push (o.after.foldl (fun s e => if Region.binds .any e then s ||| 2 ^ e.on ||| acc.getD e.on 0 else s) 0)
theorem befF_fold : ∀ (l : List Oper) (acc : Array Nat), (l.foldl befF acc).size = acc.size + l.length ∧ (∀ k, k < acc.size → (l.foldl befF acc).getD k 0 = acc.getD k 0) ∧
    ∀ i o, l[i]? = some o → ∃ A : Array Nat, A.size = acc.size + i ∧ (∀ k, k < A.size → (l.foldl befF acc).getD k 0 = A.getD k 0) ∧ (l.foldl befF acc).getD (acc.size + i) 0 = o.after.toList.foldl (fun s e => if Region.binds .any e then s ||| 2 ^ e.on ||| A.getD e.on 0 else s) 0
  | [], acc => ⟨rfl, fun _ _ => rfl, fun i o h => by simp at h⟩
  | o :: l, acc => by
    obtain ⟨h1, h2, h3⟩ := befF_fold l (befF acc o)
    have hs : (befF acc o).size = acc.size + 1 := by simp [befF]
    have hk : ∀ k, k < acc.size → (befF acc o).getD k 0 = acc.getD k 0 := fun k hk => by simp [befF, Array.getD_eq_getD_getElem?, Array.getElem?_push, Nat.ne_of_lt hk]
    refine ⟨by rw [List.foldl_cons, h1, hs, List.length_cons]; omega, fun k hk' => by rw [List.foldl_cons, h2 k (by omega), hk k hk'], fun i o' hi => ?_⟩
    rw [List.foldl_cons]
    cases i with
    | zero =>
      simp only [List.getElem?_cons_zero, Option.some.injEq] at hi
      subst hi
      refine ⟨acc, rfl, fun k hk' => by rw [h2 k (by omega), hk k hk'], ?_⟩
      rw [Nat.add_zero, h2 _ (by omega)]
      simp [befF, Array.getD_eq_getD_getElem?]
    | succ i =>
      obtain ⟨A, a1, a2, a3⟩ := h3 i o' (by simpa using hi)
      rw [hs] at a1 a3
      exact ⟨A, by omega, a2, by rw [show acc.size + (i + 1) = acc.size + 1 + i by omega]; exact a3⟩
theorem before_fold (ops : Array Oper) : Region.before ops = ops.toList.foldl befF #[] := by
  rw [Array.foldl_toList]
  rfl
theorem before_at (ops : Array Oper) {i : Nat} {o : Oper} (h : ops[i]? = some o) : ∃ A : Array Nat, (∀ k, k < A.size → (Region.before ops).getD k 0 = A.getD k 0) ∧ ∀ j, ((Region.before ops).getD i 0).testBit j = o.after.toList.any fun e => Region.binds .any e && (decide (e.on = j) || (A.getD e.on 0).testBit j) := by
  obtain ⟨_, _, h3⟩ := befF_fold ops.toList #[]
  obtain ⟨A, _, a2, a3⟩ := h3 i o (by rw [Array.getElem?_toList]; exact h)
  rw [← before_fold] at a2 a3
  refine ⟨A, a2, fun j => ?_⟩
  have e0 : (#[] : Array Nat).size + i = i := by simp
  rw [e0] at a3
  rw [a3, foldl_bits]
  simp
theorem before_direct (ops : Array Oper) {i : Nat} {o : Oper} (h : ops[i]? = some o) {e : Edge} (he : e ∈ o.after.toList) (hb : Region.binds .any e = true) : ((Region.before ops).getD i 0).testBit e.on = true := by
  obtain ⟨A, _, h2⟩ := before_at ops h
  rw [h2, List.any_eq_true]
  exact ⟨e, he, by simp [hb]⟩
theorem before_back (ops : Array Oper) {i j : Nat} (h : ((Region.before ops).getD i 0).testBit j = true) : ∃ o, ops[i]? = some o ∧ ∃ e ∈ o.after.toList, Region.binds .any e = true ∧ (e.on = j ∨ ((Region.before ops).getD e.on 0).testBit j = true) := by
  cases hi : ops[i]? with
  | none =>
    have hs : (Region.before ops).size = ops.size := by
      have := (befF_fold ops.toList #[]).1
      rw [← before_fold] at this
      simpa using this
    have hge : ops.size ≤ i := Array.getElem?_eq_none_iff.1 hi
    rw [Array.getD_eq_getD_getElem?, Array.getElem?_eq_none (by omega)] at h
    simp at h
  | some o =>
    obtain ⟨A, h1, h2⟩ := before_at ops hi
    rw [h2, List.any_eq_true] at h
    obtain ⟨e, he, hc⟩ := h
    simp only [Bool.and_eq_true, Bool.or_eq_true, decide_eq_true_eq] at hc
    refine ⟨o, rfl, e, he, hc.1, hc.2.imp id fun hb => ?_⟩
    have hlt : e.on < A.size := by
      rcases Nat.lt_or_ge e.on A.size with h' | h'
      · exact h'
      · rw [Array.getD_eq_getD_getElem?, Array.getElem?_eq_none h'] at hb
        simp at hb
    rw [h1 _ hlt]
    exact hb
/-- one place of an order -/
def Place (bm : Array Nat) (ops : Array Oper) (i : Nat) (seen : List Nat) : Prop :=
  ∃ o, ops[i]? = some o ∧ i ∉ seen ∧ (∀ e ∈ o.after.toList, Region.binds .any e = true → e.on ∈ seen) ∧ (∀ j, j < ops.size → (bm.getD i 0).testBit j = true → j ∈ seen) ∧ (isStrong o.op = true → ∀ j ∈ seen, (bm.getD i 0).testBit j = true) ∧
    ∀ j ∈ seen, (bm.getD i 0).testBit j = true ∨ ∃ oj, ops[j]? = some oj ∧ (∀ d, o.dst = some d → d ∉ looks ops oj ∧ oj.dst ≠ some d) ∧ ∀ d, oj.dst = some d → d ∉ looks ops o
theorem orderOk_spec (bm : Array Nat) (ops : Array Oper) : ∀ (L seen : List Nat), orderOk bm ops L seen = true → (∀ j, j < ops.size → j ∈ seen ∨ j ∈ L) ∧ ∀ p i, L[p]? = some i → Place bm ops i ((L.take p).reverse ++ seen)
  | [], seen, h => by
    refine ⟨fun j hj => .inl ?_, fun p i h => by simp at h⟩
    unfold orderOk at h
    rw [List.all_eq_true] at h
    have := h j (List.mem_range.2 hj)
    simpa using this
  | i :: rest, seen, h => by
    unfold orderOk at h
    split at h
    · cases h
    · rename_i o ho
      simp only [Bool.and_eq_true] at h
      obtain ⟨⟨⟨⟨⟨h1, h0⟩, h2⟩, h3⟩, h4⟩, h5⟩ := h
      obtain ⟨g1, g2⟩ := orderOk_spec bm ops rest (i :: seen) h5
      refine ⟨fun j hj => ?_, fun p k hk => ?_⟩
      · rcases g1 j hj with h | h
        · rcases List.mem_cons.1 h with rfl | h
          · exact .inr (List.mem_cons_self ..)
          · exact .inl h
        · exact .inr (List.mem_cons_of_mem _ h)
      · cases p with
        | zero =>
          simp only [List.getElem?_cons_zero, Option.some.injEq] at hk
          subst hk
          refine ⟨o, ho, by simpa using h1, fun e he hb => ?_, fun j hj hb => ?_, fun hs j hj => ?_, fun j hj => ?_⟩
          · rw [List.all_eq_true] at h0
            have := h0 e he
            rw [hb] at this
            simpa using this
          · rw [List.all_eq_true] at h2
            have := h2 j (List.mem_range.2 hj)
            rw [hb] at this
            simpa using this
          · rw [hs] at h3
            simp only [Bool.not_true, Bool.false_or, List.all_eq_true] at h3
            exact h3 j (by simpa using hj)
          · rw [List.all_eq_true] at h4
            have := h4 j (by simpa using hj)
            rw [Bool.or_eq_true] at this
            refine this.imp id fun h => ?_
            split at h
            · rename_i oj hoj
              rw [Bool.and_eq_true] at h
              refine ⟨oj, hoj, fun d hd => ?_, fun d hd => ?_⟩
              · have h6 := h.1
                rw [hd] at h6
                simpa using h6
              · have h6 := h.2
                rw [hd] at h6
                simpa using h6
            · cases h
        | succ p =>
          have := g2 p k (by simpa using hk)
          simpa using this

/-! ### a trace -/
structure St where
  sl : Slots
  h : H
  a : Slots
structure TStep (E : Env) (nt : Nat) (ops : Array Oper) (r : CallF) (i : Nat) (seen : List Nat) (s s' : St) (o : Oper) (set : Set) : Prop where
  at_ : ops[i]? = some o
  dst : setOf nt o.dst = some set
  guard : ∀ j want, o.guard = some (j, want) → ∃ d, guardOf nt ops j = some d
  step : (wantedA nt ops o s.sl = false ∧ s'.sl = set.v .undef s.sl ∧ s'.h = s.h ∧ s'.a = s.a) ∨
    (wantedA nt ops o s.sl = true ∧ ∃ f v, opX E nt o.op = some f ∧ f.v r s.sl s.h = .yes v s'.h ∧ s'.sl = set.v v s.sl ∧
      ((isStrong o.op = true ∧ s'.a = (setC i).v (i64 s.h.clk) s.a) ∨ (isStrong o.op = false ∧ s'.a = s.a ∧ ∀ g, loadOf nt o.op = some g → ∀ x, refs (g.v s.sl) x → (chkE (against ops (Region.before ops) seen i)).v s.h x s.a = true)))
theorem onBlk_no {β : Type} {no : β} {k : Id → β} {v : V} {r : β} (h : onBlk no k v = r) : (no = r ∧ ∀ x, ¬ refs v x) ∨ ∃ x, k x = r ∧ ∀ y, refs v y → y = x := by
  cases v with
  | sc s =>
    cases s <;> first
      | (refine .inr ⟨_, h, fun y hy => ?_⟩
         obtain ⟨s', e1, ⟨_, _, e2⟩ | ⟨_, _, _, e2⟩ | e2⟩ := hy <;> subst e2 <;> cases e1 <;> rfl)
      | (refine .inl ⟨h, fun y hy => ?_⟩
         obtain ⟨s', e1, ⟨_, _, e2⟩ | ⟨_, _, _, e2⟩ | e2⟩ := hy <;> subst e2 <;> cases e1)
  | agg _ => exact .inl ⟨h, fun y hy => by obtain ⟨s', e1, _⟩ := hy; cases e1⟩
  | tup _ => exact .inl ⟨h, fun y hy => by obtain ⟨s', e1, _⟩ := hy; cases e1⟩
theorem guardD_eq {g : G} {want : Bool} {yes no : RunD} {r : CallF} {sl : Slots} {h : H} {a : Slots} : (guardD g want yes no).v r sl h a = if told (g.v sl) = some want then yes.v r sl h a else no.v r sl h a := by
  show onSc (no.v r sl h a) (sBool (no.v r sl h a) fun b => onC (eqB b want) (no.v r sl h a) (yes.v r sl h a)) (g.v sl) = _
  cases g.v sl with
  | sc s =>
    cases s <;> try rfl
    rename_i b
    show onC (eqB b want) (no.v r sl h a) (yes.v r sl h a) = if some b = some want then _ else _
    cases b <;> cases want <;> rfl
  | agg _ => rfl
  | tup _ => rfl
theorem opD_yes {E : Env} {nt : Nat} {ops : Array Oper} {bm : Array Nat} {o : Oper} {i : Nat} {seen : List Nat} {set : Set} {k : RunD} {r : CallF} {sl sl' : Slots} {h h' : H} {a : Slots} (q : (opD E nt ops bm o i seen set k).v r sl h a = .yes sl' h') :
    ∃ f v h1 a1, opX E nt o.op = some f ∧ f.v r sl h = .yes v h1 ∧ k.v r (set.v v sl) h1 a1 = .yes sl' h' ∧ ((isStrong o.op = true ∧ a1 = (setC i).v (i64 h.clk) a) ∨ (isStrong o.op = false ∧ a1 = a ∧ ∀ g, loadOf nt o.op = some g → ∀ x, refs (g.v sl) x → (chkE (against ops bm seen i)).v h x a = true)) := by
  unfold opD at q
  split at q
  · cases q
  · rename_i f hf
    split at q
    · rename_i hs
      replace q : RV.rec (motive := fun _ => RS) .no (fun v h' => k.v r (set.v v sl) h' ((setC i).v (i64 h.clk) a)) (f.v r sl h) = .yes sl' h' := q
      cases hv : f.v r sl h with
      | no => rw [hv] at q; cases q
      | yes v h1 =>
        rw [hv] at q
        exact ⟨f, v, h1, _, hf, hv, q, .inl ⟨hs, rfl⟩⟩
    · rename_i hs
      have hs' : isStrong o.op = false := by simpa using hs
      split at q
      · rename_i g hg
        replace q : RV.rec (motive := fun _ => RS) .no (fun v h' => onBlk (k.v r (set.v v sl) h' a) (fun x => onC ((chkE (against ops bm seen i)).v h x a) .no (k.v r (set.v v sl) h' a)) (g.v sl)) (f.v r sl h) = .yes sl' h' := q
        cases hv : f.v r sl h with
        | no => rw [hv] at q; cases q
        | yes v h1 =>
          rw [hv] at q
          rcases onBlk_no q with ⟨q1, hn⟩ | ⟨x, q1, hx⟩
          · exact ⟨f, v, h1, a, hf, hv, q1, .inr ⟨hs', rfl, fun g' hg' y hy => by rw [hg] at hg'; cases hg'; exact absurd hy (hn y)⟩⟩
          · obtain ⟨q2, q3⟩ := onC_yes q1 rsNo
            exact ⟨f, v, h1, a, hf, hv, q3, .inr ⟨hs', rfl, fun g' hg' y hy => by rw [hg] at hg'; cases hg'; rw [hx y hy]; exact q2⟩⟩
      · rename_i hg
        replace q : RV.rec (motive := fun _ => RS) .no (fun v h' => k.v r (set.v v sl) h' a) (f.v r sl h) = .yes sl' h' := q
        cases hv : f.v r sl h with
        | no => rw [hv] at q; cases q
        | yes v h1 =>
          rw [hv] at q
          exact ⟨f, v, h1, a, hf, hv, q, .inr ⟨hs', rfl, fun g' hg' => by rw [hg] at hg'; cases hg'⟩⟩
theorem trace_of {E : Env} {nt : Nat} {ops : Array Oper} {r : CallF} (L : List Nat) : ∀ (seen : List Nat) (s : St) (sl' : Slots) (h' : H), (opsDC E nt ops (Region.before ops) L seen).v r s.sl s.h s.a = .yes sl' h' →
    ∃ st : Nat → St, st 0 = s ∧ (∀ p i, L[p]? = some i → ∃ o set, TStep E nt ops r i ((L.take p).reverse ++ seen) (st p) (st (p + 1)) o set) ∧ (st L.length).sl = sl' ∧ (st L.length).h = h' := by
  induction L with
  | nil =>
    intro seen s sl' h' q
    obtain ⟨e1, e2⟩ := rs_inj (show RS.yes s.sl s.h = RS.yes sl' h' from q)
    exact ⟨fun _ => s, rfl, fun p i h => by simp at h, e1, e2⟩
  | cons i rest ih =>
    intro seen s sl' h' q
    unfold opsDC at q
    split at q
    · cases q
    · rename_i o ho
      split at q
      · rename_i set hset
        have glue : ∀ s1 : St, (opsDC E nt ops (Region.before ops) rest (i :: seen)).v r s1.sl s1.h s1.a = .yes sl' h' → TStep E nt ops r i seen s s1 o set →
            ∃ st : Nat → St, st 0 = s ∧ (∀ p k, (i :: rest)[p]? = some k → ∃ o set, TStep E nt ops r k (((i :: rest).take p).reverse ++ seen) (st p) (st (p + 1)) o set) ∧ (st (i :: rest).length).sl = sl' ∧ (st (i :: rest).length).h = h' := by
          intro s1 q1 t1
          obtain ⟨st, e1, e2, e3, e4⟩ := ih (i :: seen) s1 sl' h' q1
          refine ⟨fun p => Nat.rec s (fun p _ => st p) p, rfl, fun p k hk => ?_, e3, e4⟩
          cases p with
          | zero =>
            simp only [List.getElem?_cons_zero, Option.some.injEq] at hk
            subst hk
            refine ⟨o, set, ?_⟩
            show TStep E nt ops r i ([] ++ seen) s (st 0) o set
            rw [e1]
            exact t1
          | succ p =>
            obtain ⟨o', set', t2⟩ := e2 p k (by simpa using hk)
            refine ⟨o', set', ?_⟩
            have e5 : ((i :: rest).take (p + 1)).reverse ++ seen = (rest.take p).reverse ++ (i :: seen) := by simp
            rw [e5]
            exact t2
        have one : wantedA nt ops o s.sl = true → (∀ j want, o.guard = some (j, want) → ∃ d, guardOf nt ops j = some d) → (opD E nt ops (Region.before ops) o i seen set (opsDC E nt ops (Region.before ops) rest (i :: seen))).v r s.sl s.h s.a = .yes sl' h' →
            ∃ st : Nat → St, st 0 = s ∧ (∀ p k, (i :: rest)[p]? = some k → ∃ o set, TStep E nt ops r k (((i :: rest).take p).reverse ++ seen) (st p) (st (p + 1)) o set) ∧ (st (i :: rest).length).sl = sl' ∧ (st (i :: rest).length).h = h' := by
          intro hw hg q
          obtain ⟨f, v, h1, a1, g1, g2, g3, g4⟩ := opD_yes q
          exact glue ⟨set.v v s.sl, h1, a1⟩ g3 ⟨ho, hset, hg, .inr ⟨hw, f, v, g1, g2, rfl, g4⟩⟩
        unfold guardedD at q
        split at q
        · rename_i hg
          exact one (by simp [wantedA, hg]) (fun j want e => by rw [hg] at e; cases e) q
        · rename_i j want hg
          split at q
          · rename_i d hd
            rw [guardD_eq, getC_eq] at q
            have hgg : ∀ j' want', o.guard = some (j', want') → ∃ d, guardOf nt ops j' = some d := fun j' want' e => by rw [hg] at e; cases e; exact ⟨d, hd⟩
            have hwd : wantedA nt ops o s.sl = (told (sget s.sl d) == some want) := by simp only [wantedA, hg, hd]
            split at q
            · rename_i ht
              exact one (by rw [hwd, ht]; simp) hgg q
            · rename_i ht
              exact glue ⟨set.v .undef s.sl, s.h, s.a⟩ q ⟨ho, hset, hgg, .inl ⟨by rw [hwd]; simpa using ht, rfl, rfl, rfl⟩⟩
          · cases q
      · cases q
theorem chkE_all {h : H} {x : Id} {a : Slots} : ∀ {l : List Nat}, (chkE l).v h x a = true → ∀ j ∈ l, ∀ c : Nat, sget a j = i64 c → (h.get x).stamped c = true
  | [], _, j, hj, _, _ => by cases hj
  | i :: l, e, j, hj, c, hc => by
    replace e : onNat ((chkE l).v h x a) (fun c => onC (stampLt h x c) false ((chkE l).v h x a)) ((getC i).v a) = true := e
    rw [getC_eq] at e
    have hrest : (chkE l).v h x a = true := by
      cases hv : sget a i with
      | sc s =>
        rw [hv] at e
        cases s with
        | int k n =>
          cases n with
          | ofNat m =>
            replace e : onC (stampLt h x m) false ((chkE l).v h x a) = true := e
            exact (onC_yes e (by simp)).2
          | negSucc m => exact e
        | _ => exact e
      | agg _ => rw [hv] at e; exact e
      | tup _ => rw [hv] at e; exact e
    rcases List.mem_cons.1 hj with rfl | hj
    · rw [hc] at e
      replace e : onC (stampLt h x c) false ((chkE l).v h x a) = true := e
      rw [← stampLt_eq]
      exact (onC_yes e (by simp)).1
    · exact chkE_all hrest j hj c hc
end Go.Proofs.YtjmdmpfekoinbaaGreat.AMK

namespace Go.Proofs.YtjmdmpfekoinbaaGreat.AMK
open Go

/-! ### a run of a region that draws -/
structure Run (E : Env) (nt : Nat) (ops : Array Oper) (r : CallF) (L : List Nat) (st : Nat → St) : Prop where
  ok : E.Ok
  sim : CallSim E.P r
  adv : AdvF r
  all : ∀ j, j < ops.size → j ∈ L
  place : ∀ p i, L[p]? = some i → Place (Region.before ops) ops i (L.take p).reverse
  small : ops.size ≤ 512
  ntle : nt ≤ 512
  step : ∀ p i, L[p]? = some i → ∃ o set, TStep E nt ops r i (L.take p).reverse (st p) (st (p + 1)) o set
  wf : WF (st 0).h
theorem mem_take {L : List Nat} {p j : Nat} : j ∈ (L.take p).reverse ↔ ∃ q, q < p ∧ L[q]? = some j := by
  rw [List.mem_reverse]
  constructor
  · intro h
    obtain ⟨q, hq⟩ := List.getElem?_of_mem h
    rw [List.getElem?_take] at hq
    split at hq
    · rename_i hlt
      exact ⟨q, hlt, hq⟩
    · cases hq
  · rintro ⟨q, h1, h2⟩
    refine List.mem_of_getElem? (i := q) ?_
    rw [List.getElem?_take, if_pos h1]
    exact h2
section
variable {E : Env} {nt : Nat} {ops : Array Oper} {r : CallF} {L : List Nat} {st : Nat → St}
theorem Run.once (R : Run E nt ops r L st) {p q i : Nat} (hp : L[p]? = some i) (hq : L[q]? = some i) : p = q := by
  rcases Nat.lt_trichotomy p q with h | h | h
  · obtain ⟨o, _, h2, _⟩ := R.place q i hq
    exact absurd (mem_take.2 ⟨p, h, hp⟩) h2
  · exact h
  · obtain ⟨o, _, h2, _⟩ := R.place p i hp
    exact absurd (mem_take.2 ⟨q, h, hq⟩) h2
theorem Run.lt (R : Run E nt ops r L st) {p i : Nat} (hp : L[p]? = some i) : i < ops.size := by
  obtain ⟨o, h1, _⟩ := R.place p i hp
  exact (Array.getElem?_eq_some_iff.1 h1).1
/-- who comes ahead, and names the same slot, is waited for -/
theorem Run.apart (R : Run E nt ops r L st) {p q i j : Nat} {o oj : Oper} (hp : L[p]? = some i) (ho : ops[i]? = some o) (hq : L[q]? = some j) (hj : ops[j]? = some oj) (hlt : q < p)
    (h : (∃ d, o.dst = some d ∧ (d ∈ looks ops oj ∨ oj.dst = some d)) ∨ ∃ d, oj.dst = some d ∧ d ∈ looks ops o) : ((Region.before ops).getD i 0).testBit j = true := by
  obtain ⟨o', h1, _, _, _, _, h5⟩ := R.place p i hp
  rw [ho] at h1; cases h1
  rcases h5 j (mem_take.2 ⟨q, hlt, hq⟩) with h6 | ⟨oj', h6, h7, h8⟩
  · exact h6
  · rw [hj] at h6; cases h6
    rcases h with ⟨d, hd, h9 | h9⟩ | ⟨d, hd, h9⟩
    · exact absurd h9 (h7 d hd).1
    · exact absurd h9 (h7 d hd).2
    · exact absurd h9 (h8 d hd)
theorem Run.strong (R : Run E nt ops r L st) {p q i j : Nat} {o : Oper} (hp : L[p]? = some i) (ho : ops[i]? = some o) (hs : isStrong o.op = true) (hq : L[q]? = some j) (hlt : q < p) : ((Region.before ops).getD i 0).testBit j = true := by
  obtain ⟨o', h1, _, _, _, h4, _⟩ := R.place p i hp
  rw [ho] at h1; cases h1
  exact h4 hs j (mem_take.2 ⟨q, hlt, hq⟩)
theorem Run.advStep (R : Run E nt ops r L st) {p i : Nat} (hp : L[p]? = some i) : Adv (st p).h (st (p + 1)).h := by
  obtain ⟨o, set, t⟩ := R.step p i hp
  rcases t.step with ⟨_, _, e, _⟩ | ⟨_, f, v, hf, q, _⟩
  · rw [e]; exact Adv.refl _
  · exact opX_adv hf R.adv q
theorem Run.advance (R : Run E nt ops r L st) : ∀ (d p : Nat), p + d ≤ L.length → Adv (st p).h (st (p + d)).h := by
  intro d
  induction d with
  | zero => exact fun p _ => Adv.refl _
  | succ d ih =>
    intro p h
    have hlt : p < L.length := by omega
    have h1 := R.advStep (List.getElem?_eq_getElem hlt)
    have h2 := ih (p + 1) (by omega)
    rw [show p + 1 + d = p + (d + 1) by omega] at h2
    exact h1.trans h2
theorem Run.adv_le (R : Run E nt ops r L st) {p q : Nat} (h : p ≤ q) (hq : q ≤ L.length) : Adv (st p).h (st q).h := by
  obtain ⟨d, rfl⟩ : ∃ d, q = p + d := ⟨q - p, by omega⟩
  exact R.advance d p hq
theorem Run.wfAt (R : Run E nt ops r L st) {p : Nat} (hp : p ≤ L.length) : WF (st p).h := (R.adv_le (Nat.zero_le p) hp).wf R.wf
/-- a step that writes nothing -/
theorem Run.weakStep (R : Run E nt ops r L st) {p i : Nat} {o : Oper} (hp : L[p]? = some i) (ho : ops[i]? = some o) (hs : isStrong o.op = false) : (st (p + 1)).h = (st p).h ∨ New (st p).h (st (p + 1)).h := by
  obtain ⟨o', set, t⟩ := R.step p i hp
  have := t.at_
  rw [ho] at this; cases this
  rcases t.step with ⟨_, _, e, _⟩ | ⟨_, f, v, hf, q, _⟩
  · exact .inl e
  · rcases opX_cases hf with ⟨d, hd, rfl⟩ | ⟨fo, args, ats, l, hop, _⟩
    · exact weak_keeps hs hd _ _ _ _ q
    · rw [hop] at hs; cases hs
theorem New.get {h h' : H} (n : New h h') {x : Id} (hx : x.num < h.next.num) : h'.get x = h.get x := by
  obtain ⟨blk, ⟨g1, g2, g3⟩, _⟩ := n
  rw [g3, if_neg (fun e => by subst e; omega)]
/-- when a strong operation began -/
theorem Run.noted (R : Run E nt ops r L st) {q j : Nat} {o : Oper} {set : Set} (hq : L[q]? = some j) (t : TStep E nt ops r j (L.take q).reverse (st q) (st (q + 1)) o set) (hs : isStrong o.op = true) (hw : wantedA nt ops o (st q).sl = true) : ∀ d, q + 1 + d ≤ L.length → sget (st (q + 1 + d)).a j = i64 (st q).h.clk := by
  intro d
  induction d with
  | zero =>
    intro _
    have hj := R.lt hq
    have hsm := R.small
    rcases t.step with ⟨h1, _⟩ | ⟨_, f, v, _, _, _, ⟨_, e⟩ | ⟨h1, _⟩⟩
    · rw [hw] at h1; cases h1
    · rw [Nat.add_zero, e, setC_get _ (by omega) _ _ _ (by omega), if_pos rfl]
    · rw [hs] at h1; cases h1
  | succ d ih =>
    intro hd
    have ih := ih (by omega)
    have hlt : q + 1 + d < L.length := by omega
    have hk := List.getElem?_eq_getElem hlt
    obtain ⟨o', set', t'⟩ := R.step _ _ hk
    have hne : j ≠ L[q + 1 + d] := fun e => by
      have := R.once hq (e ▸ hk)
      omega
    have hj := R.lt hq
    have hkl := R.lt hk
    have hsm := R.small
    rw [show q + 1 + (d + 1) = q + 1 + d + 1 by omega]
    rcases t'.step with ⟨_, _, _, e⟩ | ⟨_, f, v, _, _, _, ⟨_, e⟩ | ⟨_, e, _⟩⟩
    · rw [e]; exact ih
    · rw [e, setC_get _ (by omega) _ _ _ (by omega), if_neg hne]; exact ih
    · rw [e]; exact ih
/-- a block that no strong operation from s on has written since -/
theorem Run.stays (R : Run E nt ops r L st) {x : Id} {p : Nat} (hp : p ≤ L.length) : ∀ (d s : Nat), s + d = p → (∀ q j o set, s ≤ q → q < p → L[q]? = some j → TStep E nt ops r j (L.take q).reverse (st q) (st (q + 1)) o set → isStrong o.op = true → wantedA nt ops o (st q).sl = true → ((st p).h.get x).stamped (st q).h.clk = true) →
    x.num < (st s).h.next.num → (st s).h.get x = (st p).h.get x := by
  intro d
  induction d with
  | zero =>
    intro s h _ _
    rw [show s = p by omega]
  | succ d ih =>
    intro s h hc hx
    have hlt : s < L.length := by omega
    have hk := List.getElem?_eq_getElem hlt
    obtain ⟨o, set, t⟩ := R.step _ _ hk
    have hadv := R.advStep hk
    have next : (st (s + 1)).h.get x = (st s).h.get x → (st s).h.get x = (st p).h.get x := fun e => by
      rw [← e]
      exact ih (s + 1) (by omega) (fun q j o set h1 h2 => hc q j o set (by omega) h2) (Nat.lt_of_lt_of_le hx hadv.next)
    cases hw : wantedA nt ops o (st s).sl with
    | false =>
      rcases t.step with ⟨_, _, e, _⟩ | ⟨h1, _⟩
      · exact next (by rw [e])
      · rw [hw] at h1; cases h1
    | true =>
      cases hs : isStrong o.op with
      | true =>
        have h1 := hc s _ o set (Nat.le_refl _) (by omega) hk t hs hw
        exact ((R.adv_le (show s ≤ p by omega) hp).same x _ (Nat.le_refl _) h1).symm
      | false =>
        rcases R.weakStep hk t.at_ hs with e | e
        · exact next (by rw [e])
        · exact next (e.get hx)
/-- the step whose block x is -/
theorem Run.born (R : Run E nt ops r L st) {x : Id} {p : Nat} (hp : p ≤ L.length) : ∀ (d s : Nat), s + d = p → (st s).h.next.num ≤ x.num → x.num < (st p).h.next.num → ∃ q, s ≤ q ∧ q < p ∧ (st q).h.next.num ≤ x.num ∧ x.num < (st (q + 1)).h.next.num := by
  intro d
  induction d with
  | zero =>
    intro s h h1 h2
    rw [show s = p by omega] at h1
    omega
  | succ d ih =>
    intro s h h1 h2
    by_cases hx : x.num < (st (s + 1)).h.next.num
    · exact ⟨s, Nat.le_refl _, by omega, h1, hx⟩
    · obtain ⟨q, a, b, c, e⟩ := ih (s + 1) (by omega) (by omega) h2
      exact ⟨q, by omega, b, c, e⟩
theorem Run.between (R : Run E nt ops r L st) {x : Id} {p q : Nat} (hp : p < L.length) (hq : q < L.length) (h1 : (st p).h.next.num ≤ x.num) (h2 : x.num < (st (p + 1)).h.next.num) (h3 : (st q).h.next.num ≤ x.num) (h4 : x.num < (st (q + 1)).h.next.num) : p = q := by
  rcases Nat.lt_trichotomy p q with h | h | h
  · have := (R.adv_le (show p + 1 ≤ q by omega) (by omega)).next
    omega
  · exact h
  · have := (R.adv_le (show q + 1 ≤ p by omega) (by omega)).next
    omega

/-! ### slots, in whatever order -/
def Agree (ops : Array Oper) (L : List Nat) (D : Nat → Prop) (q t : Nat) : Prop := ∀ p i o, L[p]? = some i → ops[i]? = some o → o.dst = some t → (D i ↔ p < q)
def Closed (ops : Array Oper) (D : Nat → Prop) : Prop := ∀ i, D i → ∀ j, ((Region.before ops).getD i 0).testBit j = true → D j
def SlotsOk (nt : Nat) (ops : Array Oper) (L : List Nat) (st : Nat → St) (D : Nat → Prop) (φ : Phi) (tm : Array Value) : Prop :=
  ∀ q t, q ≤ L.length → t < nt → Agree ops L D q t → VR φ (sget (st q).sl t) (tm.getD t Go.undef)
theorem TStep.slot {i : Nat} {seen : List Nat} {s s' : St} {o : Oper} {set : Set} (t : TStep E nt ops r i seen s s' o set) (hnt : nt ≤ 512) {u : Nat} (hu : u < 512) (h : o.dst ≠ some u) : sget s'.sl u = sget s.sl u := by
  have hset := t.dst
  have key : ∀ v, sget (set.v v s.sl) u = sget s.sl u := by
    intro v
    unfold setOf at hset
    cases hd : o.dst with
    | none => rw [hd] at hset; cases hset; rfl
    | some d =>
      rw [hd] at hset
      dsimp only at hset
      split at hset
      · rename_i hdl
        cases hset
        rw [setC_get _ (by omega) _ _ _ hu, if_neg (fun e => h (by rw [hd, e]))]
      · cases hset
  rcases t.step with ⟨_, e, _⟩ | ⟨_, f, v, _, _, e, _⟩
  · rw [e]; exact key _
  · rw [e]; exact key _
theorem Run.reads (R : Run E nt ops r L st) {D : Nat → Prop} (hc : Closed ops D) {p i : Nat} {o : Oper} (hp : L[p]? = some i) (ho : ops[i]? = some o) (hi : ¬ D i) (hb : ∀ j, ((Region.before ops).getD i 0).testBit j = true → D j) {t : Nat} (ht : t ∈ looks ops o) : Agree ops L D p t := by
  intro p' i' o' hp' ho' hd
  constructor
  · intro h
    rcases Nat.lt_trichotomy p' p with h1 | h1 | h1
    · exact h1
    · subst h1
      rw [hp] at hp'; cases hp'
      exact absurd h hi
    · exact absurd (hc i' h i (R.apart hp' ho' hp ho h1 (.inl ⟨t, hd, .inl ht⟩))) hi
  · intro h
    exact hb i' (R.apart hp ho hp' ho' h (.inr ⟨t, hd, ht⟩))
theorem Run.put (R : Run E nt ops r L st) {D : Nat → Prop} (hc : Closed ops D) {p i : Nat} {o : Oper} {set : Set} (hp : L[p]? = some i) (t : TStep E nt ops r i (L.take p).reverse (st p) (st (p + 1)) o set) (hi : ¬ D i) {φ φ' : Phi} (hext : Ext φ φ') {tm : Array Value} (hsz : tm.size = nt) (hs : SlotsOk nt ops L st D φ tm)
    {v : V} {u : Value} (hv : VR φ' v u) (hsl : (st (p + 1)).sl = set.v v (st p).sl) (df : List Deferred) : SlotsOk nt ops L st (fun j => D j ∨ j = i) φ' ((⟨tm, df⟩ : Act).put o.dst u).tmps := by
  intro q x hq hx ha
  have ho := t.at_
  have hnt := R.ntle
  by_cases hd : o.dst = some x
  · have hset := t.dst
    rw [hd] at hset
    unfold setOf at hset
    dsimp only at hset
    rw [if_pos hx] at hset
    cases hset
    have hpq : p < q := (ha p i o hp ho hd).1 (.inr rfl)
    have key : ∀ d, p + 1 + d ≤ q → sget (st (p + 1 + d)).sl x = v := by
      intro d
      induction d with
      | zero =>
        intro _
        rw [Nat.add_zero, hsl, setC_get x (by omega) _ _ _ (by omega), if_pos rfl]
      | succ d ih =>
        intro hle
        have ih := ih (by omega)
        have hlt : p + 1 + d < L.length := by omega
        have hk := List.getElem?_eq_getElem hlt
        obtain ⟨o', set', t'⟩ := R.step _ _ hk
        rw [show p + 1 + (d + 1) = p + 1 + d + 1 by omega, t'.slot hnt (by omega), ih]
        intro hd'
        have h1 := (ha _ _ _ hk t'.at_ hd').2 (by omega)
        rcases h1 with h1 | h1
        · exact hi (hc _ h1 i (R.apart hk t'.at_ hp ho (by omega) (.inl ⟨x, hd', .inr hd⟩)))
        · have := R.once hp (h1 ▸ hk)
          omega
    have h2 := key (q - (p + 1)) (by omega)
    rw [show p + 1 + (q - (p + 1)) = q by omega] at h2
    rw [h2]
    have h3 : x < tm.size := by omega
    simpa [Act.put, hd, Array.getD_eq_getD_getElem?, Array.getElem?_setIfInBounds, h3] using hv
  · have ha' : Agree ops L D q x := by
      intro p' i' o' hp' ho' hd'
      have h1 := ha p' i' o' hp' ho' hd'
      constructor
      · intro h; exact h1.1 (.inl h)
      · intro h
        rcases h1.2 h with h2 | h2
        · exact h2
        · subst h2
          rw [ho] at ho'; cases ho'
          exact absurd hd' hd
    have h1 := (hs q x hq hx ha').mono hext
    cases hd2 : o.dst with
    | none => simpa [Act.put, hd2] using h1
    | some d =>
      have hne : x ≠ d := fun e => hd (by rw [hd2, e])
      simpa [Act.put, hd2, Array.getD_eq_getD_getElem?, Array.getElem?_setIfInBounds, Ne.symm hne] using h1
theorem Run.operands (R : Run E nt ops r L st) {D : Nat → Prop} (hc : Closed ops D) {p i : Nat} {o : Oper} (hp : L[p]? = some i) (ho : ops[i]? = some o) (hi : ¬ D i) (hb : ∀ j, ((Region.before ops).getD i 0).testBit j = true → D j) {φ : Phi} {tm : Array Value} (hs : SlotsOk nt ops L st D φ tm) (df : List Deferred) :
    OpsR φ nt (st p).sl (⟨tm, df⟩ : Act).eval o.op.operands := by
  intro x hx g hg
  have hpl : p ≤ L.length := Nat.le_of_lt (List.getElem?_eq_some_iff.1 hp).1
  unfold operC at hg
  cases x with
  | tmp t =>
    simp only at hg
    split at hg
    · rename_i ht
      cases hg
      rw [getC_eq]
      refine hs p t hpl ht (R.reads hc hp ho hi hb ?_)
      unfold looks
      rw [List.mem_append]
      left
      rw [List.mem_filterMap]
      exact ⟨_, hx, rfl⟩
    · cases hg
  | const v =>
    simp only at hg
    split at hg
    · rename_i a ha
      cases hg
      exact avOf_ok ha φ
    · cases hg
  | global g => cases hg
  | func f =>
    cases hg
    exact ⟨[], rfl, rfl⟩
theorem Run.wanted (R : Run E nt ops r L st) {D : Nat → Prop} (hc : Closed ops D) {p i : Nat} {o : Oper} {set : Set} (hp : L[p]? = some i) (t : TStep E nt ops r i (L.take p).reverse (st p) (st (p + 1)) o set) (hi : ¬ D i) (hb : ∀ j, ((Region.before ops).getD i 0).testBit j = true → D j) {φ : Phi} {tm : Array Value} (hsz : tm.size = nt) (hs : SlotsOk nt ops L st D φ tm) :
    Region.wanted o (yielded ops tm) = wantedA nt ops o (st p).sl := by
  have hpl : p ≤ L.length := Nat.le_of_lt (List.getElem?_eq_some_iff.1 hp).1
  unfold Region.wanted wantedA
  cases hg : o.guard with
  | none => rfl
  | some jw =>
    obtain ⟨j, want⟩ := jw
    obtain ⟨d, hd⟩ := t.guard j want hg
    obtain ⟨hlt, oj, h1, h2⟩ := guardOf_some hd
    simp only [hd]
    have hlk : d ∈ looks ops o := by
      unfold looks
      rw [List.mem_append, hg]
      right
      simp [h1, h2]
    exact (yielded_eq hd hsz (hs p d hpl hlt (R.reads hc hp t.at_ hi hb hlk)) want).symm
end
end Go.Proofs.YtjmdmpfekoinbaaGreat.AMK

namespace Go.Proofs.YtjmdmpfekoinbaaGreat.AMK
open Go

/-! ### the heap, in whatever order -/
structure HeapOk (ops : Array Oper) (L : List Nat) (st : Nat → St) (D : Nat → Prop) (base : Nat) (φ0 φ : Phi) (g : Id → Blk) (w0 w : World) : Prop where
  le : base ≤ L.length
  pre : ∀ q i, q < base → L[q]? = some i → D i
  weak : ∀ q i o, base ≤ q → L[q]? = some i → ops[i]? = some o → D i → isStrong o.op = false
  low : ∀ x : Id, x.num < (st base).h.next.num → g x = (st base).h.get x
  done : ∀ q i, base ≤ q → L[q]? = some i → D i → ∀ x : Id, (st q).h.next.num ≤ x.num → x.num < (st (q + 1)).h.next.num → g x = (st (q + 1)).h.get x
  undone : ∀ q i, base ≤ q → L[q]? = some i → ¬ D i → ∀ x : Id, (st q).h.next.num ≤ x.num → x.num < (st (q + 1)).h.next.num → g x = .dead ∧ φ x = none
  high : ∀ x : Id, (st L.length).h.next.num ≤ x.num → g x = .dead
  heap : HR φ g w
  phi : ∀ x : Id, x.num < (st 0).h.next.num ∨ (st L.length).h.next.num ≤ x.num → φ x = φ0 x
  fr : Fr φ0 (st 0).h.get w0 w
  grows : ∀ b, owns φ g b → owns φ0 (st 0).h.get b ∨ w0.heap.size ≤ b
section
variable {E : Env} {nt : Nat} {ops : Array Oper} {r : CallF} {L : List Nat} {st : Nat → St} {D : Nat → Prop} {base : Nat} {φ0 φ : Phi} {g : Id → Blk} {w0 w : World}
theorem HeapOk.base_le (H : HeapOk ops L st D base φ0 φ g w0 w) {p i : Nat} (hp : L[p]? = some i) (hi : ¬ D i) : base ≤ p := by
  rcases Nat.lt_or_ge p base with h | h
  · exact absurd (H.pre p i h hp) hi
  · exact h
/-- a block that p looks at is as p saw it -/
theorem HeapOk.seen (H : HeapOk ops L st D base φ0 φ g w0 w) (R : Run E nt ops r L st) {p i : Nat} (hp : L[p]? = some i) (hi : ¬ D i) {x : Id} (hal : ((st p).h.get x).alive = true) (hφ : φ x ≠ none)
    (hchk : ∀ q j o set, base ≤ q → q < p → L[q]? = some j → ¬ D j → TStep E nt ops r j (L.take q).reverse (st q) (st (q + 1)) o set → isStrong o.op = true → wantedA nt ops o (st q).sl = true → ((st p).h.get x).stamped (st q).h.clk = true) : g x = (st p).h.get x := by
  have hpl : p < L.length := (List.getElem?_eq_some_iff.1 hp).1
  have hb := H.base_le hp hi
  have hx : x.num < (st p).h.next.num := by
    rcases Nat.lt_or_ge x.num (st p).h.next.num with h | h
    · exact h
    · rw [(R.wfAt (Nat.le_of_lt hpl)).dead x h] at hal; cases hal
  have claim : ∀ s, base ≤ s → s ≤ p → x.num < (st s).h.next.num → (st s).h.get x = (st p).h.get x := by
    intro s hs1 hs2 hxs
    refine R.stays (Nat.le_of_lt hpl) (p - s) s (by omega) (fun q j o set h1 h2 h3 t h4 h5 => ?_) hxs
    have hnd : ¬ D j := fun hd => by
      have := H.weak q j o (by omega) h3 t.at_ hd
      rw [h4] at this; cases this
    exact hchk q j o set (by omega) h2 h3 hnd t h4 h5
  by_cases hlow : x.num < (st base).h.next.num
  · rw [H.low x hlow]
    exact claim base (Nat.le_refl _) hb hlow
  · obtain ⟨q, a, b, c, e⟩ := R.born (Nat.le_of_lt hpl) (p - base) base (by omega) (by omega) hx
    have hk := List.getElem?_eq_getElem (show q < L.length by omega)
    by_cases hd : D L[q]
    · rw [H.done q _ a hk hd x c e]
      exact claim (q + 1) (by omega) (by omega) e
    · exact absurd (H.undone q _ a hk hd x c e).2 hφ
/-- behind all that comes ahead of p, the heap is p's -/
theorem HeapOk.whole (H : HeapOk ops L st D base φ0 φ g w0 w) (R : Run E nt ops r L st) {p : Nat} (hpl : p ≤ L.length) (hb : base ≤ p) (hpre : ∀ q i, q < p → L[q]? = some i → D i) {x : Id} (hx : x.num < (st p).h.next.num) : g x = (st p).h.get x := by
  have claim : ∀ s, base ≤ s → s ≤ p → x.num < (st s).h.next.num → (st s).h.get x = (st p).h.get x := by
    intro s hs1 hs2 hxs
    refine R.stays hpl (p - s) s (by omega) (fun q j o set h1 h2 h3 t h4 h5 => ?_) hxs
    have := H.weak q j o (by omega) h3 t.at_ (hpre q j h2 h3)
    rw [h4] at this; cases this
  by_cases hlow : x.num < (st base).h.next.num
  · rw [H.low x hlow]
    exact claim base (Nat.le_refl _) hb hlow
  · obtain ⟨q, a, b, c, e⟩ := R.born hpl (p - base) base (by omega) (by omega) hx
    have hk := List.getElem?_eq_getElem (show q < L.length by omega)
    rw [H.done q _ a hk (hpre q _ b hk) x c e]
    exact claim (q + 1) (by omega) (by omega) e
theorem HeapOk.sub (H : HeapOk ops L st D base φ0 φ g w0 w) (R : Run E nt ops r L st) {p : Nat} (hpl : p ≤ L.length) (hb : base ≤ p) (hpre : ∀ q i, q < p → L[q]? = some i → D i) : HR φ (st p).h.get w := by
  have key : ∀ x, ((st p).h.get x).alive = true → g x = (st p).h.get x := fun x hx => by
    refine H.whole R hpl hb hpre ?_
    rcases Nat.lt_or_ge x.num (st p).h.next.num with h | h
    · exact h
    · rw [(R.wfAt hpl).dead x h] at hx; cases hx
  refine ⟨fun x hx => ?_, fun x y a b hne ho ha hl hm => ?_⟩
  · have e := key x hx
    obtain ⟨l, h1, h2, h3⟩ := H.heap.lies x (by rw [e]; exact hx)
    exact ⟨l, h1, h2, e ▸ h3⟩
  · have e1 := key x (Blk.own_alive ho)
    have e2 := key y ha
    exact H.heap.apart x y a b hne (by rw [e1]; exact ho) (by rw [e2]; exact ha) hl hm
/-- nothing is written -/
theorem HeapOk.quiet (H : HeapOk ops L st D base φ0 φ g w0 w) (R : Run E nt ops r L st) {p i : Nat} {o : Oper} (hp : L[p]? = some i) (ho : ops[i]? = some o) (hi : ¬ D i) (hw : isStrong o.op = false ∨ (∀ q j, q < p → L[q]? = some j → D j)) (hsame : (st (p + 1)).h = (st p).h) {w' : World} (hh : HR φ g w') (hf : Fr φ g w w') :
    ∃ base', HeapOk ops L st (fun j => D j ∨ j = i) base' φ0 φ g w0 w' := by
  have hpl : p < L.length := (List.getElem?_eq_some_iff.1 hp).1
  have hb := H.base_le hp hi
  have hfr : Fr φ0 (st 0).h.get w0 w' := H.fr.trans H.grows hf
  rcases hw with hs | hpre
  · refine ⟨base, H.le, fun q j h1 h2 => .inl (H.pre q j h1 h2), fun q j o' h1 h2 h3 h4 => ?_, H.low, fun q j h1 h2 h3 x h4 h5 => ?_, fun q j h1 h2 h3 => H.undone q j h1 h2 (fun h => h3 (.inl h)), H.high, hh, H.phi, hfr, H.grows⟩
    · rcases h4 with h4 | h4
      · exact H.weak q j o' h1 h2 h3 h4
      · subst h4
        rw [ho] at h3; cases h3
        exact hs
    · rcases h3 with h3 | h3
      · exact H.done q j h1 h2 h3 x h4 h5
      · subst h3
        have := R.once h2 hp
        subst this
        rw [hsame] at h5
        omega
  · -- all ahead is done: the base moves
    refine ⟨p + 1, by omega, fun q j h1 h2 => ?_, fun q j o' h1 h2 h3 h4 => ?_, fun x hx => ?_, fun q j h1 h2 h3 x h4 h5 => ?_, fun q j h1 h2 h3 => H.undone q j (by omega) h2 (fun h => h3 (.inl h)), H.high, hh, H.phi, hfr, H.grows⟩
    · by_cases e : q = p
      · subst e
        rw [hp] at h2; cases h2
        exact .inr rfl
      · exact .inl (hpre q j (by omega) h2)
    · rcases h4 with h4 | h4
      · exact H.weak q j o' (by omega) h2 h3 h4
      · subst h4
        have := R.once h2 hp
        omega
    · rw [hsame] at hx ⊢
      exact H.whole R (Nat.le_of_lt hpl) hb hpre hx
    · rcases h3 with h3 | h3
      · exact H.done q j (by omega) h2 h3 x h4 h5
      · subst h3
        have := R.once h2 hp
        omega
/-- a weak operation lays a block -/
theorem HeapOk.lay (H : HeapOk ops L st D base φ0 φ g w0 w) (R : Run E nt ops r L st) {p i : Nat} {o : Oper} (hp : L[p]? = some i) (ho : ops[i]? = some o) (hi : ¬ D i) (hs : isStrong o.op = false) {blk : Blk} (gr : Grew (st p).h (st (p + 1)).h blk) {l : Loc} {w' : World} (hf : Fresh w w') (hl : l.b = w.heap.size) (hbr : BR (upd φ (st p).h.next l) w' l blk) :
    φ (st p).h.next = none ∧ HeapOk ops L st (fun j => D j ∨ j = i) base φ0 (upd φ (st p).h.next l) (fun x => if x = (st p).h.next then blk else g x) w0 w' := by
  have hpl : p < L.length := (List.getElem?_eq_some_iff.1 hp).1
  have hb := H.base_le hp hi
  obtain ⟨g1, g2, g3⟩ := gr
  have hun := H.undone p i hb hp hi (st p).h.next (Nat.le_refl _) (by rw [g1]; omega)
  have hne : ∀ q x, base ≤ q → q ≠ p → q < L.length → (st q).h.next.num ≤ x.num → x.num < (st (q + 1)).h.next.num → x ≠ (st p).h.next := by
    intro q x _ hqp hql h1 h2 e
    subst e
    exact hqp (R.between hql hpl h1 h2 (Nat.le_refl _) (by rw [g1]; omega))
  have hbp := (R.adv_le hb (Nat.le_of_lt hpl)).next
  have h0p := (R.adv_le (Nat.zero_le p) (Nat.le_of_lt hpl)).next
  have hpn := (R.adv_le (show p + 1 ≤ L.length from hpl) (Nat.le_refl _)).next
  refine ⟨hun.2, H.le, fun q j h1 h2 => .inl (H.pre q j h1 h2), fun q j o' h1 h2 h3 h4 => ?_, fun x hx => ?_, fun q j h1 h2 h3 x h4 h5 => ?_, fun q j h1 h2 h3 x h4 h5 => ?_, fun x hx => ?_, ?_, fun x hx => ?_, H.fr.trans H.grows hf.fr, fun b hb' => ?_⟩
  · rcases h4 with h4 | h4
    · exact H.weak q j o' h1 h2 h3 h4
    · subst h4
      rw [ho] at h3; cases h3
      exact hs
  · have : x ≠ (st p).h.next := fun e => by subst e; omega
    simp only [this, if_false]
    exact H.low x hx
  · by_cases e : q = p
    · subst e
      have hxe : x = (st q).h.next := Id.num_inj (by omega)
      subst hxe
      simp only [if_true]
      rw [g3, if_pos rfl]
    · have hql : q < L.length := (List.getElem?_eq_some_iff.1 h2).1
      have := hne q x h1 e hql h4 h5
      simp only [this, if_false]
      rcases h3 with h3 | h3
      · exact H.done q j h1 h2 h3 x h4 h5
      · subst h3
        exact absurd (R.once h2 hp) e
  · have hqp : q ≠ p := fun e => by
      subst e
      rw [hp] at h2; cases h2
      exact h3 (.inr rfl)
    have hql : q < L.length := (List.getElem?_eq_some_iff.1 h2).1
    have := hne q x h1 hqp hql h4 h5
    simp only [this, if_false, upd]
    exact H.undone q j h1 h2 (fun h => h3 (.inl h)) x h4 h5
  · have : x ≠ (st p).h.next := fun e => by subst e; omega
    simp only [this, if_false]
    exact H.high x hx
  · exact H.heap.alloc hun.2 hf hl (fun x => rfl) hbr
  · have : x ≠ (st p).h.next := fun e => by subst e; omega
    simp only [upd, this, if_false]
    exact H.phi x hx
  · rcases owns_alloc (fun x => rfl) hb' with h1 | h1
    · exact H.grows b h1
    · right
      have := H.fr.size
      omega
/-- a strong operation -/
theorem HeapOk.act (H : HeapOk ops L st D base φ0 φ g w0 w) (R : Run E nt ops r L st) {p i : Nat} (hp : L[p]? = some i) (hi : ¬ D i) (hpre : ∀ q j, q < p → L[q]? = some j → D j) {φ' : Phi} {w' : World} (s : Step φ (st p).h w φ' (st (p + 1)).h w') :
    HeapOk ops L st (fun j => D j ∨ j = i) (p + 1) φ0 φ' (fun x => if x.num < (st (p + 1)).h.next.num then (st (p + 1)).h.get x else g x) w0 w' := by
  have hpl : p < L.length := (List.getElem?_eq_some_iff.1 hp).1
  have hb := H.base_le hp hi
  have hp1 := R.advStep hp
  have hn1 := hp1.next
  have h0p := (R.adv_le (Nat.zero_le p) (Nat.le_of_lt hpl)).next
  have hpn := (R.adv_le (show p + 1 ≤ L.length from hpl) (Nat.le_refl _)).next
  have wf1 := R.wfAt (show p + 1 ≤ L.length from hpl)
  have wfp := R.wfAt (Nat.le_of_lt hpl)
  have hfree : Free φ (st p).h (st (p + 1)).h := fun x h1 h2 => (H.undone p i hb hp hi x h1 h2).2
  have hext := s.ext hfree
  have same : ∀ x : Id, x.num < (st p).h.next.num → g x = (st p).h.get x := fun x hx => H.whole R (Nat.le_of_lt hpl) hb hpre hx
  -- what the operation owns, g owns
  have ownp : ∀ b, owns φ (st p).h.get b → owns φ g b := by
    rintro b ⟨z, m, h1, h2, h3⟩
    refine ⟨z, m, ?_, h2, h3⟩
    have hz : z.num < (st p).h.next.num := by
      rcases Nat.lt_or_ge z.num (st p).h.next.num with h | h
      · exact h
      · rw [wfp.dead z h] at h1; cases h1
    rw [same z hz]
    exact h1
  have hpush : ∀ x l, (st (p + 1)).h.next.num ≤ x.num → (g x).alive = true → φ x = some l → ¬ owns φ (st p).h.get l.b := by
    rintro x l hx hal hl ⟨z, m, h1, h2, h3⟩
    have hz : z.num < (st p).h.next.num := by
      rcases Nat.lt_or_ge z.num (st p).h.next.num with h | h
      · exact h
      · rw [wfp.dead z h] at h1; cases h1
    have hzx : z ≠ x := fun e => by subst e; omega
    exact H.heap.apart z x m l hzx (by rw [same z hz]; exact h1) hal h2 hl h3
  refine ⟨hpl, fun q j h1 h2 => ?_, fun q j o' h1 h2 h3 h4 => ?_, fun x hx => ?_, fun q j h1 h2 h3 x h4 h5 => ?_, fun q j h1 h2 h3 x h4 h5 => ?_, fun x hx => ?_, ⟨fun x hx => ?_, fun x y a b hne hox hay ha hb' => ?_⟩, fun x hx => ?_, ?_, fun b hb' => ?_⟩
  · by_cases e : q = p
    · subst e
      rw [hp] at h2; cases h2
      exact .inr rfl
    · exact .inl (hpre q j (by omega) h2)
  · rcases h4 with h4 | h4
    · exact H.weak q j o' (by omega) h2 h3 h4
    · subst h4
      have := R.once h2 hp
      omega
  · simp only [hx, if_true]
  · have hge := (R.adv_le h1 (Nat.le_of_lt (List.getElem?_eq_some_iff.1 h2).1)).next
    have : ¬ x.num < (st (p + 1)).h.next.num := by omega
    simp only [this, if_false]
    rcases h3 with h3 | h3
    · exact H.done q j (by omega) h2 h3 x h4 h5
    · subst h3
      have := R.once h2 hp
      omega
  · have hge := (R.adv_le h1 (Nat.le_of_lt (List.getElem?_eq_some_iff.1 h2).1)).next
    have : ¬ x.num < (st (p + 1)).h.next.num := by omega
    simp only [this, if_false]
    obtain ⟨e1, e2⟩ := H.undone q j (by omega) h2 (fun h => h3 (.inl h)) x h4 h5
    exact ⟨e1, by rw [s.phi x (.inr (by omega))]; exact e2⟩
  · have : ¬ x.num < (st (p + 1)).h.next.num := by omega
    simp only [this, if_false]
    exact H.high x hx
  · by_cases hlt : x.num < (st (p + 1)).h.next.num
    · simp only [hlt, if_true] at hx ⊢
      exact s.heap.lies x hx
    · simp only [hlt, if_false] at hx ⊢
      obtain ⟨l, h1, h2, h3⟩ := H.heap.lies x hx
      refine ⟨l, hext x l h1, Nat.lt_of_lt_of_le h2 s.fr.size, (h3.mono hext).same (s.fr.block l.b h2 (hpush x l (by omega) hx h1))⟩
  · by_cases hx : x.num < (st (p + 1)).h.next.num <;> by_cases hy : y.num < (st (p + 1)).h.next.num
    · simp only [hx, hy, if_true] at hox hay
      exact s.heap.apart x y a b hne hox hay ha hb'
    · simp only [hx, hy, if_true, if_false] at hox hay
      rw [s.phi y (.inr (by omega))] at hb'
      obtain ⟨m, h1, h2, _⟩ := H.heap.lies y hay
      rw [hb'] at h1; cases h1
      intro e
      rcases s.grows a.b ⟨x, a, hox, ha, rfl⟩ with h3 | h3
      · exact hpush y b (by omega) hay hb' (e ▸ h3)
      · omega
    · simp only [hx, hy, if_true, if_false] at hox hay
      rw [s.phi x (.inr (by omega))] at ha
      obtain ⟨m, h1, h2, _⟩ := H.heap.lies x (Blk.own_alive hox)
      rw [ha] at h1; cases h1
      intro e
      rcases s.grows b.b ⟨y, b, wf1.own y hay, hb', rfl⟩ with h3 | h3
      · exact hpush x a (by omega) (Blk.own_alive hox) ha (e ▸ h3)
      · omega
    · simp only [hx, hy, if_false] at hox hay
      rw [s.phi x (.inr (by omega))] at ha
      rw [s.phi y (.inr (by omega))] at hb'
      exact H.heap.apart x y a b hne hox hay ha hb'
  · rw [s.phi x (by omega)]
    exact H.phi x hx
  · exact H.fr.trans (fun b hb' => H.grows b (ownp b hb')) s.fr
  · obtain ⟨x, l, h1, h2, h3⟩ := hb'
    by_cases hlt : x.num < (st (p + 1)).h.next.num
    · simp only [hlt, if_true] at h1
      rcases s.grows b ⟨x, l, h1, h2, h3⟩ with h4 | h4
      · exact H.grows b (ownp b h4)
      · right
        have := H.fr.size
        omega
    · simp only [hlt, if_false] at h1
      rw [s.phi x (.inr (by omega))] at h2
      exact H.grows b ⟨x, l, h1, h2, h3⟩
end
end Go.Proofs.YtjmdmpfekoinbaaGreat.AMK

namespace Go.Proofs.YtjmdmpfekoinbaaGreat.AMK
open Go

theorem refs_phi {φ : Phi} {v : V} {u : Value} (h : VR φ v u) {x : Id} (hx : refs v x) : φ x ≠ none := by
  obtain ⟨s, rfl, ⟨i, f, rfl⟩ | ⟨o, n, c, rfl⟩ | rfl⟩ := hx
  · obtain ⟨l, hl, _⟩ := h; rw [hl]; simp
  · obtain ⟨l, C, hl, _⟩ := sl_val h; rw [hl]; simp
  · obtain ⟨l, hl, _⟩ := h; rw [hl]; simp
theorem loadOf_operand {nt : Nat} {o : Op} {g : G} (h : loadOf nt o = some g) : ∃ x, x ∈ o.operands.toList ∧ operC nt x = some g := by
  cases o with
  | load t a => exact ⟨a, by simp [Op.operands], h⟩
  | lookup t x i c => exact ⟨x, by simp [Op.operands], h⟩
  | indexAddr t x i => exact ⟨x, by simp [Op.operands], h⟩
  | slice t x lo hi mx => exact ⟨x, by simp [Op.operands], h⟩
  | convert s d x => exact ⟨x, by simp [Op.operands], h⟩
  | call c =>
    obtain ⟨callee, args, ats⟩ := c
    unfold loadOf at h
    dsimp only at h
    split at h
    · rename_i _ _ x hl
      refine ⟨x, ?_, h⟩
      simp only [Op.operands, Call.operands, Array.toList_append, List.mem_append]
      right
      rw [hl]
      simp
    · cases h
  | _ => cases h
theorem filter_less {p p' : Nat → Bool} (hp : ∀ x, p' x = true → p x = true) : ∀ {l : List Nat} {i : Nat}, i ∈ l → p i = true → p' i = false → (l.filter p').length < (l.filter p).length
  | x :: l, i, hi, h1, h2 => by
    have hle : ∀ l : List Nat, (l.filter p').length ≤ (l.filter p).length := by
      intro l
      induction l with
      | nil => exact Nat.le_refl _
      | cons y l ih =>
        rw [List.filter_cons, List.filter_cons]
        cases hy : p' y with
        | true => rw [hp y hy]; simpa using ih
        | false =>
          cases p y
          · simpa using ih
          · simp only [if_true, Bool.false_eq_true, if_false, List.length_cons]; omega
    rw [List.filter_cons, List.filter_cons]
    by_cases e : i = x
    · subst e
      rw [h1, h2]
      simp only [if_true, Bool.false_eq_true, if_false, List.length_cons]
      have := hle l
      omega
    · have hil : i ∈ l := (List.mem_cons.1 hi).resolve_left e
      have ih := filter_less hp hil h1 h2
      cases hy : p' x with
      | true => rw [hp x hy]; simpa using ih
      | false =>
        cases p x
        · simpa using ih
        · simp only [if_true, Bool.false_eq_true, if_false, List.length_cons]; omega
def Done (listed : Array Bool) : Nat → Prop := fun j => listed.getD j false = true
theorem done_set {listed : Array Bool} {i : Nat} (hi : i < listed.size) : Done (listed.setIfInBounds i true) = fun j => Done listed j ∨ j = i := by
  funext j
  apply propext
  unfold Done
  rw [Array.getD_eq_getD_getElem?, Array.getD_eq_getD_getElem?, Array.getElem?_setIfInBounds]
  by_cases h : i = j
  · subst h; simp [hi]
  · simp [h, Ne.symm h]
section
variable {E : Env} {nt : Nat} {ops : Array Oper} {r : CallF} {L : List Nat} {st : Nat → St} {Q : Exit → Act → World → Prop} {φ0 : Phi} {w0 : World} {df : List Deferred}
theorem Run.final (R : Run E nt ops r L st) (hQ : ∀ φ' tm' w', Step φ0 (st 0).h w0 φ' (st L.length).h w' → SlR φ' nt (st L.length).sl tm' → Q .normal ⟨tm', df⟩ w') {D : Nat → Prop} {base : Nat} {φ : Phi} {g : Id → Blk} {a : Act} {w : World}
    (hall : ∀ p i : Nat, L[p]? = some i → D i) (hsz : a.tmps.size = nt) (hs : SlotsOk nt ops L st D φ a.tmps) (H : HeapOk ops L st D base φ0 φ g w0 w) (hd : a.defers = df) : Q .normal a w := by
  have hh := H.sub R (Nat.le_refl L.length) H.le (fun q i _ hq => hall q i hq)
  obtain ⟨tm, df'⟩ := a
  dsimp only at hd hsz hs
  subst hd
  refine hQ φ tm w ⟨fun x hx => H.phi x hx, hh, H.fr, fun b hb => H.grows b ?_⟩ ⟨hsz, R.ntle, fun t ht => hs L.length t (Nat.le_refl _) ht fun p i o hp ho hdst => ⟨fun _ => (List.getElem?_eq_some_iff.1 hp).1, fun _ => hall p i hp⟩⟩
  obtain ⟨z, m, h1, h2, h3⟩ := hb
  refine ⟨z, m, ?_, h2, h3⟩
  have hz : z.num < (st L.length).h.next.num := by
    rcases Nat.lt_or_ge z.num (st L.length).h.next.num with h | h
    · exact h
    · rw [(R.wfAt (Nat.le_refl _)).dead z h] at h1; cases h1
  rw [H.whole R (Nat.le_refl L.length) H.le (fun q i _ hq => hall q i hq) hz]
  exact h1
theorem Run.any (R : Run E nt ops r L st) (hQ : ∀ φ' tm' w', Step φ0 (st 0).h w0 φ' (st L.length).h w' → SlR φ' nt (st L.length).sl tm' → Q .normal ⟨tm', df⟩ w') (fuel : Nat) : ∀ (listed : Array Bool) (base : Nat) (φ : Phi) (g : Id → Blk) (a : Act) (w : World),
    listed.size = ops.size → Closed ops (Done listed) → a.tmps.size = nt → SlotsOk nt ops L st (Done listed) φ a.tmps → HeapOk ops L st (Done listed) base φ0 φ g w0 w → a.defers = df → (L.filter fun i => !listed.getD i true).length ≤ fuel → wpAny E.P .any ops Q fuel listed a w := by
  -- where nothing is ready all is done
  have full : ∀ (listed : Array Bool), listed.size = ops.size → Region.ready .any ops listed = [] → ∀ p i : Nat, L[p]? = some i → Done listed i := by
    intro listed hls hr p
    induction p using Nat.strongRecOn with
    | _ p ih =>
      intro i hp
      obtain ⟨o, h1, h2, h3, _⟩ := R.place p i hp
      cases hd : listed.getD i false with
      | true => exact hd
      | false =>
        have hlt := R.lt hp
        have hmem : i ∈ Region.ready .any ops listed := by
          unfold Region.ready
          rw [List.mem_filter]
          refine ⟨List.mem_range.2 hlt, ?_⟩
          have e1 : listed.getD i true = false := by
            have h5 : i < listed.size := by omega
            simpa [Array.getD_eq_getD_getElem?, h5] using hd
          rw [e1, h1]
          simp only [Bool.not_false, Bool.true_and, Option.map_some, Option.getD_some]
          rw [← Array.all_toList, List.all_eq_true]
          intro e he
          cases hb : Region.binds .any e with
          | false => rfl
          | true =>
            obtain ⟨q, hq1, hq2⟩ := mem_take.1 (h3 e he hb)
            have := ih q hq1 e.on hq2
            simpa [Done] using this
        rw [hr] at hmem
        cases hmem
  induction fuel with
  | zero =>
    intro listed base φ g a w hls hcl hsz hs H hdf hcount
    have hall : ∀ p i : Nat, L[p]? = some i → Done listed i := by
      intro p i hp
      have h0 : L.filter (fun i => !listed.getD i true) = [] := List.eq_nil_of_length_eq_zero (by omega)
      rw [List.filter_eq_nil_iff] at h0
      have := h0 i (List.mem_of_getElem? hp)
      have hlt := R.lt hp
      have h5 : i < listed.size := by omega
      simpa [Done, Array.getD_eq_getD_getElem?, h5] using this
    refine ⟨?_, R.final hQ hall hsz hs H hdf⟩
    cases hr : Region.ready .any ops listed with
    | nil => rfl
    | cons i rest =>
      have hmem : i ∈ Region.ready .any ops listed := by rw [hr]; exact List.mem_cons_self ..
      unfold Region.ready at hmem
      rw [List.mem_filter] at hmem
      obtain ⟨h1, h2⟩ := hmem
      have hlt := List.mem_range.1 h1
      obtain ⟨p, hp⟩ := List.getElem?_of_mem (R.all i hlt)
      have h3 := hall p i hp
      simp only [Bool.and_eq_true, Bool.not_eq_true'] at h2
      have h5 : i < listed.size := by omega
      have h4 := h2.1
      simp only [Done, Array.getD_eq_getD_getElem?, h5, getElem?_pos, Option.getD_some] at h3 h4
      rw [h3] at h4
      cases h4
  | succ fuel ih =>
    intro listed base φ g a w hls hcl hsz hs H hdf hcount
    refine ⟨fun hr => R.final hQ (full listed hls hr) hsz hs H hdf, fun i hmem => ?_⟩
    unfold Region.ready at hmem
    rw [List.mem_filter] at hmem
    obtain ⟨h1, h2⟩ := hmem
    have hlt := List.mem_range.1 h1
    have hil : i < listed.size := by omega
    obtain ⟨p, hp⟩ := List.getElem?_of_mem (R.all i hlt)
    obtain ⟨o, set, t⟩ := R.step p i hp
    have ho := t.at_
    have hpl : p < L.length := (List.getElem?_eq_some_iff.1 hp).1
    rw [ho] at h2
    simp only [Bool.and_eq_true, Bool.not_eq_true', Option.map_some, Option.getD_some] at h2
    obtain ⟨h2a, h2b⟩ := h2
    have hnd : ¬ Done listed i := by
      unfold Done
      simp only [Array.getD_eq_getD_getElem?, hil, getElem?_pos, Option.getD_some] at h2a ⊢
      rw [h2a]
      simp
    have hbef : ∀ j, ((Region.before ops).getD i 0).testBit j = true → Done listed j := by
      intro j hj
      obtain ⟨o', e1, e, e2, e3, e4⟩ := before_back ops hj
      rw [ho] at e1; cases e1
      rw [← Array.all_toList, List.all_eq_true] at h2b
      have h3 := h2b e e2
      rw [e3] at h3
      have h4 : Done listed e.on := by simpa [Done] using h3
      rcases e4 with rfl | e4
      · exact h4
      · exact hcl _ h4 j e4
    have hds := done_set hil
    have hcl' : Closed ops (Done (listed.setIfInBounds i true)) := by
      intro k hk j hj
      rw [hds] at hk ⊢
      rcases hk with hk | rfl
      · exact .inl (hcl k hk j hj)
      · exact .inl (hbef j hj)
    have hls' : (listed.setIfInBounds i true).size = ops.size := by simpa using hls
    have hcount' : (L.filter fun k => !(listed.setIfInBounds i true).getD k true).length ≤ fuel := by
      have := filter_less (p := fun k => !listed.getD k true) (p' := fun k => !(listed.setIfInBounds i true).getD k true) (fun x hx => by
        simp only [Bool.not_eq_true'] at hx ⊢
        rw [Array.getD_eq_getD_getElem?, Array.getElem?_setIfInBounds] at hx
        by_cases e : i = x
        · subst e; simp [hil] at hx
        · simpa [e, Array.getD_eq_getD_getElem?] using hx) (List.mem_of_getElem? hp) (by simp only [h2a, Bool.not_false]) (by simp [Array.getD_eq_getD_getElem?, hil])
      omega
    have hpd : ∀ u, (a.put o.dst u).tmps.size = nt ∧ (a.put o.dst u).defers = df := by
      intro u
      unfold Act.put
      cases o.dst with
      | none => exact ⟨hsz, hdf⟩
      | some d => exact ⟨by simpa using hsz, hdf⟩
    have goOn : ∀ (base' : Nat) (φ' : Phi) (g' : Id → Blk) (u : Value) (v : V) (w' : World), Ext φ φ' → HeapOk ops L st (fun j => Done listed j ∨ j = i) base' φ0 φ' g' w0 w' → VR φ' v u → (st (p + 1)).sl = set.v v (st p).sl → wpAny E.P .any ops Q fuel (listed.setIfInBounds i true) (a.put o.dst u) w' := by
      intro base' φ' g' u v w' hext H' hv hsl
      have hput := R.put hcl hp t hnd hext hsz hs hv hsl a.defers
      rw [← hds] at H' hput
      exact ih _ base' φ' g' _ w' hls' hcl' (hpd u).1 hput H' (hpd u).2 hcount'
    have hwant := R.wanted hcl hp t hnd hbef hsz hs
    have hops := R.operands hcl hp ho hnd hbef hs a.defers
    have hstrong : isStrong o.op = true → ∀ q j, q < p → L[q]? = some j → Done listed j := fun h q j hq hj => hbef j (R.strong hp ho h hj hq)
    unfold wpOp
    rw [ho]
    dsimp only
    rw [hwant]
    rcases t.step with ⟨hw, hsl, hh, _⟩ | ⟨hw, f, v, hf, hq, hsl, hx⟩
    · rw [hw]
      simp only [Bool.false_eq_true, if_false]
      have hq : isStrong o.op = false ∨ ∀ q j, q < p → L[q]? = some j → Done listed j := by
        cases h : isStrong o.op with
        | false => exact .inl rfl
        | true => exact .inr (hstrong h)
      obtain ⟨base', H'⟩ := H.quiet R hp ho hnd hq hh H.heap (Fr.refl _ _ _)
      exact goOn base' φ g _ .undef w (Ext.refl φ) H' (VR.undef φ) hsl
    · rw [hw]
      simp only [if_true]
      left
      rcases hx with ⟨hst, _⟩ | ⟨hst, _, hchk⟩
      · have hpre := hstrong hst
        have hb := H.base_le hp hnd
        refine opX_wp R.ok hf R.sim hops hq (R.wfAt (Nat.le_of_lt hpl)) (H.sub R (Nat.le_of_lt hpl) hb hpre) (fun x h1 h2 => (H.undone p i hb hp hnd x h1 h2).2) fun u w' φ' s hv => ?_
        exact goOn (p + 1) φ' _ u v w' (s.ext fun x h1 h2 => (H.undone p i hb hp hnd x h1 h2).2) (H.act R hp hnd hpre s) hv hsl
      · rcases opX_cases hf with ⟨d, hd, rfl⟩ | ⟨fo, args, ats, l, hop, _⟩
        · have hwk := weak_ok R.ok hst hd hops hq w
          rcases hwk with hk | ⟨blk, gr, hk⟩ | ⟨hsame, u, w', e1, e2, e3⟩
          · -- it looks
            have hgs : HR φ (fun x => if ((st p).h.get x).alive = true then g x else .dead) w := by
              refine ⟨fun x hx => ?_, fun x y l m hne hox hay hl hm => ?_⟩
              · by_cases e : ((st p).h.get x).alive = true
                · simp only [e, if_true] at hx ⊢
                  exact H.heap.lies x hx
                · simp only [e] at hx
                  cases hx
              · by_cases e : ((st p).h.get x).alive = true
                · by_cases e' : ((st p).h.get y).alive = true
                  · simp only [e, e', if_true] at hox hay
                    exact H.heap.apart x y l m hne hox hay hl hm
                  · simp only [e'] at hay
                    cases hay
                · simp only [e] at hox
                  cases hox
            obtain ⟨e1, u, w', e2, e3, e4⟩ := hk _ hgs (fun gop hgop x hx => by
              obtain ⟨y, hy1, hy2⟩ := loadOf_operand hgop
              have hφ := refs_phi (hops y hy1 gop hy2) hx
              by_cases e : ((st p).h.get x).alive = true
              · simp only [e, if_true]
                refine H.seen R hp hnd e hφ fun q j o' set' h1 h2 h3 h4 t' h5 h6 => ?_
                have hn := R.noted h3 t' h5 h6 (p - (q + 1)) (by omega)
                rw [show q + 1 + (p - (q + 1)) = p by omega] at hn
                refine chkE_all (hchk gop hgop x hx) j ?_ _ hn
                unfold against
                rw [List.mem_filter]
                refine ⟨mem_take.2 ⟨q, h2, h3⟩, ?_⟩
                rw [t'.at_]
                simp only [Option.map_some, Option.getD_some, h5, Bool.and_true, Bool.not_eq_true']
                cases hb : ((Region.before ops).getD i 0).testBit j with
                | false => rfl
                | true => exact absurd (hbef j hb) h4
              · simp only [e]
                exact (Blk.dead_of (by simpa using e)).symm)
            have hcalm : Calm φ g w w' := by
              refine ⟨e4.os, e4.tape, e4.output, e4.size, fun b => (e4.block b).imp id fun ⟨h1, h2⟩ => ⟨?_, h2⟩⟩
              obtain ⟨x, l, a1, a2, a3⟩ := h1
              by_cases e : ((st p).h.get x).alive = true
              · simp only [e, if_true] at a1
                exact ⟨x, l, a1, a2, a3⟩
              · simp only [e] at a1
                cases a1
            obtain ⟨base', H'⟩ := H.quiet R hp ho hnd (.inl hst) e1 (hcalm.hr H.heap) hcalm.fr
            unfold Oper.wp
            rw [e2]
            exact goOn base' φ g u v w' (Ext.refl φ) H' e3 hsl
          · -- it lays a block
            have hb := H.base_le hp hnd
            have hnone := (H.undone p i hb hp hnd (st p).h.next (Nat.le_refl _) (by rw [gr.1]; omega)).2
            obtain ⟨l, u, w', e1, e2, e3, e4, e5⟩ := hk hnone
            obtain ⟨_, H'⟩ := H.lay R hp ho hnd hst gr e2 e3 e4
            unfold Oper.wp
            rw [e1]
            exact goOn base _ _ u v w' (Ext.upd hnone l) H' e5 hsl
          · have hh' : HR φ g w' := H.heap.same (by rw [e2.size]; omega) (fun x l hx hl => by
              obtain ⟨l', a1, a2, _⟩ := H.heap.lies x hx
              rw [hl] at a1; cases a1
              exact e2.old _ a2)
            obtain ⟨base', H'⟩ := H.quiet R hp ho hnd (.inl hst) hsame hh' e2.fr
            unfold Oper.wp
            rw [e1]
            exact goOn base' φ g u v w' (Ext.refl φ) H' e3 hsl
        · rw [hop] at hst; cases hst
end
theorem few_of_lt : ∀ (n : Nat) (l : List Nat), l.Nodup → (∀ x ∈ l, x < n) → l.length ≤ n
  | 0, l, _, h => by
    cases l with
    | nil => exact Nat.le_refl _
    | cons x l => exact absurd (h x (List.mem_cons_self ..)) (Nat.not_lt_zero _)
  | n + 1, l, hn, h => by
    by_cases hm : n ∈ l
    · have h1 := few_of_lt n (l.erase n) (hn.erase n) fun x hx => by
        have h2 := (hn.mem_erase_iff).1 hx
        have := h x h2.2
        have := h2.1
        omega
      rw [List.length_erase_of_mem hm] at h1
      omega
    · have h1 := few_of_lt n l hn fun x hx => by
        have := h x hx
        have : x ≠ n := fun e => hm (e ▸ hx)
        omega
      omega
theorem draw_wp {E : Env} (hE : E.Ok) {nt : Nat} {ops : Array Oper} {r : CallF} (hr : CallSim E.P r) (ha : AdvF r) {Q : Exit → Act → World → Prop} {sl sl' : Slots} {h h' : H} {φ : Phi} {a : Act} {w : World} {id : Nat} (hs : SlR φ nt sl a.tmps) (hh : HR φ h.get w) (hw : WF h)
    (q : (drawC E nt ops).v r sl h Slots.none = .yes sl' h') (hf : Free φ h h') (hQ : ∀ φ' tm' w', Step φ h w φ' h' w' → SlR φ' nt sl' tm' → Q .normal ⟨tm', a.defers⟩ w') : (Code.region id ops true).wp E.P Q a w := by
  unfold drawC at q
  split at q
  · rename_i hc
    obtain ⟨hsm, hord⟩ := hc
    obtain ⟨g1, g2⟩ := orderOk_spec _ _ _ _ hord
    obtain ⟨st, s0, s1, s2, s3⟩ := trace_of (canon ops) [] ⟨sl, h, Slots.none⟩ sl' h' q
    have R : Run E nt ops r (canon ops) st := ⟨hE, hr, ha, fun j hj => (g1 j hj).resolve_left (by simp), fun p i hp => by have := g2 p i hp; rwa [List.append_nil] at this, hsm, hs.le, fun p i hp => by have := s1 p i hp; rwa [List.append_nil] at this, by rw [s0]; exact hw⟩
    refine wp_region_any hE.mixed ?_
    have hnone : ∀ j, ¬ Done (Array.replicate ops.size false) j := by
      intro j hj
      unfold Done at hj
      rw [Array.getD_eq_getD_getElem?, Array.getElem?_replicate] at hj
      split at hj <;> simp at hj
    have hadv : ∀ q, q ≤ (canon ops).length → (st 0).h.next.num ≤ (st q).h.next.num := fun q hq => (R.adv_le (Nat.zero_le q) hq).next
    have hdead : ∀ x : Id, (st 0).h.next.num ≤ x.num → h.get x = .dead := fun x hx => by rw [s0] at hx; exact hw.dead x hx
    refine R.any (φ0 := φ) (w0 := w) (df := a.defers) (fun φ' tm' w' st' hsl' => ?_) ops.size (Array.replicate ops.size false) 0 φ h.get a _ (by simp) (fun i hi => absurd hi (hnone i)) hs.size ?_ ?_ rfl ?_
    · rw [s0, s3] at st'
      rw [s2] at hsl'
      exact hQ φ' tm' w' st' hsl'
    · -- no slot is written yet
      intro q t hq ht hag
      have key : ∀ d, d ≤ q → sget (st d).sl t = sget sl t := by
        intro d
        induction d with
        | zero => intro _; rw [s0]
        | succ d ih =>
          intro hd
          have hlt : d < (canon ops).length := by omega
          have hk := List.getElem?_eq_getElem hlt
          obtain ⟨o, set, tt⟩ := R.step _ _ hk
          have hle := hs.le
          rw [tt.slot hs.le (by omega), ih (by omega)]
          intro hdst
          exact hnone _ ((hag d _ o hk tt.at_ hdst).2 (by omega))
      rw [key q (Nat.le_refl _)]
      exact hs.at_ t ht
    · refine ⟨Nat.zero_le _, fun q i hq => absurd hq (Nat.not_lt_zero _), fun q i o _ _ _ hd => absurd hd (hnone i), fun x _ => by rw [s0], fun q i _ _ hd => absurd hd (hnone i), fun q i _ hq _ x h1 h2 => ?_, fun x hx => hdead x (Nat.le_trans (hadv _ (Nat.le_refl _)) hx), ?_, fun _ _ => rfl, ?_, fun b hb => .inl (by rw [s0]; exact hb)⟩
      · have hql : q < (canon ops).length := (List.getElem?_eq_some_iff.1 hq).1
        have h3 := hadv q (Nat.le_of_lt hql)
        have h4 := (R.adv_le (show q + 1 ≤ (canon ops).length from hql) (Nat.le_refl _)).next
        refine ⟨hdead x (by omega), hf x (by rw [s0] at h3; exact Nat.le_trans h3 h1) ?_⟩
        rw [s3] at h4
        omega
      · exact hh.same (Nat.le_refl _) (fun _ _ _ _ => rfl)
      · exact ⟨rfl, rfl, rfl, Nat.le_refl _, fun _ _ _ => rfl⟩
    · refine Nat.le_trans (List.length_filter_le _ _) ?_
      -- the order is no longer than the region
      refine few_of_lt ops.size (canon ops) ?_ fun j hj => ?_
      · show List.Pairwise (· ≠ ·) (canon ops)
        rw [List.pairwise_iff_getElem]
        intro i j hi hj hij e
        have h1 := List.getElem?_eq_getElem hi
        rw [e] at h1
        have := R.once h1 (List.getElem?_eq_getElem hj)
        omega
      · obtain ⟨p, hp⟩ := List.getElem?_of_mem hj
        exact R.lt hp
  · cases q
end Go.Proofs.YtjmdmpfekoinbaaGreat.AMK

namespace Go.Proofs.YtjmdmpfekoinbaaGreat.AMK
open Go

/-! ### code -/
def LoopIn (P : Program) (c : Code) (Q : Exit → Act → World → Prop) (a : Act) (w : World) : Prop :=
  ∀ (b : Frame) (k : List Item) (cs : List Frame), ∃ e a' w', Q e a' w' ∧ Arrives P (lone (b.at a (.code c :: .inLoop c :: k)) cs w) b k cs e a' w'
theorem LoopIn.wp {P : Program} {c : Code} {Q : Exit → Act → World → Prop} {a : Act} {w : World} (h : LoopIn P c Q a w) : (Code.loop c).wp P Q a w := fun b k cs =>
  let ⟨e, a', w', q, r⟩ := h b k cs
  ⟨e, a', w', q, .of_steps (.one step_loop) r⟩
theorem LoopIn.unroll {P : Program} {c : Code} {Q : Exit → Act → World → Prop} {a : Act} {w : World} (h : c.wp P (Exit.then (LoopIn P c Q) Q) a w) : LoopIn P c Q a w := by
  intro b k cs
  obtain ⟨e, a₁, w₁, hq, harr⟩ := h b (.inLoop c :: k) cs
  cases e with
  | normal =>
    obtain ⟨e₂, a₂, w₂, hq₂, harr₂⟩ := hq b k cs
    exact ⟨e₂, a₂, w₂, hq₂, .of_steps (Steps.trans harr (.one step_inLoop)) harr₂⟩
  | exit id => exact ⟨_, a₁, w₁, hq, .pass (x := .inLoop c) rfl (fun _ _ => .inl (by simp)) harr⟩
  | goto l => exact ⟨_, a₁, w₁, hq, .pass (x := .inLoop c) rfl (fun _ _ => .inl (by simp)) harr⟩
  | ret => exact ⟨_, a₁, w₁, hq, .pass (x := .inLoop c) rfl (fun _ _ => .inl (by simp)) harr⟩
  | panic ch => exact ⟨_, a₁, w₁, hq, .pass (x := .inLoop c) rfl (fun _ _ => .inl (by simp)) harr⟩
  | outgrown => exact ⟨_, a₁, w₁, hq, .pass (x := .inLoop c) rfl (fun _ _ => .inl (by simp)) harr⟩
def wpL (P : Program) (c : Code) (Q : Exit → Act → World → Prop) (a : Act) (w : World) : Prop :=
  match c with
  | .loop c => LoopIn P c Q a w
  | c => c.wp P Q a w
theorem wpL.wp {P : Program} {c : Code} {Q : Exit → Act → World → Prop} {a : Act} {w : World} (h : wpL P c Q a w) : c.wp P Q a w := by
  cases c with
  | loop c => exact LoopIn.wp h
  | _ => exact h
/-- from a state, code comes to an end -/
def CodeTo (P : Program) (nt : Nat) (c : Code) (sl : Slots) (h : H) (sl' : Slots) (h' : H) (ex : Exit) : Prop :=
  ∀ (Q : Exit → Act → World → Prop) (φ : Phi) (a : Act) (w : World), SlR φ nt sl a.tmps → HR φ h.get w → WF h → Free φ h h' → (∀ φ' tm' w', Step φ h w φ' h' w' → SlR φ' nt sl' tm' → Q ex ⟨tm', a.defers⟩ w') → wpL P c Q a w
def RCOk (P : Program) (nt : Nat) (c : Code) (sl : Slots) (h : H) : RC → Prop
  | .no => True
  | .normal sl' h' => CodeTo P nt c sl h sl' h' .normal
  | .exit id sl' h' => CodeTo P nt c sl h sl' h' (.exit id)
  | .ret sl' h' => CodeTo P nt c sl h sl' h' .ret
structure RecOk (E : Env) (r : Rec) : Prop where
  adv : AdvC r
  sim : CallSim E.P r.call
  code : ∀ nt c sl h, RCOk E.P nt c sl h (r.code nt c sl h)
section
variable {P : Program} {nt : Nat}
theorem CodeTo.stay {c : Code} {sl : Slots} {h : H} {ex : Exit} (hc : ∀ (Q : Exit → Act → World → Prop) a w, Q ex a w → wpL P c Q a w) : CodeTo P nt c sl h sl h ex :=
  fun Q φ a w hs hh hw hf hQ => hc Q a w (hQ φ a.tmps w (Step.refl hh) hs)
/-- an end that is passed on -/
theorem CodeTo.pass {c d : Code} {sl sl' : Slots} {h h' : H} {ex ex' : Exit} (k : CodeTo P nt c sl h sl' h' ex) (hd : ∀ (Q : Exit → Act → World → Prop) a w, c.wp P (fun e a w => e = ex ∧ Q ex' a w) a w → wpL P d Q a w) : CodeTo P nt d sl h sl' h' ex' :=
  fun Q φ a w hs hh hw hf hQ => hd Q a w (k (fun e a w => e = ex ∧ Q ex' a w) φ a w hs hh hw hf fun φ' tm' w' s1 s2 => ⟨rfl, hQ φ' tm' w' s1 s2⟩).wp
/-- one code behind another one -/
theorem CodeTo.then {c1 c2 d : Code} {sl sl1 sl' : Slots} {h h1 h' : H} {ex : Exit} (adv1 : Adv h h1) (adv2 : Adv h1 h') (k1 : CodeTo P nt c1 sl h sl1 h1 .normal) (k2 : CodeTo P nt c2 sl1 h1 sl' h' ex) (hd : ∀ (Q : Exit → Act → World → Prop) a w, c1.wp P (fun e a w => e = .normal ∧ wpL P c2 Q a w) a w → wpL P d Q a w) : CodeTo P nt d sl h sl' h' ex :=
  fun Q φ a w hs hh hw hf hQ => hd Q a w (k1 _ φ a w hs hh hw (hf.left adv2.next) fun φ1 tm1 w1 s1 hs1 =>
    ⟨rfl, k2 Q φ1 ⟨tm1, a.defers⟩ w1 hs1 s1.heap (adv1.wf hw) (hf.right adv1.next s1) fun φ' tm' w' s2 hs2 => hQ φ' tm' w' (Step.trans adv1.next adv2.next s1 s2) hs2⟩).wp
theorem then_of {c : Code} {ex : Exit} {K : Act → World → Prop} {Q : Exit → Act → World → Prop} {a : Act} {w : World} (hne : ex ≠ .normal) (h : c.wp P (fun e a w => e = ex ∧ Q ex a w) a w) : c.wp P (Exit.then K Q) a w :=
  wp_mono h fun e a w ⟨he, hq⟩ => by
    subst he
    cases e <;> first | exact absurd rfl hne | exact hq
theorem then_normal {c : Code} {K : Act → World → Prop} {Q : Exit → Act → World → Prop} {a : Act} {w : World} (h : c.wp P (fun e a w => e = .normal ∧ K a w) a w) : c.wp P (Exit.then K Q) a w :=
  wp_mono h fun e a w ⟨he, hq⟩ => by
    subst he
    exact hq
theorem rcOk_seq {a b : Code} {r : Rec} (adv : AdvC r) {sl : Slots} {h : H} (ha : RCOk P nt a sl h (r.code nt a sl h)) (hb : ∀ sl1 h1, RCOk P nt b sl1 h1 (r.code nt b sl1 h1)) : RCOk P nt (.seq a b) sl h ((kSeq nt a b).v r sl h) := by
  show RCOk P nt (.seq a b) sl h (RC.rec (motive := fun _ => RC) .no (fun sl h => r.code nt b sl h) .exit .ret (r.code nt a sl h))
  have a1 := adv.code nt a sl h
  cases hr : r.code nt a sl h with
  | no => trivial
  | normal sl1 h1 =>
    rw [hr] at ha a1
    have hb1 := hb sl1 h1
    have a2 := adv.code nt b sl1 h1
    show RCOk P nt (.seq a b) sl h (r.code nt b sl1 h1)
    cases hr2 : r.code nt b sl1 h1 with
    | no => trivial
    | normal sl2 h2 =>
      rw [hr2] at hb1 a2
      exact CodeTo.then a1 a2 ha hb1 fun Q a w hh => wp_seq (then_normal (wp_mono hh fun e a w h => ⟨h.1, h.2.wp⟩))
    | exit id sl2 h2 =>
      rw [hr2] at hb1 a2
      exact CodeTo.then a1 a2 ha hb1 fun Q a w hh => wp_seq (then_normal (wp_mono hh fun e a w h => ⟨h.1, h.2.wp⟩))
    | ret sl2 h2 =>
      rw [hr2] at hb1 a2
      exact CodeTo.then a1 a2 ha hb1 fun Q a w hh => wp_seq (then_normal (wp_mono hh fun e a w h => ⟨h.1, h.2.wp⟩))
  | exit id sl1 h1 =>
    rw [hr] at ha
    exact CodeTo.pass ha fun Q a w hh => wp_seq (then_of (by simp) hh)
  | ret sl1 h1 =>
    rw [hr] at ha
    exact CodeTo.pass ha fun Q a w hh => wp_seq (then_of (by simp) hh)
theorem rcOk_loop {a : Code} {r : Rec} (adv : AdvC r) {sl : Slots} {h : H} (ha : RCOk P nt a sl h (r.code nt a sl h)) (hb : ∀ sl1 h1, RCOk P nt (.loop a) sl1 h1 (r.code nt (.loop a) sl1 h1)) : RCOk P nt (.loop a) sl h ((kLoop nt a).v r sl h) := by
  show RCOk P nt (.loop a) sl h (RC.rec (motive := fun _ => RC) .no (fun sl h => r.code nt (.loop a) sl h) .exit .ret (r.code nt a sl h))
  have a1 := adv.code nt a sl h
  cases hr : r.code nt a sl h with
  | no => trivial
  | normal sl1 h1 =>
    rw [hr] at ha a1
    have hb1 := hb sl1 h1
    have a2 := adv.code nt (.loop a) sl1 h1
    show RCOk P nt (.loop a) sl h (r.code nt (.loop a) sl1 h1)
    cases hr2 : r.code nt (.loop a) sl1 h1 with
    | no => trivial
    | normal sl2 h2 =>
      rw [hr2] at hb1 a2
      exact CodeTo.then a1 a2 ha hb1 fun Q a w hh => LoopIn.unroll (then_normal hh)
    | exit id sl2 h2 =>
      rw [hr2] at hb1 a2
      exact CodeTo.then a1 a2 ha hb1 fun Q a w hh => LoopIn.unroll (then_normal hh)
    | ret sl2 h2 =>
      rw [hr2] at hb1 a2
      exact CodeTo.then a1 a2 ha hb1 fun Q a w hh => LoopIn.unroll (then_normal hh)
  | exit id sl1 h1 =>
    rw [hr] at ha
    exact CodeTo.pass ha fun Q a w hh => LoopIn.unroll (then_of (by simp) hh)
  | ret sl1 h1 =>
    rw [hr] at ha
    exact CodeTo.pass ha fun Q a w hh => LoopIn.unroll (then_of (by simp) hh)
theorem rcOk_block {a : Code} {id : Nat} {r : Rec} {sl : Slots} {h : H} (ha : RCOk P nt a sl h (r.code nt a sl h)) : RCOk P nt (.block id a) sl h ((kBlock nt id a).v r sl h) := by
  show RCOk P nt (.block id a) sl h (RC.rec (motive := fun _ => RC) .no .normal (fun id' sl h => onC (Nat.beq id' id) (.exit id' sl h) (.normal sl h)) .ret (r.code nt a sl h))
  cases hr : r.code nt a sl h with
  | no => trivial
  | normal sl1 h1 =>
    rw [hr] at ha
    exact CodeTo.pass ha fun Q a w hh => wp_block (wp_mono hh fun e a w ⟨he, hq⟩ => by subst he; exact hq)
  | exit id' sl1 h1 =>
    rw [hr] at ha
    show RCOk P nt (.block id a) sl h (onC (Nat.beq id' id) (.exit id' sl1 h1) (.normal sl1 h1))
    cases hb : Nat.beq id' id with
    | false =>
      have hne : id' ≠ id := fun e => by rw [beq_iff.2 e] at hb; cases hb
      exact CodeTo.pass ha fun Q a w hh => wp_block (wp_mono hh fun e a w ⟨he, hq⟩ => by subst he; simpa [Exit.inBlock, hne] using hq)
    | true =>
      have heq := beq_iff.1 hb
      exact CodeTo.pass ha fun Q a w hh => wp_block (wp_mono hh fun e a w ⟨he, hq⟩ => by subst he; simpa [Exit.inBlock, heq] using hq)
  | ret sl1 h1 =>
    rw [hr] at ha
    exact CodeTo.pass ha fun Q a w hh => wp_block (wp_mono hh fun e a w ⟨he, hq⟩ => by subst he; exact hq)
theorem rcOk_pick {c a : Code} {sl : Slots} {h : H} {rc : RC} (ha : RCOk P nt a sl h rc) (hd : ∀ (Q : Exit → Act → World → Prop) φ act w, SlR φ nt sl act.tmps → a.wp P Q act w → wpL P c Q act w) : RCOk P nt c sl h rc := by
  have key : ∀ sl' h' ex, CodeTo P nt a sl h sl' h' ex → CodeTo P nt c sl h sl' h' ex := fun sl' h' ex k Q φ act w hs hh hw hf hQ => hd Q φ act w hs (k Q φ act w hs hh hw hf hQ).wp
  cases rc with
  | no => trivial
  | _ => exact key _ _ _ ha
theorem rcOk_cond {a b : Code} {x : Operand} {g : G} (hg : operC nt x = some g) {r : Rec} {sl : Slots} {h : H} (ha : RCOk P nt a sl h (r.code nt a sl h)) (hb : RCOk P nt b sl h (r.code nt b sl h)) : RCOk P nt (.cond x a b) sl h ((kCond nt g a b).v r sl h) := by
  show RCOk P nt (.cond x a b) sl h (onBool .no (fun t => onC t (r.code nt b sl h) (r.code nt a sl h)) (g.v sl))
  cases hv : g.v sl with
  | sc s =>
    cases s with
    | bool t =>
      have key : ∀ φ (act : Act), SlR φ nt sl act.tmps → act.eval x = .bool t := fun φ act hs => by
        have := operC_ok hs hg act.defers
        rw [hv] at this
        exact this
      show RCOk P nt (.cond x a b) sl h (onC t (r.code nt b sl h) (r.code nt a sl h))
      cases t with
      | false => exact rcOk_pick hb fun Q φ act w hs hk => wp_cond (key φ act hs) hk
      | true => exact rcOk_pick ha fun Q φ act w hs hk => wp_cond (key φ act hs) hk
    | _ => trivial
  | _ => trivial
end
theorem region_adv {E : Env} {nt : Nat} {ops : Array Oper} {r : CallF} (hr : AdvF r) {sl sl' : Slots} {h h' : H} (q : (drawC E nt ops).v r sl h Slots.none = .yes sl' h') : Adv h h' := by
  unfold drawC at q
  split at q
  · obtain ⟨st, s0, s1, s2, s3⟩ := trace_of (canon ops) [] ⟨sl, h, Slots.none⟩ sl' h' q
    have key : ∀ p, p ≤ (canon ops).length → Adv (st 0).h (st p).h := by
      intro p
      induction p with
      | zero => exact fun _ => Adv.refl _
      | succ p ih =>
        intro hp
        have hlt : p < (canon ops).length := hp
        obtain ⟨o, set, t⟩ := s1 p _ (List.getElem?_eq_getElem hlt)
        refine (ih (by omega)).trans ?_
        rcases t.step with ⟨_, _, e, _⟩ | ⟨_, f, v, hf, q, _⟩
        · rw [e]; exact Adv.refl _
        · exact opX_adv hf hr q
    have := key _ (Nat.le_refl _)
    rw [s0, s3] at this
    exact this
  · cases q
theorem code_adv {E : Env} {r : Rec} (hr : AdvC r) (nt : Nat) (c : Code) (sl : Slots) (h : H) : RCAdv h ((codeC E nt c).v r sl h) := by
  cases c with
  | skip => exact Adv.refl h
  | label l => exact Adv.refl h
  | exit id => exact Adv.refl h
  | ret => exact Adv.refl h
  | seq a b =>
    show RCAdv h (RC.rec (motive := fun _ => RC) .no (fun sl h => r.code nt b sl h) .exit .ret (r.code nt a sl h))
    have a1 := hr.code nt a sl h
    cases he : r.code nt a sl h with
    | no => trivial
    | normal sl1 h1 => rw [he] at a1; exact RCAdv.trans a1 (hr.code nt b sl1 h1)
    | exit id sl1 h1 => rw [he] at a1; exact a1
    | ret sl1 h1 => rw [he] at a1; exact a1
  | cond x a b =>
    unfold codeC
    dsimp only
    split
    · rename_i g hg
      show RCAdv h (onBool .no (fun t => onC t (r.code nt b sl h) (r.code nt a sl h)) (g.v sl))
      cases hv : g.v sl with
      | sc s =>
        cases s with
        | bool t =>
          cases t with
          | false => exact hr.code nt b sl h
          | true => exact hr.code nt a sl h
        | _ => trivial
      | _ => trivial
    · trivial
  | block id a =>
    show RCAdv h (RC.rec (motive := fun _ => RC) .no .normal (fun id' sl h => onC (Nat.beq id' id) (.exit id' sl h) (.normal sl h)) .ret (r.code nt a sl h))
    have a1 := hr.code nt a sl h
    cases he : r.code nt a sl h with
    | no => trivial
    | normal sl1 h1 => rw [he] at a1; exact a1
    | exit id' sl1 h1 =>
      rw [he] at a1
      show RCAdv h (onC (Nat.beq id' id) (.exit id' sl1 h1) (.normal sl1 h1))
      cases Nat.beq id' id <;> exact a1
    | ret sl1 h1 => rw [he] at a1; exact a1
  | loop a =>
    show RCAdv h (RC.rec (motive := fun _ => RC) .no (fun sl h => r.code nt (.loop a) sl h) .exit .ret (r.code nt a sl h))
    have a1 := hr.code nt a sl h
    cases he : r.code nt a sl h with
    | no => trivial
    | normal sl1 h1 => rw [he] at a1; exact RCAdv.trans a1 (hr.code nt (.loop a) sl1 h1)
    | exit id sl1 h1 => rw [he] at a1; exact a1
    | ret sl1 h1 => rw [he] at a1; exact a1
  | region id ops draw =>
    cases draw with
    | true =>
      show RCAdv h (RS.rec (motive := fun _ => RC) .no .normal ((drawC E nt ops).v r.call sl h Slots.none))
      cases he : (drawC E nt ops).v r.call sl h Slots.none with
      | no => trivial
      | yes sl1 h1 => exact region_adv hr.call he
    | false =>
      show RCAdv h (RS.rec (motive := fun _ => RC) .no .normal ((opsC E nt ops ops.toList).v r.call sl h))
      cases he : (opsC E nt ops ops.toList).v r.call sl h with
      | no => trivial
      | yes sl1 h1 => exact opsC_adv hr.call _ _ _ _ _ he
  | _ => trivial
theorem code_ok {E : Env} (hE : E.Ok) {r : Rec} (hr : RecOk E r) (nt : Nat) (c : Code) (sl : Slots) (h : H) : RCOk E.P nt c sl h ((codeC E nt c).v r sl h) := by
  cases c with
  | skip => exact CodeTo.stay fun Q a w q => wp_skip q
  | label l => exact CodeTo.stay fun Q a w q => wp_label q
  | exit id => exact CodeTo.stay fun Q a w q => wp_exit q
  | ret => exact CodeTo.stay fun Q a w q => wp_ret q
  | seq a b => exact rcOk_seq hr.adv (hr.code nt a sl h) (hr.code nt b)
  | cond x a b =>
    unfold codeC
    dsimp only
    split
    · rename_i g hg
      exact rcOk_cond hg (hr.code nt a sl h) (hr.code nt b sl h)
    · trivial
  | block id a => exact rcOk_block (hr.code nt a sl h)
  | loop a => exact rcOk_loop hr.adv (hr.code nt a sl h) (hr.code nt (.loop a))
  | region id ops draw =>
    cases draw with
    | true =>
      show RCOk E.P nt (.region id ops true) sl h (RS.rec (motive := fun _ => RC) .no .normal ((drawC E nt ops).v r.call sl h Slots.none))
      cases he : (drawC E nt ops).v r.call sl h Slots.none with
      | no => trivial
      | yes sl1 h1 => exact fun Q φ a w hs hh hw hf hQ => draw_wp hE hr.sim hr.adv.call hs hh hw he hf hQ
    | false =>
      show RCOk E.P nt (.region id ops false) sl h (RS.rec (motive := fun _ => RC) .no .normal ((opsC E nt ops ops.toList).v r.call sl h))
      cases he : (opsC E nt ops ops.toList).v r.call sl h with
      | no => trivial
      | yes sl1 h1 =>
        intro Q φ a w hs hh hw hf hQ
        refine wp_region ?_
        have := opsC_wp hE hr.sim hr.adv.call (Q := Q) ops.toList 0 sl sl1 h h1 φ a w rfl hs hh hw he hf hQ
        rw [List.range_eq_range']
        simpa using this
  | _ => trivial
end Go.Proofs.YtjmdmpfekoinbaaGreat.AMK

namespace Go.Proofs.YtjmdmpfekoinbaaGreat.AMK
open Go

/-! ### results -/
section
variable {P : Program}
theorem elem_pure {φ : Phi} {h : H} {w : World} (hr : HR φ h.get w) {x : Id} {l : Loc} (hl : φ x = some l) {t : TypeId} {n i f : Nat} (ha : isAgg P t = some true) (hn : sizeOf P t = some n) {v : V}
    (e : onElem none i (fun cs size => onC (andB (Nat.beq f 0) (Nat.beq n size)) (onO (takeN n (dropN f cs)) none fun l => some (V.agg l)) (some (V.agg cs))) (h.get x) = some v) : ∃ u, (loadVar t (l.at i f)).run P w = .ok u w ∧ VR φ v u := by
  obtain ⟨cs, size, e2, hlen, hc⟩ := elem_ok hr hl e nn
  obtain ⟨ti, hi, hs, _⟩ := sizeOf_ok hn
  have key : ∀ cs' : List S, cs'.length = n → (∀ j s, cs'[j]? = some s → CR φ w (l.at i (f + j)) s) → ∃ u, (loadVar t (l.at i f)).run P w = .ok u w ∧ VR φ (.agg cs') u := by
    intro cs' hn' hc'
    obtain ⟨us, h1, h2⟩ := cells_there cs' _ hc'
    refine ⟨.agg us.toArray, ?_, ⟨us, rfl, h1⟩⟩
    have h3 := run_loadCells_list (P := P) w (l.at i f) us (fun j v hv => by rw [at_add]; exact h2 j v hv)
    rw [← h1.length, hn', ← hs] at h3
    simp [loadVar, isAgg_ok ha, run_size hi, h3]
  cases hb : andB (Nat.beq f 0) (Nat.beq n size)
  · rw [hb] at e2
    obtain ⟨r, hr', e3⟩ := onO_yes (show onO (takeN n (dropN f cs)) none (fun l => some (V.agg l)) = some v from e2) nn
    cases e3
    rw [takeN_eq, dropN_eq] at hr'
    split at hr'
    · rename_i hle
      cases hr'
      refine key _ (by rw [List.length_take]; omega) fun j s hs => hc _ _ ?_
      rw [List.getElem?_take] at hs
      split at hs
      · rwa [List.getElem?_drop] at hs
      · cases hs
    · cases hr'
  · rw [hb] at e2
    cases e2
    simp only [andB_eq, Bool.and_eq_true, beq_iff] at hb
    obtain ⟨rfl, rfl⟩ := hb
    exact key cs hlen fun j s hs => by rw [Nat.zero_add]; exact hc j s hs
theorem cell_pure {φ : Phi} {h : H} {w : World} (hr : HR φ h.get w) {x : Id} {l : Loc} (hl : φ x = some l) {t : TypeId} {i f : Nat} (ha : isAgg P t = some false) {v : V}
    (e : onElem none i (fun cs _ => nth none (fun v => some (V.sc v)) cs f) (h.get x) = some v) : ∃ u, (loadVar t (l.at i f)).run P w = .ok u w ∧ VR φ v u := by
  obtain ⟨cs, size, e2, hlen, hc⟩ := elem_ok hr hl e nn
  rw [nth_eq] at e2
  split at e2
  · rename_i s hs
    cases e2
    obtain ⟨q, h1, h2⟩ := hc f s hs
    exact ⟨q, by simp [loadVar, isAgg_ok ha, h1], h2⟩
  · cases e2
/-- one result, as it is read -/
def readR (tm : Array Value) : ResultVar → Sem Value
  | .tmp t => pure (tm.getD t undef)
  | .cell a t => do loadVar t (← asAddr (tm.getD a undef))
theorem resC_ok {φ : Phi} {nt : Nat} {sl : Slots} {tm : Array Value} (hs : SlR φ nt sl tm) {h : H} {w : World} (hh : HR φ h.get w) {x : ResultVar} {f : ResF} (hf : resC P nt x = some f) {v : V} (q : f.v sl h = some v) : ∃ u, (readR tm x).run P w = .ok u w ∧ VR φ v u := by
  unfold resC at hf
  cases x with
  | tmp t =>
    dsimp only at hf
    split at hf
    · rename_i ht
      cases hf
      replace q : some ((getC t).v sl) = some v := q
      cases q
      rw [getC_eq]
      exact ⟨_, rfl, hs.at_ t ht⟩
    · cases hf
  | cell a t =>
    dsimp only at hf
    split at hf
    · cases hf
    · rename_i hlt
      have hat := hs.at_ a (by omega)
      split at hf
      · rename_i ha
        split at hf
        · rename_i n hn
          cases hf
          obtain ⟨y, i, j, hv, q1⟩ := onPtr_yes q nn
          rw [getC_eq] at hv
          rw [hv] at hat
          obtain ⟨l, hl, he⟩ := hat
          obtain ⟨u, h1, h2⟩ := elem_pure hh hl ha hn q1
          refine ⟨u, ?_, h2⟩
          simp only [readR, he, asAddr]
          rw [Sem.run_bind]
          exact h1
        · cases hf
      · rename_i ha
        cases hf
        obtain ⟨y, i, j, hv, q1⟩ := onPtr_yes q nn
        rw [getC_eq] at hv
        rw [hv] at hat
        obtain ⟨l, hl, he⟩ := hat
        obtain ⟨u, h1, h2⟩ := cell_pure hh hl ha q1
        refine ⟨u, ?_, h2⟩
        simp only [readR, he, asAddr]
        rw [Sem.run_bind]
        exact h1
      · cases hf
theorem resT_ok {φ : Phi} {nt : Nat} {sl : Slots} {tm : Array Value} (hs : SlR φ nt sl tm) {h : H} {w : World} (hh : HR φ h.get w) : ∀ {l : List ResultVar} {f : ResT} {ps : List (Bool × List S)}, resT P nt l = some f → f.v sl h = some ps → ∃ us, (l.mapM (readR tm)).run P w = .ok us w ∧ All2 (PR φ) ps us
  | [], f, ps, hf, q => by
    cases hf
    replace q : some ([] : List (Bool × List S)) = some ps := q
    cases q
    exact ⟨[], rfl, .nil⟩
  | x :: l, f, ps, hf, q => by
    unfold resT at hf
    split at hf
    · rename_i f1 f2 h1 h2
      cases hf
      obtain ⟨v, q1, q2⟩ := onO_yes (show onO (f1.v sl h) none (fun v => onO (asTup v) none fun p => onO (f2.v sl h) none fun r => some (p :: r)) = some ps from q) nn
      obtain ⟨p, q3, q4⟩ := onO_yes q2 nn
      obtain ⟨r, q5, q6⟩ := onO_yes q4 nn
      cases q6
      obtain ⟨u, e1, e2⟩ := resC_ok hs hh h1 q1
      obtain ⟨us, e3, e4⟩ := resT_ok hs hh h2 q5
      refine ⟨u :: us, ?_, .cons ?_ e4⟩
      · rw [List.mapM_cons]
        simp only [Sem.run_bind, e1, Result.andThen_ok, e3, Sem.run_pure]
      · cases v with
        | sc s => cases q3; exact .inr ⟨rfl, s, rfl, e2⟩
        | agg cs => cases q3; exact .inl ⟨rfl, e2⟩
        | tup _ => cases q3
    · cases hf
theorem resT_length {nt : Nat} : ∀ {l : List ResultVar} {f : ResT} {sl : Slots} {h : H} {ps : List (Bool × List S)}, resT P nt l = some f → f.v sl h = some ps → ps.length = l.length
  | [], f, sl, h, ps, hf, q => by
    cases hf
    replace q : some ([] : List (Bool × List S)) = some ps := q
    cases q
    rfl
  | x :: l, f, sl, h, ps, hf, q => by
    unfold resT at hf
    split at hf
    · rename_i f1 f2 h1 h2
      cases hf
      obtain ⟨v, q1, q2⟩ := onO_yes (show onO (f1.v sl h) none (fun v => onO (asTup v) none fun p => onO (f2.v sl h) none fun r => some (p :: r)) = some ps from q) nn
      obtain ⟨p, q3, q4⟩ := onO_yes q2 nn
      obtain ⟨r, q5, q6⟩ := onO_yes q4 nn
      cases q6
      simp [resT_length h2 q5]
    · cases hf
theorem results_run {fn : Func} {tm : Array Value} {w : World} {us : List Value} (h : (fn.results.toList.mapM (readR tm)).run P w = .ok us w) : (results fn tm).run P w = .ok (match us with | [u] => u | us => .tuple us.toArray) w := by
  have h1 : (fn.results.mapM (readR tm)).run P w = .ok us.toArray w := by
    rw [Array.mapM_eq_mapM_toList]
    rw [map_eq_pure_bind, Sem.run_bind, h]
    try rfl
  have h2 : results fn tm = (do let vs ← fn.results.mapM (readR tm); pure (if h : vs.size = 1 then vs[0] else .tuple vs)) := by
    unfold results
    congr 1
  rw [h2, Sem.run_bind, h1]
  match us with
  | [] => rfl
  | [u] => rfl
  | u :: u' :: us => simp
theorem resL_ok {φ : Phi} {fn : Func} {sl : Slots} {tm : Array Value} (hs : SlR φ fn.ntmps sl tm) {h : H} {w : World} (hh : HR φ h.get w) {f : ResF} (hf : resL P fn.ntmps fn.results.toList = some f) {v : V} (q : f.v sl h = some v) : ∃ u, (results fn tm).run P w = .ok u w ∧ VR φ v u := by
  unfold resL at hf
  split at hf
  · rename_i x hx
    obtain ⟨u, h1, h2⟩ := resC_ok hs hh hf q
    refine ⟨u, results_run (us := [u]) ?_, h2⟩
    rw [hx]
    simp only [List.mapM_cons, List.mapM_nil, Sem.run_bind, h1, Result.andThen_ok, Sem.run_pure]
  · rename_i l hl
    split at hf
    · rename_i g hg
      cases hf
      obtain ⟨ps, q1, q2⟩ := onO_yes q nn
      cases q2
      obtain ⟨us, h1, h2⟩ := resT_ok hs hh hg q1
      refine ⟨_, results_run h1, ?_⟩
      have h3 := resT_length hg q1
      have h4 := h2.length
      have hne : us.length ≠ 1 := fun e => by
        rw [h3, e] at h4
        match hr : fn.results.toList with
        | [x] => exact hl x hr
        | [] => rw [hr] at h4; cases h4
        | x :: y :: r => rw [hr] at h4; simp at h4
      match us, h2, hne with
      | [], h2, _ => exact ⟨[], rfl, h2⟩
      | [u], _, hne => exact absurd rfl hne
      | u :: u' :: us, h2, _ => exact ⟨_, rfl, h2⟩
    · cases hf
end

/-! ### calls -/
theorem argSlots_get : ∀ (l : List V) (i : Nat) (s : Slots) (t : Nat), i + l.length ≤ 512 → t < 512 → sget (argSlots l i s) t = if i ≤ t ∧ t < i + l.length then l.getD (t - i) .undef else sget s t
  | [], i, s, t, _, _ => by rw [if_neg (by simp)]; rfl
  | v :: l, i, s, t, h, ht => by
    simp only [List.length_cons] at h ⊢
    rw [show argSlots (v :: l) i s = argSlots l (i + 1) ((setC i).v v s) from rfl, argSlots_get l _ _ t (by omega) ht, setC_get _ (by omega) _ _ _ ht]
    by_cases h1 : i + 1 ≤ t ∧ t < i + 1 + l.length
    · rw [if_pos h1, if_pos (by omega), show t - i = (t - (i + 1)) + 1 by omega, List.getD_cons_succ]
    · rw [if_neg h1]
      by_cases h2 : t = i
      · subst h2
        rw [if_pos rfl, if_pos (by omega), Nat.sub_self, List.getD_cons_zero]
      · rw [if_neg h2, if_neg (by omega)]
theorem args_slots {φ : Phi} {nt : Nat} {args : List V} {us : List Value} (h : All2 (VR φ) args us) (hle : args.length ≤ nt) (h5 : nt ≤ 512) : SlR φ nt (argSlots args 0 Slots.none) (us.toArray ++ Array.replicate (nt - us.toArray.size) undef) := by
  have hl := h.length
  refine ⟨by simp; omega, h5, fun t ht => ?_⟩
  rw [argSlots_get _ _ _ _ (by omega) (by omega)]
  by_cases hin : t < args.length
  · rw [if_pos (by omega), Nat.sub_zero]
    have h1 : args[t]? = some (args.getD t .undef) := by simp [List.getD, hin]
    obtain ⟨u, h2, h3⟩ := h.get _ _ h1
    have h4 : (us.toArray ++ Array.replicate (nt - us.toArray.size) undef).getD t undef = u := by
      have h6 : t < us.length := by omega
      rw [Array.getD_eq_getD_getElem?, Array.getElem?_append_left (by simpa using h6), List.getElem?_toArray, h2]
      rfl
    rw [h4]
    exact h3
  · rw [if_neg (by omega), sget_none]
    have h4 : (us.toArray ++ Array.replicate (nt - us.toArray.size) undef).getD t undef = undef := by
      rw [Array.getD_eq_getD_getElem?, Array.getElem?_append_right (by simp; omega), Array.getElem?_replicate]
      split <;> rfl
    rw [h4]
    exact VR.undef φ
/-- what is asked of the answers that are told otherwise -/
structure OvrOk (E : Env) : Prop where
  adv : ∀ f k, E.ovr f = some k → ∀ args h v h', k.v args h = .yes v h' → Adv h h'
  sim : ∀ f k, E.ovr f = some k → ∀ args h v h', k.v args h = .yes v h' → WF h → Enters E.P f ∧ ∀ φ w us, HR φ h.get w → All2 (VR φ) args us → Free φ h h' → CallsTo E.P f us φ h w v h'
theorem kCall_yes {nt : Nat} {c : Code} {res : ResF} {r : Rec} {args : List V} {h h' : H} {v : V} (q : (kCall nt c res).v r args h = .yes v h') : args.length ≤ nt ∧ ∃ sl', res.v sl' h' = some v ∧ (r.code nt c (argSlots args 0 Slots.none) h = .normal sl' h' ∨ r.code nt c (argSlots args 0 Slots.none) h = .ret sl' h') := by
  obtain ⟨hc, q1⟩ := onC_yes (show onC (Nat.ble (len args) nt) RV.no (RC.rec (motive := fun _ => RV) .no (fun sl h' => onO (res.v sl h') .no fun v => .yes v h') (fun _ _ _ => .no) (fun sl h' => onO (res.v sl h') .no fun v => .yes v h') (r.code nt c (argSlots args 0 Slots.none) h)) = .yes v h' from q) noYes
  rw [len_eq] at hc
  refine ⟨ble_iff.1 hc, ?_⟩
  cases he : r.code nt c (argSlots args 0 Slots.none) h with
  | no => rw [he] at q1; cases q1
  | normal sl1 h1 =>
    rw [he] at q1
    obtain ⟨v', q2, q3⟩ := onO_yes (show onO (res.v sl1 h1) RV.no (fun v => .yes v h1) = .yes v h' from q1) noYes
    obtain ⟨rfl, rfl⟩ := yes_inj q3
    exact ⟨sl1, q2, .inl rfl⟩
  | exit id sl1 h1 => rw [he] at q1; cases q1
  | ret sl1 h1 =>
    rw [he] at q1
    obtain ⟨v', q2, q3⟩ := onO_yes (show onO (res.v sl1 h1) RV.no (fun v => .yes v h1) = .yes v h' from q1) noYes
    obtain ⟨rfl, rfl⟩ := yes_inj q3
    exact ⟨sl1, q2, .inr rfl⟩
theorem callC_cases {E : Env} {f : Nat} {r : Rec} {args : List V} {h h' : H} {v : V} (q : (callC E f).v r args h = .yes v h') : (∃ k, E.ovr f = some k ∧ k.v args h = .yes v h') ∨
    ∃ fn c res, E.P.funcs[f]? = some fn ∧ (fn.name == "runtime.NumGoroutine") = false ∧ fn.ntmps ≤ 512 ∧ fn.body = some c ∧ resL E.P fn.ntmps fn.results.toList = some res ∧ (kCall fn.ntmps c res).v r args h = .yes v h' := by
  unfold callC at q
  split at q
  · rename_i k hk
    exact .inl ⟨k, hk, q⟩
  · split at q
    · rename_i fn hfn
      split at q
      · cases q
      · rename_i hn
        split at q
        · cases q
        · rename_i hsm
          split at q
          · rename_i c res hc hres
            exact .inr ⟨fn, c, res, hfn, by simpa using hn, by omega, hc, hres, q⟩
          · cases q
    · cases q
theorem step_ok {E : Env} (hE : E.Ok) (hO : OvrOk E) {r : Rec} (hr : RecOk E r) : RecOk E (stepR E r) := by
  have hadv : AdvF (stepR E r).call := by
    intro f args h v h' q
    rcases callC_cases q with ⟨k, hk, q1⟩ | ⟨fn, c, res, _, _, _, _, _, q1⟩
    · exact hO.adv f k hk _ _ _ _ q1
    · obtain ⟨_, sl', _, h1 | h1⟩ := kCall_yes q1
      · have := hr.adv.code fn.ntmps c (argSlots args 0 Slots.none) h
        rw [h1] at this
        exact this
      · have := hr.adv.code fn.ntmps c (argSlots args 0 Slots.none) h
        rw [h1] at this
        exact this
  refine ⟨⟨hadv, fun nt c sl h => code_adv hr.adv nt c sl h⟩, ?_, fun nt c sl h => code_ok hE hr nt c sl h⟩
  intro f args h v h' q hw
  rcases callC_cases q with ⟨k, hk, q1⟩ | ⟨fn, c, res, hfn, hn, hsm, hc, hres, q1⟩
  · exact hO.sim f k hk _ _ _ _ q1 hw
  · refine ⟨⟨fn, hfn, hn, by rw [hc]; rfl⟩, fun φ w us hh hus hf => ?_⟩
    obtain ⟨hle, sl', hv, hcode⟩ := kCall_yes q1
    have hs := args_slots hus hle hsm
    have hk := hr.code fn.ntmps c (argSlots args 0 Slots.none) h
    have fin : ∀ φ' tm' w', Step φ h w φ' h' w' → SlR φ' fn.ntmps sl' tm' → ∃ v', (results fn tm').run E.P w' = .ok v' w' ∧ ∃ φ', Step φ h w φ' h' w' ∧ VR φ' v v' := fun φ' tm' w' s1 s2 => by
      obtain ⟨u, e1, e2⟩ := resL_ok s2 s1.heap hres hv
      exact ⟨u, e1, φ', s1, e2⟩
    refine calls_of_wp hfn hc ?_
    rcases hcode with h1 | h1
    · rw [h1] at hk
      exact (hk (bodyPost E.P fn _) φ ⟨us.toArray ++ Array.replicate (fn.ntmps - us.toArray.size) undef, []⟩ w hs hh hw hf fun φ' tm' w' s1 s2 => ⟨rfl, fin φ' tm' w' s1 s2⟩).wp
    · rw [h1] at hk
      exact (hk (bodyPost E.P fn _) φ ⟨us.toArray ++ Array.replicate (fn.ntmps - us.toArray.size) undef, []⟩ w hs hh hw hf fun φ' tm' w' s1 s2 => ⟨rfl, fin φ' tm' w' s1 s2⟩).wp
theorem bot_ok (E : Env) : RecOk E bot := ⟨⟨fun _ _ _ _ _ q => (by cases q), fun _ _ _ _ => trivial⟩, fun _ _ _ _ _ q => by (cases q), fun _ _ _ _ => trivial⟩
theorem big_ok {E : Env} (hE : E.Ok) (hO : OvrOk E) : ∀ n, RecOk E (big E n)
  | 0 => bot_ok E
  | n + 1 => step_ok hE hO (big_ok hE hO n)
theorem H.empty_get (x : Id) : H.empty.get x = .dead := Heap.get_none x
theorem H.empty_wf : WF H.empty := ⟨fun x _ => H.empty_get x, fun x hx => (by rw [H.empty_get] at hx; cases hx)⟩
/-- a call that the machine says is true -/
theorem calls_true {E : Env} (hE : E.Ok) (hO : OvrOk E) {n f : Nat} {args : List V} {us : List Value} (hus : ∀ φ, All2 (VR φ) args us) (q : isTrue ((big E n).call f args H.empty) = true) (w : World) :
    Calls E.P f us.toArray w fun e w' => e = .returned (.bool true) ∧ w'.os = w.os ∧ w'.tape = w.tape ∧ w'.output = w.output ∧ w.heap.size ≤ w'.heap.size ∧ ∀ b, b < w.heap.size → w'.heap[b]? = w.heap[b]? := by
  unfold isTrue at q
  split at q
  · rename_i h' hc
    obtain ⟨_, h1⟩ := (big_ok hE hO n).sim f args H.empty _ h' hc H.empty_wf
    have h2 := h1 (fun _ => none) w us ⟨fun x hx => (by rw [H.empty_get] at hx; cases hx), fun x y a b _ ho => (by rw [H.empty_get] at ho; cases ho)⟩ (hus _) (fun _ _ _ => rfl)
    refine Calls.mono h2 fun e w' he => ?_
    cases e with
    | returned u =>
      obtain ⟨φ', s, hv⟩ := he
      have hu : u = .bool true := hv
      subst hu
      refine ⟨rfl, s.fr.os, s.fr.tape, s.fr.output, s.fr.size, fun b hb => s.fr.block b hb ?_⟩
      rintro ⟨x, l, ho, _⟩
      rw [H.empty_get] at ho
      cases ho
    | panicked _ => exact he.elim
    | outgrown => exact he.elim
  · cases q
end Go.Proofs.YtjmdmpfekoinbaaGreat.AMK
