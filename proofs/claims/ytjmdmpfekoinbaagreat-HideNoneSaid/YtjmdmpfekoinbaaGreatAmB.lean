/- What the abstract machine does to slices, maps and rows is what the Go code does. No condition. -/
import Derived.Laws.Tables
import Derived.Great.FillDense
import Derived.Great.BuildSlice
import Derived.Laws.MakeOwn
import Derived.Deep.AppendSrc
import Derived.Laws.AppendOwn
import Derived.Laws.IdiomStrings
import Derived.MapKept
import Derived.Test.YtjmdmpfekoinbaaGreatAmA
set_option linter.unusedVariables false
namespace Go.Proofs.YtjmdmpfekoinbaaGreat.AMK
open Go
variable {P : Program}

/-! ### struct values -/
theorem fill_ok {φ : Phi} {sl : Slots} {place : Nat → Option (Nat × Nat)} : ∀ (ps : List (Nat × Option G)) (us : List (Nat × Value)) (l : List (Nat × Nat × G)) (cs cs' : List S) (cells : Array Value),
    fillA place ps = some l → (fillC l).v sl cs = some cs' → All2 (fun p q => p.1 = q.1 ∧ ∀ g, p.2 = some g → VR φ (g.v sl) q.2) ps us → All2 (SR φ) cs cells.toList → ∃ cells', Instr.fill place cells us = some cells' ∧ All2 (SR φ) cs' cells'.toList
  | [], us, l, cs, cs', cells, h1, h2, h3, h4 => by
    cases h3
    cases h1
    cases h2
    exact ⟨cells, rfl, h4⟩
  | (i, og) :: ps, us, l, cs, cs', cells, h1, h2, h3, h4 => by
    cases h3 with
    | @cons _ q _ us hp ht =>
      obtain ⟨i', u⟩ := q
      obtain ⟨hi, hv⟩ := hp
      simp only at hi
      subst hi
      cases og with
      | none => cases h1
      | some g =>
        unfold fillA at h1
        split at h1
        · rename_i off size r hpl hr
          cases h1
          obtain ⟨hc, h5⟩ := onC_yes (show onC (Nat.beq (len (V.cells (g.v sl))) (size + 1)) none (onO (overAt (V.cells (g.v sl)) off cs) none fun cs' => (fillC r).v sl cs') = some cs' from h2) nn
          obtain ⟨c1, h6, h7⟩ := onO_yes h5 nn
          rw [len_eq, beq_iff] at hc
          rw [overAt_eq] at h6
          split at h6
          · rename_i hle
            cases h6
            have h8 := cells_ok (hv g rfl) (.inl (by omega))
            have h9 := h8.length
            have h10 := h4.length
            simp only [Array.length_toList] at h9 h10
            obtain ⟨g1, g2⟩ := Great.foldl_set off u.cells.toList 0 cells
            have h11 : All2 (SR φ) (cs.take off ++ V.cells (g.v sl) ++ cs.drop (off + (V.cells (g.v sl)).length)) (((u.cells.toList.zipIdx 0).foldl (fun cs (x : Value × Nat) => cs.setIfInBounds (off + x.2) x.1) cells)).toList := by
              refine All2.of_get ?_ fun k a b ha hb => ?_
              · simp only [List.length_append, List.length_take, List.length_drop, Array.length_toList, g1]
                omega
              · rw [Array.getElem?_toList, g2] at hb
                rw [Array.length_toList] at hb
                by_cases hk : off + 0 ≤ k ∧ k < off + 0 + u.cells.size ∧ k < cells.size
                · rw [if_pos hk, Array.getElem?_toList] at hb
                  rw [List.append_assoc, List.getElem?_append_right (by simp; omega), List.getElem?_append_left (by simp; omega)] at ha
                  obtain ⟨b', hb', hr'⟩ := h8.get _ _ ha
                  rw [Array.getElem?_toList] at hb'
                  have e1 : (k - (cs.take off).length) = k - (off + 0) := by simp; omega
                  rw [e1] at hb'
                  rw [hb'] at hb
                  cases hb
                  exact hr'
                · rw [if_neg hk] at hb
                  have hkl : k < cells.size := (Array.getElem?_eq_some_iff.1 hb).1
                  have ha' : cs[k]? = some a := by
                    by_cases hk2 : k < off
                    · rw [List.append_assoc, List.getElem?_append_left (by simp; omega), List.getElem?_take, if_pos hk2] at ha
                      exact ha
                    · rw [List.getElem?_append_right (by simp; omega), List.getElem?_drop] at ha
                      rw [← ha]
                      congr 1
                      simp
                      omega
                  obtain ⟨b', hb', hr'⟩ := h4.get _ _ ha'
                  rw [Array.getElem?_toList] at hb'
                  rw [hb'] at hb
                  cases hb
                  exact hr'
            obtain ⟨cells', e1, e2⟩ := fill_ok ps us r _ cs' _ hr h7 ht h11
            refine ⟨cells', ?_, e2⟩
            unfold Instr.fill
            simp only [hpl]
            rw [if_neg (by simp; omega), ← e1]
            congr 1
            rw [← Array.foldl_toList, Array.toList_zipIdx]
          · cases h6
        · cases h1
theorem build_ok {φ : Phi} {sl : Slots} {t : TypeId} {fs : Array Field} {z : List S} {places : List (Nat × Nat)} {ps : List (Nat × Option G)} {us : Array (Nat × Value)} {l : List (Nat × Nat × G)} (hu : P.underlying t = some (.struct fs)) (hz : zeroCells P t = some z)
    (hp : fs.toList.mapM (fun f => (P.info? f.type).map fun i => (f.offset, i.size)) = some places) (hl : fillA (places[·]?) ps = some l) (hps : All2 (fun p q => p.1 = q.1 ∧ ∀ g, p.2 = some g → VR φ (g.v sl) q.2) ps us.toList)
    {h h' : H} {v : V} (q : (dBuild (fillC l) z).v sl h = .yes v h') {k : Id → Blk} {w : World} : h' = h ∧ Reads P φ k w (Instr.build t us) v := by
  obtain ⟨cs, h1, h2⟩ := onO_yes q noYes
  obtain ⟨rfl, rfl⟩ := yes_inj h2
  obtain ⟨ti, zv, hi, hzv, hzr, hzl⟩ := zeroCells_ok hz
  obtain ⟨cells', e1, e2⟩ := fill_ok (place := (places[·]?)) ps us.toList l z cs zv.cells hl h1 hps (hzr φ)
  refine ⟨rfl, Reads.pure (u := .agg cells') (run_build w t us cells' ?_) ⟨cells'.toList, by simp, e2⟩⟩
  unfold Program.built
  simp only [hi, hu, hzv, hp]
  rw [← e1]
  congr 1
  funext i
  simp
end Go.Proofs.YtjmdmpfekoinbaaGreat.AMK

namespace Go.Proofs.YtjmdmpfekoinbaaGreat.AMK
open Go
variable {P : Program}

/-! ### new blocks -/
structure Fresh (w w' : World) : Prop where
  os : w'.os = w.os
  tape : w'.tape = w.tape
  output : w'.output = w.output
  size : w'.heap.size = w.heap.size + 1
  old : ∀ b, b < w.heap.size → w'.heap[b]? = w.heap[b]?
theorem Fresh.alloc (w : World) (o : Obj) : Fresh w (w.alloc o) := ⟨rfl, rfl, rfl, alloc_size w o, fun b hb => heap_push_lt w o hb⟩
theorem Fresh.of_drew {w w' : World} (h : Fresh w.drew w') : Fresh w w' := ⟨h.os, h.tape, h.output, h.size, h.old⟩
def upd (φ : Phi) (y : Id) (l : Loc) : Phi := fun x => if x = y then some l else φ x
theorem upd_same (φ : Phi) (y : Id) (l : Loc) : upd φ y l y = some l := by simp [upd]
theorem Ext.upd {φ : Phi} {y : Id} (hn : φ y = none) (l : Loc) : Ext φ (upd φ y l) := fun x l' e => by
  by_cases hx : x = y
  · subst hx; rw [hn] at e; cases e
  · simp [AMK.upd, hx, e]
theorem HR.alloc {φ : Phi} {g g' : Id → Blk} {w w' : World} {y : Id} {l : Loc} {blk : Blk} (hr : HR φ g w) (hn : φ y = none) (f : Fresh w w') (hl : l.b = w.heap.size) (hg : ∀ x, g' x = if x = y then blk else g x) (hb : BR (upd φ y l) w' l blk) : HR (upd φ y l) g' w' := by
  have hext : Ext φ (upd φ y l) := Ext.upd hn l
  refine ⟨fun x hx => ?_, fun x z a b hne hox haz ha hb' => ?_⟩
  · rw [hg] at hx ⊢
    by_cases hxn : x = y
    · subst hxn
      simp only [if_true]
      exact ⟨l, upd_same _ _ _, by rw [f.size]; omega, hb⟩
    · simp only [hxn, if_false] at hx ⊢
      obtain ⟨l', h3, h4, h5⟩ := hr.lies x hx
      exact ⟨l', by simp [upd, hxn, h3], by rw [f.size]; omega, (h5.mono hext).same (f.old _ h4)⟩
  · rw [hg] at hox haz
    by_cases hx : x = y
    · have hz : z ≠ y := fun e => hne (hx.trans e.symm)
      simp only [upd, hx, hz, if_true, if_false, Option.some.injEq] at ha hb' haz
      obtain ⟨l', h3, h4, _⟩ := hr.lies z haz
      rw [hb'] at h3
      cases h3
      subst ha
      omega
    · by_cases hz : z = y
      · simp only [upd, hx, hz, if_true, if_false, Option.some.injEq] at ha hb' hox
        obtain ⟨l', h3, h4, _⟩ := hr.lies x (Blk.own_alive hox)
        rw [ha] at h3
        cases h3
        subst hb'
        omega
      · simp only [upd, hx, hz, if_false] at ha hb' hox haz
        exact hr.apart x z a b hne hox haz ha hb'
theorem owns_alloc {φ : Phi} {g g' : Id → Blk} {y : Id} {l : Loc} {blk : Blk} (hg : ∀ x, g' x = if x = y then blk else g x) {b : Nat} (h : owns (upd φ y l) g' b) : owns φ g b ∨ b = l.b := by
  obtain ⟨x, l', a, p, q⟩ := h
  rw [hg] at a
  by_cases hx : x = y
  · simp only [upd, hx, if_true, Option.some.injEq] at p
    subst p
    exact .inr q.symm
  · simp only [upd, hx, if_false] at a p
    exact .inl ⟨x, l', a, p, q⟩
theorem Fresh.fr {φ : Phi} {g : Id → Blk} {w w' : World} (f : Fresh w w') : Fr φ g w w' := ⟨f.os, f.tape, f.output, by rw [f.size]; omega, fun b hb _ => f.old b hb⟩
/-- h' is h and one block more -/
def Grew (h h' : H) (blk : Blk) : Prop := h'.next.num = h.next.num + 1 ∧ h'.clk = h.clk + 1 ∧ ∀ x, h'.get x = if x = h.next then blk else h.get x
theorem Step.fresh {φ : Phi} {h h' : H} {w w' : World} {blk : Blk} {l : Loc} (hr : HR φ h.get w) (hn : φ h.next = none) (gr : Grew h h' blk) (f : Fresh w w') (hl : l.b = w.heap.size) (hb : BR (upd φ h.next l) w' l blk) : Step φ h w (upd φ h.next l) h' w' := by
  refine ⟨fun x hx => ?_, hr.alloc hn f hl gr.2.2 hb, f.fr, fun b hb' => ?_⟩
  · have : x ≠ h.next := fun e => by subst e; have := gr.1; omega
    simp [upd, this]
  · rcases owns_alloc gr.2.2 hb' with h1 | h1
    · exact .inl h1
    · exact .inr (by omega)
/-- an operation that lays a block -/
def Allots (P : Program) (φ : Phi) (h : H) (w : World) (m : Sem Value) (v : V) (h' : H) : Prop :=
  (∃ blk, Grew h h' blk ∧ (φ h.next = none → ∃ l u w', m.run P w = .ok u w' ∧ Fresh w w' ∧ l.b = w.heap.size ∧ BR (upd φ h.next l) w' l blk ∧ VR (upd φ h.next l) v u)) ∨
  (h' = h ∧ ∃ u w', m.run P w = .ok u w' ∧ Fresh w w' ∧ VR φ v u)
theorem Step.blank {φ : Phi} {h : H} {w w' : World} (hr : HR φ h.get w) (f : Fresh w w') : Step φ h w φ h w' :=
  ⟨fun _ _ => rfl, hr.same (by rw [f.size]; omega) (fun x l hx hl => by
    obtain ⟨l', h1, h2, _⟩ := hr.lies x hx
    rw [hl] at h1; cases h1
    exact f.old _ h2), f.fr, fun _ h => .inl h⟩
theorem Allots.yields {φ : Phi} {h h' : H} {w : World} {m : Sem Value} {v : V} (hr : HR φ h.get w) (hf : Free φ h h') (a : Allots P φ h w m v h') : Yields P φ h w m v h' := by
  rcases a with ⟨blk, gr, a⟩ | ⟨rfl, u, w', h1, h2, h3⟩
  · have hn := hf h.next (Nat.le_refl _) (by rw [gr.1]; omega)
    obtain ⟨l, u, w', h1, h2, h3, h4, h5⟩ := a hn
    exact ⟨u, w', _, h1, Step.fresh hr hn gr h2 h3 h4, h5⟩
  · exact ⟨u, w', φ, h1, Step.blank hr h2, h3⟩
theorem add_grew {h : H} {b : Nat → Blk} {k : Id → H → RV} {v : V} {h' : H} (e : h.add b .no k = .yes v h') : ∃ h1, k h.next h1 = .yes v h' ∧ Grew h h1 (b h.clk) := by
  obtain ⟨h1, e1, e2, e3, e4⟩ := H.add_yes e noYes
  exact ⟨h1, e1, e2, e3, e4⟩
theorem newA_grew {h : H} {t : Arr} {n size : Nat} {k : Id → H → RV} {v : V} {h' : H} (e : h.newA t n size .no k = .yes v h') : n ≤ 4096 ∧ ∃ h1, k h.next h1 = .yes v h' ∧ Grew h h1 (.arr t n size false h.clk) := by
  obtain ⟨h0, e0⟩ := onC_yes e noYes
  obtain ⟨h1, e1, e2, e3, e4⟩ := H.add_yes e0 noYes
  exact ⟨ble_iff.1 h0, h1, e1, e2, e3, e4⟩
theorem All2.size {φ : Phi} {cs : List S} {cells : Array Value} (h : All2 (SR φ) cs cells.toList) : cells.size = cs.length := by rw [← Array.length_toList]; exact h.length.symm
theorem alloc_last (w : World) (o : Obj) : (w.alloc o).heap[w.heap.size]? = some o := by show (w.heap.push o)[w.heap.size]? = _; simp
/-- the cells of a new variable -/
theorem box_br {φ : Phi} {w : World} {cs : List S} {cells : Array Value} {e : TypeId} {st : Nat} (h : All2 (SR φ) cs cells.toList) : BR φ (w.alloc (.cells cells e)) ⟨w.heap.size, 0, 0, 0⟩ (.box cs cells.size st) := by
  refine ⟨rfl, by rw [h.length, Array.length_toList], fun f s hs => ?_⟩
  obtain ⟨u, h1, h2⟩ := h.get f s hs
  rw [Array.getElem?_toList] at h1
  constructor
  · exact ⟨u, by simp [Loc.at, h1], h2⟩
  · simp [Loc.at]
theorem new_ok {φ : Phi} {h h' : H} {w : World} {t : TypeId} {z : List S} {n : Nat} {sl : Slots} {v : V} (hz : zeroCells P t = some z) (hn : sizeOf P t = some n) (q : (dNew z n).v sl h = .yes v h') : Allots P φ h w (Instr.alloc t true (.tuple #[])) v h' := by
  obtain ⟨h1, e1, gr⟩ := add_grew (show h.add (Blk.box z n) RV.no (fun y h1 => RV.yes (.sc (.ptr y 0 0)) h1) = RV.yes v h' from q)
  obtain ⟨rfl, rfl⟩ := yes_inj e1
  obtain ⟨ti, zv, hi, hzv, hzr, hzl⟩ := zeroCells_ok hz
  obtain ⟨ti', hi', hs, _⟩ := sizeOf_ok hn
  rw [hi] at hi'; cases hi'
  refine .inl ⟨_, gr, fun hnone => ⟨⟨w.heap.size, 0, 0, 0⟩, .pointer (some ⟨w.heap.size, 0, none⟩), w.alloc (.cells zv.cells t), ?_, Fresh.alloc w _, rfl, ?_, ⟨_, upd_same _ _ _, by simp [Loc.at]⟩⟩⟩
  · simp [Instr.alloc, run_zero hi hzv, newVar, newRow]
  · have := box_br (w := w) (e := t) (st := h.clk) (hzr (upd φ h.next ⟨w.heap.size, 0, 0, 0⟩))
    rwa [(hzr φ).size, hzl, hs] at this
theorem box_ok {φ : Phi} {h h' : H} {w : World} {t : TypeId} {n : Nat} {g : G} {sl : Slots} {v : V} {u : Value} (hn : sizeOf P t = some n) (hx : VR φ (g.v sl) u) (q : (dBox n g).v sl h = .yes v h') : Allots P φ h w (Instr.box t u) v h' := by
  obtain ⟨hc, q1⟩ := onC_yes q noYes
  obtain ⟨h1, e1, gr⟩ := add_grew (show h.add (Blk.box (V.cells (g.v sl)) n) RV.no (fun y h1 => RV.yes (.sc (.ptr y 0 0)) h1) = RV.yes v h' from q1)
  obtain ⟨rfl, rfl⟩ := yes_inj e1
  rw [len_eq, beq_iff] at hc
  obtain ⟨ti, hi, hs, _, hpos⟩ := sizeOf_ok hn
  refine .inl ⟨_, gr, fun hnone => ⟨⟨w.heap.size, 0, 0, 0⟩, .pointer (some ⟨w.heap.size, 0, none⟩), w.alloc (.cells u.cells t), ?_, Fresh.alloc w _, rfl, ?_, ⟨_, upd_same _ _ _, by simp [Loc.at]⟩⟩⟩
  · simp [Instr.box, newVar, newRow]
  · have h2 := cells_ok hx (.inl (by omega))
    have h3 := box_br (w := w) (e := t) (st := h.clk) (h2.imp fun _ _ => SR.mono (Ext.upd hnone ⟨w.heap.size, 0, 0, 0⟩))
    rwa [h2.size, hc] at h3
theorem makeMap_ok {φ : Phi} {h h' : H} {w : World} {t : TypeId} {sl : Slots} {v : V} (q : dMakeMap.v sl h = .yes v h') : Allots P φ h w (Instr.makeMap t none) v h' := by
  obtain ⟨h1, e1, gr⟩ := add_grew (show h.add (Blk.map [] 0) RV.no (fun y h1 => RV.yes (.sc (.map y)) h1) = RV.yes v h' from q)
  obtain ⟨rfl, rfl⟩ := yes_inj e1
  refine .inl ⟨_, gr, fun hnone => ⟨⟨w.heap.size, 0, 0, 0⟩, .map (some w.heap.size), w.alloc (.map #[] 0), ?_, Fresh.alloc w _, rfl, ⟨[], ?_, .nil⟩, ⟨_, upd_same _ _ _, rfl⟩⟩⟩
  · simp [Instr.makeMap]
  · exact alloc_last _ _
/-- a new row -/
theorem arr_br {φ : Phi} {w : World} {t : Arr} {n size cap : Nat} {cells : Array Value} {e : TypeId} {st : Nat} (hn : n ≤ cap) (h4 : n ≤ 4096) (hc : cells.size = cap * size)
    (h : ∀ i, i < n → (t.get i).length = size ∧ ∀ f s, (t.get i)[f]? = some s → ∃ u, cells[i * size + f]? = some u ∧ SR φ s u) : BR φ (w.alloc (.cells cells e)) ⟨w.heap.size, 0, size, cap⟩ (.arr t n size false st) := by
  refine ⟨rfl, hn, h4, fun i hi => ⟨(h i hi).1, fun f s hs => ?_⟩, fun _ => ⟨cells, e, (0, 0), alloc_last _ _, by rw [hc]; simp, .inl rfl⟩⟩
  obtain ⟨u, h1, h2⟩ := (h i hi).2 f s hs
  exact ⟨u, by simp [Loc.at, h1], h2⟩
theorem moveZ_get (n : Nat) (z : List S) : ∀ (d : Arr) (p : Nat), p + n ≤ 4096 → ∀ j, j < 4096 → (moveZ n z d p).get j = if p ≤ j ∧ j < p + n then z else d.get j := by
  induction n with
  | zero => intro d p hp j hj; rw [if_neg (by omega)]; rfl
  | succ n ih =>
    intro d p hp j hj
    rw [show moveZ (n + 1) z d p = moveZ n z (d.set p z) (p + 1) from rfl, ih _ _ (by omega) _ hj, Arr.get_set _ _ (by omega) _ _ hj]
    by_cases h1 : p + 1 ≤ j ∧ j < p + 1 + n
    · rw [if_pos h1, if_pos (by omega)]
    · rw [if_neg h1]
      by_cases h2 : j = p
      · rw [if_pos h2, if_pos (by omega)]
      · rw [if_neg h2, if_neg (by omega)]
theorem make_ok {φ : Phi} {h h' : H} {w : World} {t e : TypeId} {z : List S} {n : Nat} {gl gc : G} {sl : Slots} {v : V} {ul uc : Value} (hu : P.underlying t = some (.slice e)) (hz : zeroCells P e = some z) (hn : sizeOf P e = some n) (hl : VR φ (gl.v sl) ul) (hc : VR φ (gc.v sl) uc)
    (q : (dMake z n gl gc).v sl h = .yes v h') : Allots P φ h w (Instr.makeSlice t ul uc) v h' := by
  obtain ⟨kl, l, hgl, q1⟩ := onNat_yes q noYes
  obtain ⟨kc, c, hgc, q2⟩ := onNat_yes q1 noYes
  obtain ⟨hle, q3⟩ := onC_yes q2 noYes
  have hle := ble_iff.1 hle
  obtain ⟨h4, h1, e1, gr⟩ := newA_grew q3
  obtain ⟨rfl, rfl⟩ := yes_inj e1
  rw [hgl] at hl
  rw [hgc] at hc
  cases hl
  cases hc
  obtain ⟨ti, zv, hi, hzv, hzr, hzl⟩ := zeroCells_ok hz
  obtain ⟨ti', hi', hs, hb, hpos⟩ := sizeOf_ok hn
  rw [hi] at hi'; cases hi'
  have hbc : ti.bytes * c ≤ 1048576 * 4096 := Nat.mul_le_mul hb h4
  refine .inl ⟨_, gr, fun hnone => ⟨⟨w.heap.size, 0, n, c⟩, .slice (some ⟨w.heap.size, 0, none⟩) l c, w.alloc (.cells (madeCells zv.cells (c * n)) e), ?_, Fresh.alloc w _, rfl, ?_, ⟨_, upd_same _ _ _, by simp, hle, by simp [Loc.at]⟩⟩⟩
  · have hz' : (ti.bytes : Int) * (Int.ofNat c) ≤ 281474976710656 := by
      have h6 : ((ti.bytes * c : Nat) : Int) ≤ 281474976710656 := by omega
      rwa [Int.natCast_mul] at h6
    have hc2 : c * ti.size ≤ c * n := by rw [hs]; exact Nat.le_refl _
    have := run_make (P := P) w t e ti zv hu hi hzv kl kc (.ofNat l) (.ofNat c) (by simp) (by simp; omega) hz' (by simp; omega)
    rw [this, hs]
    rfl
  · have hsz : zv.cells.size = n := by
      have := (hzr φ).size
      omega
    refine arr_br (Nat.le_refl _) h4 (size_madeCells _ _) fun i hi' => ?_
    rw [moveZ_get _ _ _ _ (by omega) _ (by omega), if_pos (by omega)]
    refine ⟨by omega, fun f s hf => ?_⟩
    obtain ⟨u, h6, h7⟩ := (hzr (upd φ h.next ⟨w.heap.size, 0, n, c⟩)).get f s hf
    have hfl : f < n := by have := (List.getElem?_eq_some_iff.1 hf).1; omega
    have hlt : i * n + f < c * n := by
      have : (i + 1) * n ≤ c * n := Nat.mul_le_mul_right _ hi'
      rw [Nat.add_mul] at this
      omega
    refine ⟨u, ?_, h7⟩
    rw [Array.getElem?_toList] at h6
    have h8 : (i * n + f) % n = f := by rw [Nat.mul_add_mod', Nat.mod_eq_of_lt hfl]
    have h9 : zv.cells[f]! = u := by rw [getElem!_def, h6]
    simp [madeCells, hlt, hsz, h8, h9]
end Go.Proofs.YtjmdmpfekoinbaaGreat.AMK

namespace Go.Proofs.YtjmdmpfekoinbaaGreat.AMK
open Go
variable {P : Program}

/-! ### slice literals -/
theorem rowOf_get : ∀ (l : List (List S)) (d : Arr) (p : Nat), p + l.length ≤ 4096 → ∀ j, j < 4096 →
    (List.rec (motive := fun _ => Nat → Arr → Arr) (fun _ d => d) (fun b _ ih p d => ih (p + 1) (d.set p b)) l p d : Arr).get j = if p ≤ j ∧ j < p + l.length then l.getD (j - p) [] else d.get j
  | [], d, p, hp, j, hj => by rw [if_neg (by simp)]
  | b :: l, d, p, hp, j, hj => by
    simp only [List.length_cons] at hp ⊢
    show (List.rec (motive := fun _ => Nat → Arr → Arr) (fun _ d => d) (fun b _ ih p d => ih (p + 1) (d.set p b)) l (p + 1) (d.set p b) : Arr).get j = _
    rw [rowOf_get l _ _ (by omega) _ hj, Arr.get_set _ _ (by omega) _ _ hj]
    by_cases h1 : p + 1 ≤ j ∧ j < p + 1 + l.length
    · rw [if_pos h1, if_pos (by omega), show j - p = (j - (p + 1)) + 1 by omega, List.getD_cons_succ]
    · rw [if_neg h1]
      by_cases h2 : j = p
      · subst h2
        rw [if_pos rfl, if_pos (by omega), Nat.sub_self, List.getD_cons_zero]
      · rw [if_neg h2, if_neg (by omega)]
def RowsOk (φ : Phi) (size i n : Nat) (rows : List (List S)) (us : List (Nat × Value)) (cells : Array Value) : Prop :=
  ∃ cells', Instr.fill (fun i => some (i * size, size)) cells us = some cells' ∧ cells'.size = cells.size ∧ rows.length = n ∧ (∀ r ∈ rows, r.length = size) ∧ (∀ k, k < i * size → cells'[k]? = cells[k]?) ∧
      ∀ j, j < n → ∀ f s, (rows.getD j [])[f]? = some s → ∃ u, cells'[(i + j) * size + f]? = some u ∧ SR φ s u
theorem rows_ok {φ : Phi} {sl : Slots} {size : Nat} {z : List S} (hs : 0 < size) (hzl : z.length = size) : ∀ (n i : Nat) (ps : List (Nat × Option G)) (f : RowF) (rows : List (List S)) (us : List (Nat × Value)) (cells : Array Value),
    rowsC size z ps n i = some f → f.v sl = some rows → (i + n) * size ≤ cells.size → (∀ k, i * size ≤ k → k < (i + n) * size → ∃ u s, cells[k]? = some u ∧ z[k % size]? = some s ∧ SR φ s u) →
    All2 (fun p q => p.1 = q.1 ∧ ∀ g, p.2 = some g → VR φ (g.v sl) q.2) ps us →
    RowsOk φ size i n rows us cells
  | 0, i, ps, f, rows, us, cells, h1, h2, h3, h4, h5 => by
    cases ps with
    | nil =>
      cases h5
      cases h1
      cases h2
      exact ⟨cells, rfl, rfl, rfl, by simp, fun _ _ => rfl, fun j hj => absurd hj (Nat.not_lt_zero _)⟩
    | cons p ps => cases h1
  | n + 1, i, ps, f, rows, us, cells, h1, h2, h3, h4, h5 => by
    have e0 : (i + 1 + n) * size = (i + (n + 1)) * size := by congr 1; omega
    have e1 : (i + 1) * size = i * size + size := by rw [Nat.add_mul, Nat.one_mul]
    have e2 : (i + (n + 1)) * size = i * size + size + n * size := by rw [← e0, Nat.add_mul, e1]
    -- the next element is z
    have zcase : ∀ k, rowsC size z ps n (i + 1) = some k → f = rowZ z k → RowsOk φ size i (n + 1) rows us cells := by
      intro k hk hf
      subst hf
      obtain ⟨r, h6, h7⟩ := onO_yes (show onO (k.v sl) none (fun r => some (z :: r)) = some rows from h2) nn
      cases h7
      obtain ⟨cells', g1, g2, g3, g4, g5, g6⟩ := rows_ok hs hzl n (i + 1) ps k r us cells hk h6 (by rw [e0]; exact h3) (fun q hq1 hq2 => h4 q (by omega) (by rw [← e0]; exact hq2)) h5
      refine ⟨cells', g1, g2, by simp [g3], fun q hq => (List.mem_cons.1 hq).elim (fun h => by rw [h]; exact hzl) (g4 q), fun q hq => g5 q (by omega), fun j hj fi s hf => ?_⟩
      cases j with
      | zero =>
        rw [List.getD_cons_zero] at hf
        have hfl : fi < size := by rw [← hzl]; exact (List.getElem?_eq_some_iff.1 hf).1
        obtain ⟨u, s', c1, c2, c3⟩ := h4 (i * size + fi) (by omega) (by omega)
        have h8 : (i * size + fi) % size = fi := by rw [Nat.mul_add_mod', Nat.mod_eq_of_lt hfl]
        rw [h8, hf] at c2
        cases c2
        exact ⟨u, by rw [Nat.add_zero, g5 _ (by omega)]; exact c1, c3⟩
      | succ j =>
        rw [List.getD_cons_succ] at hf
        rw [show i + (j + 1) = i + 1 + j by omega]
        exact g6 j (by omega) fi s hf
    cases ps with
    | nil =>
      unfold rowsC at h1
      split at h1
      · rename_i k hk
        cases h1
        have h6 := h2
        obtain ⟨r, h6, h7⟩ := onO_yes (show onO (k.v sl) none (fun r => some (z :: r)) = some rows from h2) nn
        cases h7
        exact zcase k hk rfl
      · cases h1
    | cons p ps =>
      obtain ⟨j0, og⟩ := p
      unfold rowsC at h1
      split at h1
      · rename_i hj
        subst hj
        split at h1
        · rename_i g k hk
          cases h1
          obtain ⟨hc, h6⟩ := onC_yes (show onC (Nat.beq (len (V.cells (g.v sl))) size) none (onO (k.v sl) none fun r => some (V.cells (g.v sl) :: r)) = some rows from h2) nn
          obtain ⟨r, h7, h8⟩ := onO_yes h6 nn
          cases h8
          rw [len_eq, beq_iff] at hc
          cases h5 with
          | @cons _ q _ us hp ht =>
            obtain ⟨i', u⟩ := q
            obtain ⟨hi, hv⟩ := hp
            simp only at hi
            subst hi
            have c1 := cells_ok (hv g rfl) (.inl (by omega))
            have c2 : u.cells.size = size := by rw [c1.size, hc]
            obtain ⟨d1, d2⟩ := Great.foldl_set (j0 * size) u.cells.toList 0 cells
            obtain ⟨cells', g1, g2, g3, g4, g5, g6⟩ := rows_ok hs hzl n (j0 + 1) ps k r us _ hk h7 (by rw [d1, e0]; exact h3) (fun q hq1 hq2 => by
              obtain ⟨u', s', c3, c4, c5⟩ := h4 q (by omega) (by rw [← e0]; exact hq2)
              refine ⟨u', s', ?_, c4, c5⟩
              rw [d2, if_neg (by rw [Array.length_toList]; omega)]
              exact c3) ht
            refine ⟨cells', ?_, by rw [g2, d1], by simp [g3], fun q hq => (List.mem_cons.1 hq).elim (fun h => by rw [h]; exact hc) (g4 q), fun q hq => ?_, fun j hj fi s hf => ?_⟩
            · unfold Instr.fill
              simp only
              rw [if_neg (by simp; omega), ← g1]
              congr 1
              rw [← Array.foldl_toList, Array.toList_zipIdx]
            · rw [g5 _ (by omega), d2, if_neg (by omega)]
            · cases j with
              | zero =>
                rw [List.getD_cons_zero] at hf
                have hfl : fi < size := by rw [← hc]; exact (List.getElem?_eq_some_iff.1 hf).1
                obtain ⟨b, c3, c4⟩ := c1.get _ _ hf
                refine ⟨b, ?_, c4⟩
                rw [Nat.add_zero, g5 _ (by omega), d2, if_pos (by rw [Array.length_toList]; omega)]
                rw [show j0 * size + fi - (j0 * size + 0) = fi by omega]
                exact c3
              | succ j =>
                rw [List.getD_cons_succ] at hf
                rw [show j0 + (j + 1) = j0 + 1 + j by omega]
                exact g6 j (by omega) fi s hf
        · cases h1
      · split at h1
        · rename_i k hk
          cases h1
          have h6 := h2
          obtain ⟨r, h6, h7⟩ := onO_yes (show onO (k.v sl) none (fun r => some (z :: r)) = some rows from h2) nn
          cases h7
          exact zcase k hk rfl
        · cases h1
theorem buildSl_ok {φ : Phi} {h h' : H} {w : World} {t e : TypeId} {size n : Nat} {z : List S} {ps : List (Nat × Option G)} {f : RowF} {us : Array (Nat × Value)} {sl : Slots} {v : V} (hu : P.underlying t = some (.slice e)) (hz : zeroCells P e = some z) (hn : sizeOf P e = some size)
    (hf : rowsC size z ps n 0 = some f) (hps : All2 (fun p q => p.1 = q.1 ∧ ∀ g, p.2 = some g → VR φ (g.v sl) q.2) ps us.toList) (q : (dBuildSl f n size).v sl h = .yes v h') (hsm : n * size ≤ 16777216) : Allots P φ h w (Instr.buildSlice t n us) v h' := by
  obtain ⟨rows, h1, q1⟩ := onO_yes q noYes
  obtain ⟨h4, h2, e1, gr⟩ := newA_grew q1
  obtain ⟨rfl, rfl⟩ := yes_inj e1
  obtain ⟨ti, zv, hi, hzv, hzr, hzl⟩ := zeroCells_ok hz
  obtain ⟨ti', hi', hs, hb, hpos⟩ := sizeOf_ok hn
  rw [hi] at hi'; cases hi'
  have hsz : zv.cells.size = size := by rw [(hzr φ).size, hzl, hs]
  have hms : (madeCells zv.cells (n * size)).size = n * size := size_madeCells _ _
  obtain ⟨cells', g1, g2, g3, g4, g5, g6⟩ := rows_ok (φ := φ) (sl := sl) hpos (by omega) n 0 ps f rows us.toList (madeCells zv.cells (n * size)) hf h1 (by rw [hms, Nat.zero_add]; exact Nat.le_refl _) (fun k _ hk => by
    rw [Nat.zero_add] at hk
    have hlt : k % size < size := Nat.mod_lt _ hpos
    obtain ⟨u, c1⟩ : ∃ u, zv.cells[k % size]? = some u := ⟨_, Array.getElem?_eq_getElem (by omega)⟩
    obtain ⟨s, c2⟩ : ∃ s, z[k % size]? = some s := ⟨_, List.getElem?_eq_getElem (by omega)⟩
    obtain ⟨b, c3, c4⟩ := (hzr φ).get _ _ c2
    rw [Array.getElem?_toList, c1] at c3
    cases c3
    refine ⟨u, s, ?_, c2, c4⟩
    have h9 : zv.cells[k % size]! = u := by rw [getElem!_def, c1]
    simp [madeCells, hk, hsz, h9]) hps
  rw [hms] at g2
  refine .inl ⟨_, gr, fun hnone => ⟨⟨w.heap.size, 0, size, n⟩, .slice (some ⟨w.heap.size, 0, none⟩) n n, w.alloc (.cells cells' e), ?_, Fresh.alloc w _, rfl, ?_, ⟨_, upd_same _ _ _, by simp, Nat.le_refl _, by simp [Loc.at]⟩⟩⟩
  · have hsm' : ¬ n * ti.size > 2 ^ 24 := by rw [hs]; omega
    by_cases h0 : n * size = 0
    · have hn0 : n = 0 := by
        rcases Nat.mul_eq_zero.1 h0 with h | h
        · exact h
        · omega
      subst hn0
      have g1' : Instr.fill (fun i => some (i * size, size)) #[] us.toList = some cells' := by
        rw [← g1]; congr 1; simp [madeCells, Array.range_zero']
      simp [Instr.buildSlice, run_underlying hu, Go.sizeOf, Go.typeInfo, hi, hs, g1', newRow, Array.range_zero']
    · rw [← hs] at g1 h0
      exact run_buildSlice w t e n us cells' ti zv hu hi hzv hsm' h0 g1
  · refine arr_br (Nat.le_refl _) h4 g2 fun i hi' => ?_
    have hget : (rowOf rows).get i = rows.getD i [] := by
      unfold rowOf
      rw [rowOf_get rows _ _ (by omega) _ (by omega), if_pos (by omega)]
      rfl
    rw [hget]
    have hmem : rows.getD i [] ∈ rows := by
      have hlt : i < rows.length := by omega
      have : rows.getD i [] = rows[i] := by simp [List.getD, hlt]
      rw [this]
      exact List.getElem_mem _
    refine ⟨g4 _ hmem, fun f s hf => ?_⟩
    obtain ⟨u, c1, c2⟩ := g6 i hi' f s hf
    rw [Nat.zero_add] at c1
    exact ⟨u, c1, c2.mono (Ext.upd hnone _)⟩
end Go.Proofs.YtjmdmpfekoinbaaGreat.AMK

namespace Go.Proofs.YtjmdmpfekoinbaaGreat.AMK
open Go
variable {P : Program}

/-! ### cells written -/
theorem setCell_heap (w : World) (a : Addr) (v : Value) (b : Nat) (hb : b ≠ a.block) : (w.setCell a v).heap[b]? = w.heap[b]? := by
  simp [World.setCell, Array.getElem?_modify, Ne.symm hb]
theorem setCell_obj (w : World) (b o : Nat) (v : Value) {c : Array Value} {e : TypeId} {fr : Nat × Nat} (h : w.heap[b]? = some (.cells c e fr)) : (w.setCell ⟨b, o, none⟩ v).heap[b]? = some (.cells (c.setIfInBounds o v) e fr) := by
  simp [World.setCell, Array.getElem?_modify, h]
structure Wrote (w : World) (b o : Nat) (us : List Value) (w' : World) : Prop where
  os : w'.os = w.os
  tape : w'.tape = w.tape
  output : w'.output = w.output
  size : w'.heap.size = w.heap.size
  other : ∀ b', b' ≠ b → w'.heap[b']? = w.heap[b']?
  inn : ∀ j u, us[j]? = some u → w'.cell? ⟨b, o + j, none⟩ = some u
  out : ∀ k, (k < o ∨ o + us.length ≤ k) → w'.cell? ⟨b, k, none⟩ = w.cell? ⟨b, k, none⟩
  frozen : ∀ a, w'.frozen? a = w.frozen? a
  obj : ∀ c e fr, w.heap[b]? = some (.cells c e fr) → ∃ c', w'.heap[b]? = some (.cells c' e fr) ∧ c'.size = c.size
theorem setCells_wrote (b : Nat) : ∀ (us : List Value) (o : Nat) (w : World), (w.setCells b o us).os = w.os ∧ (w.setCells b o us).tape = w.tape ∧ (w.setCells b o us).output = w.output ∧ (w.setCells b o us).heap.size = w.heap.size ∧
    (∀ b', b' ≠ b → (w.setCells b o us).heap[b']? = w.heap[b']?) ∧ (∀ c e fr, w.heap[b]? = some (.cells c e fr) → ∃ c', (w.setCells b o us).heap[b]? = some (.cells c' e fr) ∧ c'.size = c.size)
  | [], o, w => ⟨rfl, rfl, rfl, rfl, fun _ _ => rfl, fun c e fr h => ⟨c, h, rfl⟩⟩
  | v :: r, o, w => by
    obtain ⟨h1, h2, h3, h4, h5, h6⟩ := setCells_wrote b r (o + 1) (w.setCell ⟨b, o, none⟩ v)
    refine ⟨h1, h2, h3, by rw [World.setCells, h4]; simp, fun b' hb => by rw [World.setCells, h5 b' hb, setCell_heap _ _ _ _ hb], fun c e fr h => ?_⟩
    obtain ⟨c', g1, g2⟩ := h6 _ _ _ (setCell_obj w b o v h)
    exact ⟨c', g1, by rw [g2]; simp⟩
theorem Wrote.of {w : World} {b o : Nat} {us : List Value} (h : ∀ j, j < us.length → (w.cell? ⟨b, o + j, none⟩).isSome = true) : Wrote w b o us (w.setCells b o us) := by
  obtain ⟨h1, h2, h3, h4, h5, h6⟩ := setCells_wrote b us o w
  refine ⟨h1, h2, h3, h4, h5, fun j u hj => ?_, fun k hk => World.cell?_setCells_out b us o w _ fun _ _ => hk, fun a => World.frozen?_setCells b us o w a, h6⟩
  obtain ⟨hlt, rfl⟩ := List.getElem?_eq_some_iff.1 hj
  exact World.cell?_setCells_in b us o w h j hlt
theorem own_cells {φ : Phi} {w : World} {l : Loc} {t : Arr} {n size st : Nat} (h : BR φ w l (.arr t n size false st)) : ∀ j, j < l.cap * size → (w.cell? ⟨l.b, l.o + j, none⟩).isSome = true ∧ w.frozen? ⟨l.b, l.o + j, none⟩ = false := by
  obtain ⟨c, e, fr, h2, h3, h4⟩ := h.2.2.2.2 rfl
  intro j hj
  have hj' : l.o + j < c.size := by omega
  constructor
  · simp [World.cell?, h2]; omega
  · simp only [World.frozen?, h2]; exact thawed h4 hj'
theorem putIn_ok {vs cs cs' : List S} {f size : Nat} (hl : cs.length = size) (h : putIn vs vs.length f size cs = some cs') : f + vs.length ≤ size ∧ cs'.length = size ∧ ∀ k, cs'[k]? = if f ≤ k ∧ k < f + vs.length then vs[k - f]? else cs[k]? := by
  unfold putIn at h
  cases hc : andB (Nat.beq f 0) (Nat.beq vs.length size)
  · rw [hc, onC_false, overAt_eq] at h
    split at h
    · rename_i hle
      cases h
      refine ⟨by omega, by simp; omega, fun k => ?_⟩
      by_cases h1 : k < f
      · rw [if_neg (by omega), List.append_assoc, List.getElem?_append_left (by simp; omega), List.getElem?_take, if_pos h1]
      · by_cases h2 : k < f + vs.length
        · rw [if_pos ⟨by omega, h2⟩, List.append_assoc, List.getElem?_append_right (by simp; omega), List.getElem?_append_left (by simp; omega)]
          congr 1
          simp
          omega
        · rw [if_neg (by omega), List.getElem?_append_right (by simp; omega), List.getElem?_drop]
          congr 1
          simp
          omega
    · cases h
  · rw [hc, onC_true] at h
    cases h
    simp only [andB_eq, Bool.and_eq_true, beq_iff] at hc
    obtain ⟨rfl, h2⟩ := hc
    refine ⟨by omega, h2, fun k => ?_⟩
    by_cases h3 : k < vs.length
    · rw [if_pos (by omega)]; rfl
    · rw [if_neg (by omega), List.getElem?_eq_none (by omega), List.getElem?_eq_none (by omega)]
/-- one element of a row, written -/
theorem writeE_ok {φ : Phi} {h h' : H} {w : World} (hr : HR φ h.get w) {x : Id} {l : Loc} (hl : φ x = some l) {i f : Nat} {vs : List S} {us : List Value} (hv : All2 (SR φ) vs us) {v : V} {k : H → RV} (q : h.writeE x i f vs.length vs .no k = .yes v h') :
    ∃ h1, k h1 = .yes v h' ∧ h1.next = h.next ∧ h1.clk = h.clk + 1 ∧ (∀ y, y ≠ x → h1.get y = h.get y) ∧ (h.get x).own = true ∧ ∃ w', (storeCells (l.at i f) us).run P w = .ok () w' ∧ Step φ h w φ h1 w' := by
  have hone := hv.one
  have hlen := hv.length
  unfold H.writeE at q
  cases hb : h.get x with
  | box cs size st =>
    rw [hb] at q
    obtain ⟨cs', h1, h2⟩ := onO_yes (show onO (putIn vs vs.length f size cs) RV.no (fun cs' => k (h.put x fun s => .box cs' size s)) = RV.yes v h' from q) noYes
    obtain ⟨l', e1, e2, e3⟩ := hr.lies x (by rw [hb]; rfl)
    rw [hl] at e1; cases e1
    rw [hb] at e3
    obtain ⟨p1, p2, p3⟩ := putIn_ok e3.2.1 h1
    have hat : ∀ j, (l.at i f).add j = ⟨l.b, l.o + f + j, none⟩ := fun j => by simp [Loc.at, Addr.add, e3.1]
    have hat0 : ∀ j, l.at 0 j = ⟨l.b, l.o + j, none⟩ := fun j => by simp [Loc.at]
    have hex : ∀ j, j < us.length → (w.cell? ⟨l.b, l.o + f + j, none⟩).isSome = true ∧ w.frozen? ⟨l.b, l.o + f + j, none⟩ = false := fun j hj => by
      have e4 := e3.2.1
      obtain ⟨s, hs⟩ : ∃ s, cs[f + j]? = some s := ⟨_, List.getElem?_eq_getElem (by omega)⟩
      obtain ⟨⟨u, c1, _⟩, c2⟩ := e3.2.2 _ _ hs
      rw [hat0, ← Nat.add_assoc] at c1 c2
      exact ⟨by rw [c1]; rfl, c2⟩
    have hrun := run_storeCells_cells (P := P) l.b (l.o + f) us 0 w (fun j hj => (hex j hj).1) (fun j hj => (hex j hj).2) hone
    have hwr := Wrote.of (fun j hj => (hex j hj).1)
    obtain ⟨n1, n2, n3⟩ := H.put_get h x fun s => Blk.box cs' size s
    refine ⟨_, h2, n1, n2, fun y hy => by rw [n3, if_neg hy], rfl, w.setCells l.b (l.o + f) us, ?_, ?_⟩
    · have : l.at i f = ⟨l.b, l.o + f, none⟩ := by simp [Loc.at, e3.1]
      rw [this]
      exact hrun
    · refine Step.put hr (by rw [hb]; rfl) hl (fun _ => trivial) hwr.os hwr.tape hwr.output hwr.size hwr.other ⟨e3.1, p2, fun g s hs => ?_⟩
      rw [p3] at hs
      rw [hat0]
      split at hs
      · rename_i hin
        obtain ⟨u, c1, c2⟩ := hv.get _ _ hs
        have c3 := hwr.inn _ _ c1
        rw [show l.o + f + (g - f) = l.o + g by omega] at c3
        obtain ⟨c4, c5⟩ := hex (g - f) (by omega)
        rw [show l.o + f + (g - f) = l.o + g by omega] at c5
        exact ⟨⟨u, c3, c2⟩, by rw [hwr.frozen]; exact c5⟩
      · rename_i hin
        obtain ⟨⟨u, c1, c2⟩, c3⟩ := e3.2.2 _ _ hs
        rw [hat0] at c1 c3
        exact ⟨⟨u, by rw [hwr.out _ (by omega)]; exact c1, c2⟩, by rw [hwr.frozen]; exact c3⟩
  | arr t n size ro st =>
    rw [hb] at q
    replace q : onC ro (onC (Nat.ble (i + 1) n) RV.no (onO (putIn vs vs.length f size (t.get i)) RV.no fun cs' => k (h.put x fun s => .arr (t.set i cs') n size false s))) RV.no = RV.yes v h' := q
    cases ro with
    | true => cases q
    | false =>
      obtain ⟨hi, q1⟩ := onC_yes (show onC (Nat.ble (i + 1) n) RV.no _ = RV.yes v h' from q) noYes
      obtain ⟨cs', h1, h2⟩ := onO_yes q1 noYes
      have hi := ble_iff.1 hi
      obtain ⟨e2, e3⟩ := arr_at hr hl hb
      obtain ⟨p1, p2, p3⟩ := putIn_ok (e3.2.2.2.1 i hi).1 h1
      have hexx := own_cells e3
      have hb' : (i + 1) * size ≤ l.cap * size := Nat.mul_le_mul_right _ (by have := e3.2.1; omega)
      have hb'' : (i + 1) * size = i * size + size := by rw [Nat.add_mul, Nat.one_mul]
      have hex : ∀ j, j < us.length → (w.cell? ⟨l.b, l.o + (i * size + f) + j, none⟩).isSome = true ∧ w.frozen? ⟨l.b, l.o + (i * size + f) + j, none⟩ = false := fun j hj => by
        rw [Nat.add_assoc]; exact hexx _ (by omega)
      have hrun := run_storeCells_cells (P := P) l.b (l.o + (i * size + f)) us 0 w (fun j hj => (hex j hj).1) (fun j hj => (hex j hj).2) hone
      have hwr := Wrote.of (fun j hj => (hex j hj).1)
      obtain ⟨n1, n2, n3⟩ := H.put_get h x fun s => Blk.arr (t.set i cs') n size false s
      refine ⟨_, h2, n1, n2, fun y hy => by rw [n3, if_neg hy], rfl, w.setCells l.b (l.o + (i * size + f)) us, ?_, ?_⟩
      · have : l.at i f = ⟨l.b, l.o + (i * size + f), none⟩ := by simp only [Loc.at]; rw [show l.sz = size from e3.1, Nat.add_assoc]
        rw [this]
        exact hrun
      · refine Step.put hr (by rw [hb]; rfl) hl (fun _ => trivial) hwr.os hwr.tape hwr.output hwr.size hwr.other ⟨e3.1, e3.2.1, e3.2.2.1, fun i' hi' => ?_, fun _ => ?_⟩
        · have h4 := e3.2.2.1
          have h5 := e3.2.2.2.1 i' hi'
          rw [Arr.get_set _ _ (by omega) _ _ (by omega)]
          have hoff : ∀ g, l.at i' g = ⟨l.b, l.o + (i' * size + g), none⟩ := fun g => by simp only [Loc.at]; rw [show l.sz = size from e3.1, Nat.add_assoc]
          by_cases hii : i' = i
          · subst hii
            rw [if_pos rfl]
            refine ⟨p2, fun g s hs => ?_⟩
            rw [p3] at hs
            rw [hoff]
            split at hs
            · rename_i hin
              obtain ⟨u, c1, c2⟩ := hv.get _ _ hs
              have c3 := hwr.inn _ _ c1
              rw [show l.o + (i' * size + f) + (g - f) = l.o + (i' * size + g) by omega] at c3
              exact ⟨u, c3, c2⟩
            · rename_i hin
              obtain ⟨u, c1, c2⟩ := h5.2 _ _ hs
              rw [hoff] at c1
              exact ⟨u, by rw [hwr.out _ (by omega)]; exact c1, c2⟩
          · rw [if_neg hii]
            refine ⟨h5.1, fun g s hs => ?_⟩
            obtain ⟨u, c1, c2⟩ := h5.2 _ _ hs
            have hg : g < size := by rw [← h5.1]; exact (List.getElem?_eq_some_iff.1 hs).1
            rw [hoff] at c1 ⊢
            have hout : l.o + (i' * size + g) < l.o + (i * size + f) ∨ l.o + (i * size + f) + us.length ≤ l.o + (i' * size + g) := by
              rcases Nat.lt_or_gt_of_ne hii with h6 | h6
              · have h7 : (i' + 1) * size ≤ i * size := Nat.mul_le_mul_right _ h6
                rw [Nat.add_mul, Nat.one_mul] at h7
                left
                omega
              · have h7 : (i + 1) * size ≤ i' * size := Nat.mul_le_mul_right _ h6
                right
                omega
            exact ⟨u, by rw [hwr.out _ hout]; exact c1, c2⟩
        · obtain ⟨c, e, fr, g2, g3, g4⟩ := e3.2.2.2.2 rfl
          obtain ⟨c', g5, g6⟩ := hwr.obj _ _ _ g2
          exact ⟨c', e, fr, g5, by rw [g6]; exact g3, by rw [g6]; exact g4⟩
  | map es c st => rw [hb] at q; cases q
  | dead => rw [hb] at q; cases q
theorem store_ok {φ : Phi} {h h' : H} {w : World} (hr : HR φ h.get w) {t : TypeId} {n : Nat} (hn : sizeOf P t = some n) {a g : G} {sl : Slots} {ua ug : Value} (ha : VR φ (a.v sl) ua) (hg : VR φ (g.v sl) ug) {v : V} (q : (dStore n a g).v sl h = .yes v h') :
    v = .undef ∧ Acts P φ h w (Instr.storeAt t ua ug) h' := by
  obtain ⟨hc, q1⟩ := onC_yes q noYes
  obtain ⟨x, i, f, hx, q2⟩ := onPtr_yes q1 noYes
  rw [len_eq, beq_iff] at hc
  obtain ⟨ti, hi, hs, hb, hpos⟩ := sizeOf_ok hn
  have h2 := cells_ok hg (.inl (by omega))
  rw [hx] at ha
  obtain ⟨l, hl, rfl⟩ := ha
  rw [← hc] at q2
  obtain ⟨h1, e1, _, _, _, _, w', e2, e3⟩ := writeE_ok (P := P) hr hl h2 q2
  obtain ⟨rfl, rfl⟩ := yes_inj e1
  refine ⟨rfl, w', φ, ?_, e3⟩
  have h4 : ug.cells.size = ti.size := by rw [h2.size, hc, hs]
  simp [Instr.storeAt, Instr.sureAddr, storeVar, run_size hi, h4, e2]
end Go.Proofs.YtjmdmpfekoinbaaGreat.AMK

namespace Go.Proofs.YtjmdmpfekoinbaaGreat.AMK
open Go
variable {P : Program}

/-! ### a block takes over a real one, or a new one -/
theorem HR.place {φ : Phi} {g g' : Id → Blk} {w w' : World} {y : Id} {l : Loc} {blk : Blk} (hr : HR φ g w) (hn : φ y = none) (hs : w.heap.size ≤ w'.heap.size) (hl : l.b < w'.heap.size) (hold : ∀ b, b < w.heap.size → b ≠ l.b → w'.heap[b]? = w.heap[b]?)
    (hap : ∀ x m, (g x).alive = true → φ x = some m → m.b ≠ l.b) (hg : ∀ x, g' x = if x = y then blk else g x) (hb : BR (upd φ y l) w' l blk) : HR (upd φ y l) g' w' := by
  have hext : Ext φ (upd φ y l) := Ext.upd hn l
  refine ⟨fun x hx => ?_, fun x z a b hne hox haz ha hb' => ?_⟩
  · rw [hg] at hx ⊢
    by_cases hxn : x = y
    · subst hxn
      simp only [if_true]
      exact ⟨l, upd_same _ _ _, hl, hb⟩
    · simp only [hxn, if_false] at hx ⊢
      obtain ⟨l', h3, h4, h5⟩ := hr.lies x hx
      exact ⟨l', by simp [upd, hxn, h3], by omega, (h5.mono hext).same (hold _ h4 (hap x l' hx h3))⟩
  · rw [hg] at hox haz
    by_cases hx : x = y
    · have hz : z ≠ y := fun e => hne (hx.trans e.symm)
      simp only [upd, hx, hz, if_true, if_false, Option.some.injEq] at ha hb' haz
      subst ha
      exact fun e => hap z b haz hb' e.symm
    · by_cases hz : z = y
      · simp only [upd, hx, hz, if_true, if_false, Option.some.injEq] at ha hb' hox
        subst hb'
        exact hap x a (Blk.own_alive hox) ha
      · simp only [upd, hx, hz, if_false] at ha hb' hox haz
        exact hr.apart x z a b hne hox haz ha hb'
theorem HR.kill {φ : Phi} {g g' : Id → Blk} {w : World} {x : Id} (hr : HR φ g w) (hg : ∀ z, g' z = if z = x then .dead else g z) : HR φ g' w := by
  have h1 : ∀ z, (g' z).alive = true → g' z = g z := fun z hz => by
    rw [hg] at hz ⊢
    by_cases e : z = x
    · simp [e, Blk.alive] at hz
    · simp [e]
  exact ⟨fun z hz => by have e := h1 z hz; rw [e] at hz ⊢; exact hr.lies z hz, fun a b l m hne ho ha => by
    rw [h1 a (Blk.own_alive ho)] at ho
    rw [h1 b ha] at ha
    exact hr.apart a b l m hne ho ha⟩

/-! ### sources -/
/-- what a source of n elements does, and the cells that it is really -/
structure SrcR (φ : Phi) (size n : Nat) (f : Arr → Nat → Arr) (news : List Value) : Prop where
  get : ∃ row : Nat → List S, (∀ d p, p + n ≤ 4096 → ∀ j, j < 4096 → (f d p).get j = if p ≤ j ∧ j < p + n then row (j - p) else d.get j) ∧
    ∀ i, i < n → (row i).length = size ∧ ∀ g s, (row i)[g]? = some s → ∃ u, news[i * size + g]? = some u ∧ SR φ s u
  len : news.length = n * size
  one : ∀ u ∈ news, u.oneCell' = true
theorem moveE_get (n : Nat) (src : Arr) : ∀ (o p : Nat) (d : Arr), p + n ≤ 4096 → ∀ j, j < 4096 → (moveE n src o d p).get j = if p ≤ j ∧ j < p + n then src.get (o + (j - p)) else d.get j := by
  induction n with
  | zero => intro o p d hp j hj; rw [if_neg (by omega)]; rfl
  | succ n ih =>
    intro o p d hp j hj
    rw [show moveE (n + 1) src o d p = moveE n src (o + 1) (d.set p (src.get o)) (p + 1) from rfl, ih _ _ _ (by omega) _ hj, Arr.get_set _ _ (by omega) _ _ hj]
    by_cases h1 : p + 1 ≤ j ∧ j < p + 1 + n
    · rw [if_pos h1, if_pos (by omega)]
      congr 1
      omega
    · rw [if_neg h1]
      by_cases h2 : j = p
      · subst h2
        rw [if_pos rfl, if_pos (by omega)]
        congr 1
        omega
      · rw [if_neg h2, if_neg (by omega)]
theorem moveS_get : ∀ (s : List Nat) (d : Arr) (p : Nat), p + s.length ≤ 4096 → ∀ j, j < 4096 → (moveS s d p).get j = if p ≤ j ∧ j < p + s.length then [.int .u8 (.ofNat (s.getD (j - p) 0))] else d.get j
  | [], d, p, hp, j, hj => by rw [if_neg (by simp)]; rfl
  | b :: s, d, p, hp, j, hj => by
    simp only [List.length_cons] at hp ⊢
    rw [show moveS (b :: s) d p = moveS s (d.set p [.int .u8 (.ofNat b)]) (p + 1) from rfl, moveS_get s _ _ (by omega) _ hj, Arr.get_set _ _ (by omega) _ _ hj]
    by_cases h1 : p + 1 ≤ j ∧ j < p + 1 + s.length
    · rw [if_pos h1, if_pos (by omega), show j - p = (j - (p + 1)) + 1 by omega, List.getD_cons_succ]
    · rw [if_neg h1]
      by_cases h2 : j = p
      · subst h2
        rw [if_pos rfl, if_pos (by omega), Nat.sub_self, List.getD_cons_zero]
      · rw [if_neg h2, if_neg (by omega)]
/-- n elements of a row, as real cells -/
theorem row_cells {φ : Phi} {w : World} {l : Loc} {t : Arr} {size : Nat} (hsz : l.sz = size) : ∀ (n o : Nat), (∀ i, i < n → (t.get (o + i)).length = size ∧ ∀ f s, (t.get (o + i))[f]? = some s → CR φ w (l.at (o + i) f) s) →
    ∃ us : List Value, us.length = n * size ∧ (∀ u ∈ us, u.oneCell' = true) ∧ (∀ j u, us[j]? = some u → w.cell? ((l.at o 0).add j) = some u) ∧ ∀ i, i < n → ∀ g s, (t.get (o + i))[g]? = some s → ∃ u, us[i * size + g]? = some u ∧ SR φ s u
  | 0, o, h => ⟨[], by simp, by simp, by simp, fun i hi => absurd hi (Nat.not_lt_zero _)⟩
  | n + 1, o, h => by
    obtain ⟨h0, h1⟩ := h 0 (Nat.succ_pos _)
    rw [Nat.add_zero] at h0 h1
    obtain ⟨us0, a1, a2⟩ := cells_there (t.get o) _ h1
    obtain ⟨us, b1, b2, b3, b4⟩ := row_cells hsz n (o + 1) (fun i hi => by rw [show o + 1 + i = o + (i + 1) by omega]; exact h (i + 1) (by omega))
    have hl0 : us0.length = size := by rw [← a1.length, h0]
    refine ⟨us0 ++ us, by rw [List.length_append, hl0, b1, Nat.add_mul, Nat.one_mul]; omega, fun u hu => (List.mem_append.1 hu).elim (a1.one u) (b2 u), fun j u hj => ?_, fun i hi g s hs => ?_⟩
    · by_cases hjl : j < us0.length
      · rw [List.getElem?_append_left hjl] at hj
        have := a2 j u hj
        rw [at_add, Nat.zero_add]
        exact this
      · rw [List.getElem?_append_right (by omega)] at hj
        have := b3 _ u hj
        have hjl' : size ≤ j := by omega
        have e1 : l.o + o * size + (0 + j) = l.o + (o * size + size) + (0 + (j - size)) := by omega
        have e2 : (l.at o 0).add j = (l.at (o + 1) 0).add (j - us0.length) := by
          rw [at_add, at_add]
          unfold Loc.at
          rw [hsz, hl0, Nat.add_mul, Nat.one_mul, e1]
        rw [e2]
        exact this
    · cases i with
      | zero =>
        rw [Nat.add_zero] at hs
        obtain ⟨u, c1, c2⟩ := a1.get _ _ hs
        have hg : g < us0.length := (List.getElem?_eq_some_iff.1 c1).1
        exact ⟨u, by rw [Nat.zero_mul, Nat.zero_add, List.getElem?_append_left hg]; exact c1, c2⟩
      | succ i =>
        rw [show o + (i + 1) = o + 1 + i by omega] at hs
        obtain ⟨u, c1, c2⟩ := b4 i (by omega) g s hs
        refine ⟨u, ?_, c2⟩
        rw [List.getElem?_append_right (by rw [hl0, Nat.add_mul, Nat.one_mul]; omega), hl0]
        rw [show (i + 1) * size + g - size = i * size + g by rw [Nat.add_mul, Nat.one_mul]; omega]
        exact c1

/-- a slice's, or a string's, length -/
def slen : S → Option Nat
  | .str s => some s.length
  | .nils => some 0
  | .emp => some 0
  | .sl _ _ n _ => some n
  | _ => none
theorem sliceLen_yes {β : Type} {no r : β} {k : Nat → β} {s : S} (h : sliceLen no k s = r) (hn : no ≠ r) : ∃ n, slen s = some n ∧ k n = r := by
  cases s <;> first | exact ⟨_, rfl, h⟩ | exact ⟨_, rfl, by rw [← len_eq]; exact h⟩ | exact absurd h hn
theorem lenOf_ok {φ : Phi} {s : S} {u : Value} {n : Nat} (h : SR φ s u) (hs : slen s = some n) (w : World) : (Builtin.lenOf u).run P w = .ok n w := by
  cases s with
  | str s => obtain ⟨t, rfl, rfl⟩ := h; cases hs; rw [bytesOf_length]; rfl
  | nils => cases hs; cases h; rfl
  | emp => cases hs; obtain ⟨a, c, rfl⟩ := h; rfl
  | sl x o m c => cases hs; obtain ⟨l, C, _, rfl, _⟩ := sl_val h; rfl
  | _ => cases hs
theorem source_ok {φ : Phi} {h : H} {w : World} (hr : HR φ h.get w) {s : S} {u : Value} (hs : SR φ s u) {size n m : Nat} (hm : slen s = some m) (hn : n ≤ m) {β : Type} {no r : β} {k : (Arr → Nat → Arr) → β} (q : source h size n no k s = r) (hno : no ≠ r) :
    ∃ f news, k f = r ∧ SrcR φ size n f news ∧ ∀ w1 : World, w1.heap = w.heap → (Builtin.firstCells size n u).run P w1 = .ok news.toArray w1 := by
  cases s with
  | str s =>
    obtain ⟨h1, q1⟩ := onC_yes (show onC (Nat.beq size 1) no (onO (takeN n s) no fun s' => k (moveS s')) = r from q) hno
    obtain ⟨s', h2, q2⟩ := onO_yes q1 hno
    rw [takeN_eq] at h2
    cases hm
    rw [if_pos hn] at h2
    cases h2
    have h1 := beq_iff.1 h1
    subst h1
    obtain ⟨t, rfl, rfl⟩ := hs
    have hl : ((bytesOf t).take n).length = n := by rw [List.length_take]; omega
    refine ⟨_, ((bytesOf t).take n).map fun x : Nat => Value.int .u8 (x : Int), q2, ⟨⟨fun i => [.int .u8 (.ofNat (((bytesOf t).take n).getD i 0))], fun d p hp j hj => ?_, fun i hi => ⟨rfl, fun g s hg => ?_⟩⟩, by rw [List.length_map, hl, Nat.mul_one], fun u hu => ?_⟩, fun w1 hw => ?_⟩
    · have := moveS_get ((bytesOf t).take n) d p (by omega) j hj
      rw [hl] at this
      exact this
    · cases g with
      | succ g => simp at hg
      | zero =>
        simp only [List.getElem?_cons_zero, Option.some.injEq] at hg
        subst hg
        have hil : i < ((bytesOf t).take n).length := by omega
        refine ⟨.int .u8 ((((bytesOf t).take n).getD i 0 : Nat) : Int), ?_, rfl⟩
        have h6 : ((bytesOf t).take n).getD i 0 = ((bytesOf t).take n)[i] := by rw [List.getD, List.getElem?_eq_getElem hil, Option.getD_some]
        rw [Nat.mul_one, Nat.add_zero, List.getElem?_map, List.getElem?_eq_getElem hil, h6, Option.map_some]
    · obtain ⟨x, _, rfl⟩ := List.mem_map.1 hu
      rfl
    · simp only [Builtin.firstCells, Sem.run_pure]
      congr 1
      apply Array.ext'
      have h3 : bytesOf (t.extract 0 n) = (bytesOf t).take n := by rw [bytesOf_extract _ _ _ (by rw [← bytesOf_length]; exact hn)]; simp
      rw [← h3]
      simp [bytesOf]
      rfl
  | nils =>
    cases hm
    have : n = 0 := by omega
    subst this
    cases hs
    exact ⟨_, [], q, ⟨⟨fun _ => [], fun d p _ j _ => by rw [if_neg (by omega)], fun i hi => absurd hi (Nat.not_lt_zero _)⟩, by simp, by simp⟩, fun w1 _ => by simp [Builtin.firstCells]⟩
  | emp =>
    cases hm
    have : n = 0 := by omega
    subst this
    obtain ⟨a, c, rfl⟩ := hs
    exact ⟨_, [], q, ⟨⟨fun _ => [], fun d p _ j _ => by rw [if_neg (by omega)], fun i hi => absurd hi (Nat.not_lt_zero _)⟩, by simp, by simp⟩, fun w1 _ => by simp [Builtin.firstCells, loadCells, loadCellsFrom]⟩
  | sl x o n' c =>
    cases hm
    obtain ⟨l, C, hl, rfl, b1, b2, b3⟩ := sl_val hs
    obtain ⟨t, e, sz', ro, st, hb, q1⟩ := onArr_yes (show onArr no (fun t m size' _ => onC (andB (Nat.beq size' size) (Nat.ble (o + n) m)) no (k (moveE n t o))) (h.get x) = r from q) hno
    obtain ⟨hc, q2⟩ := onC_yes q1 hno
    simp only [andB_eq, Bool.and_eq_true, beq_iff, ble_iff] at hc
    obtain ⟨rfl, hc2⟩ := hc
    obtain ⟨e2, e3⟩ := arr_at hr hl hb
    obtain ⟨us, a1, a2, a3, a4⟩ := row_cells (φ := φ) (w := w) (t := t) e3.1 n o (fun i hi => e3.2.2.2.1 (o + i) (by omega))
    refine ⟨_, us, q2, ⟨⟨fun i => t.get (o + i), fun d p hp j hj => moveE_get n t o p d hp j hj, fun i hi => ⟨(e3.2.2.2.1 (o + i) (by omega)).1, a4 i hi⟩⟩, a1, a2⟩, fun w1 hw => ?_⟩
    have h5 := run_loadCells_list (P := P) w1 (l.at o 0) us (fun j v hv => by
      have := a3 j v hv
      rw [← this]
      simp [World.cell?, hw])
    rw [a1] at h5
    exact h5
  | _ => exact absurd q hno
end Go.Proofs.YtjmdmpfekoinbaaGreat.AMK

namespace Go.Proofs.YtjmdmpfekoinbaaGreat.AMK
open Go
variable {P : Program}

/-! ### append -/
/-- cnt elements of a row, as real cells -/
structure Rows (φ : Phi) (size cnt : Nat) (t : Arr) (us : List Value) : Prop where
  len : us.length = cnt * size
  row : ∀ i, i < cnt → (t.get i).length = size ∧ ∀ g s, (t.get i)[g]? = some s → ∃ u, us[i * size + g]? = some u ∧ SR φ s u
theorem Rows.mono {φ φ' : Phi} (e : Ext φ φ') {size cnt : Nat} {t : Arr} {us : List Value} (h : Rows φ size cnt t us) : Rows φ' size cnt t us :=
  ⟨h.len, fun i hi => ⟨(h.row i hi).1, fun g s hg => let ⟨u, h1, h2⟩ := (h.row i hi).2 g s hg; ⟨u, h1, h2.mono e⟩⟩⟩
theorem Rows.src {φ : Phi} {size m n : Nat} {t : Arr} {us news : List Value} {f : Arr → Nat → Arr} (h : Rows φ size m t us) (hs : SrcR φ size n f news) (hb : m + n ≤ 4096) : Rows φ size (m + n) (f t m) (us ++ news) := by
  obtain ⟨row, h1, h2⟩ := hs.get
  refine ⟨by rw [List.length_append, h.len, hs.len, Nat.add_mul], fun i hi => ?_⟩
  rw [h1 t m hb i (by omega)]
  by_cases him : i < m
  · rw [if_neg (by omega)]
    refine ⟨(h.row i him).1, fun g s hg => ?_⟩
    obtain ⟨u, c1, c2⟩ := (h.row i him).2 g s hg
    have := (List.getElem?_eq_some_iff.1 c1).1
    exact ⟨u, by rw [List.getElem?_append_left this]; exact c1, c2⟩
  · rw [if_pos (by omega)]
    obtain ⟨k, rfl⟩ : ∃ k, i = m + k := ⟨i - m, by omega⟩
    rw [show m + k - m = k by omega]
    refine ⟨(h2 k (by omega)).1, fun g s hg => ?_⟩
    obtain ⟨u, c1, c2⟩ := (h2 k (by omega)).2 g s hg
    refine ⟨u, ?_, c2⟩
    rw [List.getElem?_append_right (by rw [h.len, Nat.add_mul]; omega), h.len]
    rw [show (m + k) * size + g - m * size = k * size + g by rw [Nat.add_mul]; omega]
    exact c1
theorem SrcR.mono {φ φ' : Phi} (e : Ext φ φ') {size n : Nat} {f : Arr → Nat → Arr} {news : List Value} (h : SrcR φ size n f news) : SrcR φ' size n f news :=
  ⟨let ⟨row, h1, h2⟩ := h.get; ⟨row, h1, fun i hi => ⟨(h2 i hi).1, fun g s hg => let ⟨u, a, b⟩ := (h2 i hi).2 g s hg; ⟨u, a, b.mono e⟩⟩⟩, h.len, h.one⟩
/-- a row that is written is as it is said -/
theorem write_br {φ : Phi} {w w' : World} {l : Loc} {t : Arr} {e size st st' p n : Nat} {f : Arr → Nat → Arr} {news : List Value} (h : BR φ w l (.arr t e size false st)) (hs : SrcR φ size n f news) (hp : p + n ≤ e) (hw : Wrote w l.b (l.o + p * size) news w') :
    BR φ w' l (.arr (f t p) e size false st') := by
  obtain ⟨row, h1, h2⟩ := hs.get
  have h4 := h.2.2.1
  refine ⟨h.1, h.2.1, h4, fun i hi => ?_, fun _ => ?_⟩
  · have hoff : ∀ g, l.at i g = ⟨l.b, l.o + (i * size + g), none⟩ := fun g => by simp only [Loc.at]; rw [show l.sz = size from h.1, Nat.add_assoc]
    rw [h1 t p (by omega) i (by omega)]
    by_cases hin : p ≤ i ∧ i < p + n
    · rw [if_pos hin]
      obtain ⟨k, rfl⟩ : ∃ k, i = p + k := ⟨i - p, by omega⟩
      rw [show p + k - p = k by omega]
      refine ⟨(h2 k (by omega)).1, fun g s hg => ?_⟩
      obtain ⟨u, c1, c2⟩ := (h2 k (by omega)).2 g s hg
      have c3 := hw.inn _ _ c1
      rw [hoff]
      exact ⟨u, by rw [show l.o + ((p + k) * size + g) = l.o + p * size + (k * size + g) by rw [Nat.add_mul]; omega]; exact c3, c2⟩
    · rw [if_neg hin]
      have h5 := h.2.2.2.1 i hi
      refine ⟨h5.1, fun g s hg => ?_⟩
      obtain ⟨u, c1, c2⟩ := h5.2 _ _ hg
      have hg' : g < size := by rw [← h5.1]; exact (List.getElem?_eq_some_iff.1 hg).1
      rw [hoff] at c1 ⊢
      have hout : l.o + (i * size + g) < l.o + p * size ∨ l.o + p * size + news.length ≤ l.o + (i * size + g) := by
        rw [hs.len]
        by_cases h6 : i < p
        · have h7 : (i + 1) * size ≤ p * size := Nat.mul_le_mul_right _ h6
          rw [Nat.add_mul, Nat.one_mul] at h7
          left
          omega
        · have h7 : (p + n) * size ≤ i * size := Nat.mul_le_mul_right _ (by omega)
          rw [Nat.add_mul] at h7
          right
          omega
      exact ⟨u, by rw [hw.out _ hout]; exact c1, c2⟩
  · obtain ⟨c, te, fr, g2, g3, g4⟩ := h.2.2.2.2 rfl
    obtain ⟨c', g5, g6⟩ := hw.obj _ _ _ g2
    exact ⟨c', te, fr, g5, by rw [g6]; exact g3, by rw [g6]; exact g4⟩
/-- the same block, told from o on -/
theorem over_br {φ : Phi} {w w' : World} {l : Loc} {t d : Arr} {e size st st' o m n : Nat} {f : Arr → Nat → Arr} {news : List Value} (h : BR φ w l (.arr t e size false st)) (hs : SrcR φ size n f news) (hm : o + m ≤ e) (hn : m + n ≤ 4096) (hc : o + (m + n) ≤ l.cap)
    (hd : ∀ i, i < m → d.get i = t.get (o + i)) (hw : Wrote w l.b (l.o + (o + m) * size) news w') : BR φ w' ⟨l.b, l.o + o * size, size, l.cap - o⟩ (.arr (f d m) (m + n) size false st') := by
  obtain ⟨row, h1, h2⟩ := hs.get
  have hsz : l.sz = size := h.1
  refine ⟨rfl, by simp only; omega, hn, fun i hi => ?_, fun _ => ?_⟩
  · have hoff : ∀ g, (⟨l.b, l.o + o * size, size, l.cap - o⟩ : Loc).at i g = ⟨l.b, l.o + ((o + i) * size + g), none⟩ := fun g => by
      simp only [Loc.at]
      rw [Nat.add_mul, Nat.add_assoc, Nat.add_assoc, Nat.add_assoc]
    rw [h1 d m hn i (by omega)]
    by_cases hin : m ≤ i
    · rw [if_pos ⟨hin, hi⟩]
      obtain ⟨k, rfl⟩ : ∃ k, i = m + k := ⟨i - m, by omega⟩
      rw [show m + k - m = k by omega]
      refine ⟨(h2 k (by omega)).1, fun g s hg => ?_⟩
      obtain ⟨u, c1, c2⟩ := (h2 k (by omega)).2 g s hg
      have c3 := hw.inn _ _ c1
      rw [hoff]
      have e1 : (o + (m + k)) * size = (o + m) * size + k * size := by rw [← Nat.add_mul]; congr 1; omega
      have e2 : l.o + ((o + (m + k)) * size + g) = l.o + (o + m) * size + (k * size + g) := by omega
      exact ⟨u, by rw [e2]; exact c3, c2⟩
    · rw [if_neg (by omega), hd i (by omega)]
      have h5 := h.2.2.2.1 (o + i) (by omega)
      refine ⟨h5.1, fun g s hg => ?_⟩
      obtain ⟨u, c1, c2⟩ := h5.2 _ _ hg
      have hg' : g < size := by rw [← h5.1]; exact (List.getElem?_eq_some_iff.1 hg).1
      have hoff2 : l.at (o + i) g = ⟨l.b, l.o + ((o + i) * size + g), none⟩ := by simp only [Loc.at]; rw [hsz, Nat.add_assoc]
      rw [hoff2] at c1
      rw [hoff]
      have hout : l.o + ((o + i) * size + g) < l.o + (o + m) * size := by
        have h7 : (o + i + 1) * size ≤ (o + m) * size := Nat.mul_le_mul_right _ (by omega)
        rw [Nat.add_mul (o + i), Nat.one_mul] at h7
        omega
      exact ⟨u, by rw [hw.out _ (.inl hout)]; exact c1, c2⟩
  · obtain ⟨c, te, fr, g2, g3, g4⟩ := h.2.2.2.2 rfl
    obtain ⟨c', g5, g6⟩ := hw.obj _ _ _ g2
    refine ⟨c', te, fr, g5, ?_, by rw [g6]; exact g4⟩
    rw [g6, g3]
    simp only
    have : (l.cap - o) * size + o * size = l.cap * size := by rw [← Nat.add_mul]; congr 1; omega
    omega
theorem Step.kill {φ : Phi} {h : H} {w : World} {x : Id} (hr : HR φ h.get w) : Step φ h w φ (h.put x fun _ => .dead) w := by
  obtain ⟨n1, n2, n3⟩ := H.put_get h x fun _ => .dead
  refine ⟨fun _ _ => rfl, hr.kill n3, Fr.refl _ _ _, fun b hb => .inl ?_⟩
  refine owns_congr (fun z hz => ?_) (fun _ _ => rfl) hb
  rw [n3] at hz
  by_cases e : z = x
  · simp [e, Blk.own] at hz
  · simpa [e] using hz
/-- a new row -/
theorem newSl_fresh {φ : Phi} {h h' : H} {w w' : World} (hr : HR φ h.get w) {t : Arr} {n size cap : Nat} {v : V} (q : newSl h t n size = .yes v h') (hn : φ h.next = none) {cells : List Value} {z : Array Value} {e : TypeId} (hw : w'.drawn = w'.drawn) (hd : w' = w.drew.alloc (.cells (cells.toArray ++ z) e))
    (hrow : Rows φ size n t cells) (hz : z.size = (cap - n) * size) (hc : n ≤ cap) : ∃ φ', Step φ h w φ' h' w' ∧ VR φ' v (.slice (some ⟨w.heap.size, 0, none⟩) n cap) := by
  obtain ⟨h4, h1, e1, gr⟩ := newA_grew q
  obtain ⟨rfl, rfl⟩ := yes_inj e1
  subst hd
  have hb : BR (upd φ h.next ⟨w.heap.size, 0, size, cap⟩) (w.drew.alloc (.cells (cells.toArray ++ z) e)) ⟨w.heap.size, 0, size, cap⟩ (.arr t n size false h.clk) := by
    refine arr_br (w := w.drew) hc h4 ?_ fun i hi => ⟨(hrow.row i hi).1, fun g s hg => ?_⟩
    · rw [Array.size_append, List.size_toArray, hrow.len, hz, ← Nat.add_mul]
      congr 1
      omega
    · obtain ⟨u, c1, c2⟩ := (hrow.row i hi).2 g s hg
      have hlt := (List.getElem?_eq_some_iff.1 c1).1
      exact ⟨u, by rw [Array.getElem?_append_left (by simpa using hlt)]; simpa using c1, c2.mono (Ext.upd hn _)⟩
  exact ⟨_, Step.fresh hr hn gr (Fresh.of_drew (Fresh.alloc w.drew _)) rfl hb, _, upd_same _ _ _, by simp; omega, by simp [Loc.at]⟩
theorem growBy_le (newLen : Nat) : ∀ r c, Builtin.growBy newLen r c + 768 ≤ 2 ^ r * (c + 768)
  | 0, c => by simp [Builtin.growBy]
  | r + 1, c => by
    unfold Builtin.growBy
    split
    · have : 1 ≤ 2 ^ (r + 1) := Nat.one_le_two_pow
      calc c + 768 = 1 * (c + 768) := by omega
        _ ≤ _ := Nat.mul_le_mul_right _ this
    · have h1 := growBy_le newLen r (c + (c + 768) / 4)
      have h2 : c + (c + 768) / 4 + 768 ≤ 2 * (c + 768) := by omega
      calc _ ≤ 2 ^ r * (c + (c + 768) / 4 + 768) := h1
        _ ≤ 2 ^ r * (2 * (c + 768)) := Nat.mul_le_mul_left _ h2
        _ = _ := by rw [Nat.pow_succ, Nat.mul_assoc]
theorem nextcap_le {n c : Nat} (hn : n ≤ 4096) (hc : c < n) : Builtin.nextslicecap n c ≤ 77824 := by
  unfold Builtin.nextslicecap
  split
  · omega
  · split
    · omega
    · have := growBy_le n 4 c
      omega
end Go.Proofs.YtjmdmpfekoinbaaGreat.AMK

namespace Go.Proofs.YtjmdmpfekoinbaaGreat.AMK
open Go
variable {P : Program}

/-! ### append, put together -/
theorem Src.mk' {φ : Phi} {h : H} {w : World} {s : S} {u : Value} (hs : SR φ s u) {size n : Nat} (hm : slen s = some n) {tx : TypeId} (hk : (∃ e', P.underlying tx = some (.slice e')) ∨ P.underlying tx = some .string) {f : Arr → Nat → Arr} {news : List Value} (hsrc : SrcR φ size n f news)
    (hc : ∀ w1 : World, w1.heap = w.heap → (Builtin.firstCells size n u).run P w1 = .ok news.toArray w1) : Src P size tx u n news w :=
  ⟨hk, fun w' => lenOf_ok hs hm w', hc w rfl, hc w.drew rfl, hsrc.len, hsrc.one⟩
theorem Rows.zero (φ : Phi) (size : Nat) (t : Arr) : Rows φ size 0 t [] := ⟨by simp, fun i hi => absurd hi (Nat.not_lt_zero _)⟩
/-- a row that grows lies in a new block -/
theorem grow_ok {φ : Phi} {h h' : H} {w : World} (hr : HR φ h.get w) (hf : Free φ h h') {t tx ty e : TypeId} {ti : TypeInfo} {z : Value} {size : Nat} (ht : P.underlying t = some (.slice e)) (hi : P.info? e = some ti) (hz : ti.zero = some z) (hsz : ti.size = size) (hzl : z.cells.size = size) (hby : ti.bytes ≤ 1048576)
    {base : Option Addr} {m C n : Nat} {ux : Value} {d : Arr} {olds news : List Value} {f : Arr → Nat → Arr} (hold : (Builtin.firstCells size m (.slice base m C)).run P w.drew = .ok olds.toArray w.drew) (hrow : Rows φ size m d olds) (hsrc : SrcR φ size n f news) (hx : Src P size tx ux n news w)
    (hg : C < m + n) {v : V} (q : newSl h (f d m) (m + n) size = .yes v h') : Yields P φ h w (Builtin.append_ #[t, tx] ty #[.slice base m C, ux]) v h' := by
  obtain ⟨h4, h1, e1, gr⟩ := newA_grew q
  have e2 := (yes_inj e1).2
  subst e2
  have hn : φ h.next = none := hf h.next (Nat.le_refl _) (by rw [gr.1]; omega)
  have hge := grownCap_ge w (m + n) C e
  subst hsz
  have hfit : (m + n) * ti.bytes ≤ 4096 * 1048576 := Nat.mul_le_mul h4 hby
  have hrun := run_append_grow_src (P := P) w t tx ty e ti z ht hi hz base m C olds hold ux n news hx hg (by omega) (growslice_fits hg (by omega))
  obtain ⟨φ', s1, s2⟩ := newSl_fresh (w' := w.drew.alloc (.cells ((olds ++ news).toArray ++ Builtin.zeroCells z.cells (grownCap w (m + n) C e - (m + n))) e)) hr q hn rfl rfl (hrow.src hsrc h4) (by rw [size_zeroCells, hzl]) hge
  exact ⟨_, _, φ', hrun, s1, s2⟩
theorem moved_rows {φ : Phi} {w : World} {l : Loc} {t : Arr} {e size st o m : Nat} {ro : Bool} (h : BR φ w l (.arr t e size ro st)) (hm : o + m ≤ e) (h4 : m ≤ 4096) : ∃ olds : List Value, Rows φ size m (moveE m t o Arr.none 0) olds ∧ (o = 0 → Rows φ size m t olds) ∧ ∀ (C : Nat) (w1 : World), w1.heap = w.heap → (Builtin.firstCells size m (.slice (some (l.at o 0)) m C)).run P w1 = .ok olds.toArray w1 := by
  obtain ⟨us, a1, a2, a3, a4⟩ := row_cells (φ := φ) (w := w) (t := t) h.1 m o (fun i hi => h.2.2.2.1 (o + i) (by omega))
  have hlen : ∀ i, i < m → (t.get (o + i)).length = size := fun i hi => (h.2.2.2.1 (o + i) (by omega)).1
  refine ⟨us, ⟨a1, fun i hi => ?_⟩, fun h0 => ⟨a1, fun i hi => ?_⟩, fun C w1 hw => ?_⟩
  · rw [moveE_get m t o 0 Arr.none (by omega) i (by omega), if_pos (by omega)]
    exact ⟨hlen i hi, a4 i hi⟩
  · subst h0
    have := hlen i hi
    have h5 := a4 i hi
    rw [Nat.zero_add] at this h5
    exact ⟨this, h5⟩
  · exact run_firstCells_some w1 size m (l.at o 0) m C us a1 (fun j v hv => by
      have := a3 j v hv
      rw [← this]
      simp [World.cell?, hw])
theorem at_off (l : Loc) (o : Nat) : l.at o 0 = ⟨l.b, l.o + o * l.sz, none⟩ := by simp [Loc.at]
theorem appendF_ok {φ : Phi} {h h' : H} {w : World} (hr : HR φ h.get w) (hf : Free φ h h') {t tx ty e : TypeId} {ti : TypeInfo} {z : Value} {size : Nat} (ht : P.underlying t = some (.slice e)) (hi : P.info? e = some ti) (hz : ti.zero = some z) (hsz : ti.size = size) (hzl : z.cells.size = size) (hby : ti.bytes ≤ 1048576)
    {s : S} {us ux : Value} (hs : SR φ s us) {n : Nat} (hn : n ≠ 0) {f : Arr → Nat → Arr} {news : List Value} (hsrc : SrcR φ size n f news) (hx : Src P size tx ux n news w) {v : V} (q : appendF size n f h s = .yes v h') : Yields P φ h w (Builtin.append_ #[t, tx] ty #[us, ux]) v h' := by
  cases s with
  | nils =>
    cases hs
    refine grow_ok (d := Arr.none) (olds := []) hr hf ht hi hz hsz hzl hby (run_firstCells_none w.drew size 0 0 0) (Rows.zero _ _ _) hsrc hx (by omega) ?_
    rw [Nat.zero_add]
    exact q
  | sl b o m c =>
    obtain ⟨l, C, hl, rfl, b1, b2, b3⟩ := sl_val hs
    obtain ⟨ta, na, sz', ro, st, hb, q1⟩ := onArr_yes (show onArr RV.no _ (h.get b) = RV.yes v h' from q) noYes
    obtain ⟨hcz, q2⟩ := onC_yes q1 noYes
    have hcz := beq_iff.1 hcz
    subst hcz
    obtain ⟨hlt, hbr⟩ := arr_at hr hl hb
    have hlsz : l.sz = sz' := hbr.1
    have hcap : na ≤ l.cap := hbr.2.1
    have h4a : na ≤ 4096 := hbr.2.2.1
    -- in place
    have room : ro = false → o + m + n ≤ na → m + n ≤ C → ∀ c', (c' = some C ∨ c' = none ∧ C = l.cap - o) → RV.yes (.sc (.sl b o (m + n) c')) (putA h b (f ta (o + m)) na sz') = .yes v h' → Yields P φ h w (Builtin.append_ #[t, tx] ty #[.slice (some (l.at o 0)) m C, ux]) v h' := by
      intro hro h5 h6 c' h7 q3
      subst hro
      obtain ⟨rfl, rfl⟩ := yes_inj q3
      have hown := own_cells hbr
      have hm1 : (o + m + n) * sz' ≤ l.cap * sz' := Nat.mul_le_mul_right _ (by omega)
      have hm2 : (o + m + n) * sz' = o * sz' + m * sz' + n * sz' := by rw [Nat.add_mul, Nat.add_mul]
      have hnl := hsrc.len
      have hoff : l.o + o * l.sz + m * ti.size = l.o + (o + m) * sz' := by rw [hlsz, hsz, Nat.add_mul]; omega
      have hcells : ∀ j, j < news.length → (w.cell? ⟨l.b, l.o + (o + m) * sz' + j, none⟩).isSome = true ∧ w.frozen? ⟨l.b, l.o + (o + m) * sz' + j, none⟩ = false := fun j hj => by
        rw [Nat.add_assoc]
        exact hown _ (by rw [Nat.add_mul]; omega)
      have hrun := run_append_room_src (P := P) w t tx ty e ti ht hi l.b (l.o + o * l.sz) m C ux n news (by rw [hsz]; exact hx) h6 (fun j hj => by rw [hoff]; exact (hcells j hj).1) (fun j hj => by rw [hoff]; exact (hcells j hj).2)
      rw [hoff] at hrun
      have hwr := Wrote.of (fun j hj => (hcells j hj).1)
      refine ⟨.slice (some ⟨l.b, l.o + o * l.sz, none⟩) (m + n) C, w.setCells l.b (l.o + (o + m) * sz') news, φ, by rw [at_off]; exact hrun, ?_, ?_⟩
      · refine Step.put hr (by rw [hb]; rfl) hl (fun _ => trivial) hwr.os hwr.tape hwr.output hwr.size hwr.other ?_
        exact write_br hbr hsrc (by omega) hwr
      · rcases h7 with rfl | ⟨rfl, h8⟩
        · exact ⟨l, hl, b2, h6, by rw [at_off]⟩
        · exact ⟨l, hl, by omega, by rw [at_off, h8]⟩
    rcases b3 with rfl | ⟨rfl, hC⟩
    · -- a known capacity
      replace q2 : onC (Nat.ble (m + n) C) (onC (Nat.ble (o + m) na) .no (newSl h (f (moveE m ta o Arr.none 0) m) (m + n) sz')) (onC ro (onC (Nat.ble (o + m + n) na) .no (.yes (.sc (.sl b o (m + n) (some C))) (putA h b (f ta (o + m)) na sz'))) .no) = RV.yes v h' := q2
      cases hc : Nat.ble (m + n) C
      · rw [hc, onC_false] at q2
        obtain ⟨h5, q3⟩ := onC_yes q2 noYes
        have h5 := ble_iff.1 h5
        obtain ⟨olds, r1, _, r3⟩ := moved_rows (P := P) (o := o) (m := m) hbr h5 (by omega)
        refine grow_ok hr hf ht hi hz hsz hzl hby (r3 C w.drew rfl) r1 hsrc hx ?_ q3
        have : ¬ m + n ≤ C := fun h => by rw [ble_iff.2 h] at hc; cases hc
        omega
      · rw [hc, onC_true] at q2
        cases ro with
        | true => cases q2
        | false =>
          obtain ⟨h5, q3⟩ := onC_yes (show onC (Nat.ble (o + m + n) na) RV.no (.yes (.sc (.sl b o (m + n) (some C))) (putA h b (f ta (o + m)) na sz')) = RV.yes v h' from q2) noYes
          exact room rfl (ble_iff.1 h5) (ble_iff.1 hc) _ (.inl rfl) q3
    · replace q2 : onC ro (onC (Nat.ble (o + m + n) na) (onC (Nat.ble (o + m) na) .no (onC (Nat.beq o 0) (newSl (h.put b fun _ => .dead) (f (moveE m ta o Arr.none 0) m) (m + n) sz') (newSl (h.put b fun _ => .dead) (f ta m) (m + n) sz'))) (.yes (.sc (.sl b o (m + n) none)) (putA h b (f ta (o + m)) na sz'))) .no = RV.yes v h' := q2
      cases ro with
      | true => cases q2
      | false =>
        replace q2 : onC (Nat.ble (o + m + n) na) (onC (Nat.ble (o + m) na) .no (onC (Nat.beq o 0) (newSl (h.put b fun _ => .dead) (f (moveE m ta o Arr.none 0) m) (m + n) sz') (newSl (h.put b fun _ => .dead) (f ta m) (m + n) sz'))) (.yes (.sc (.sl b o (m + n) none)) (putA h b (f ta (o + m)) na sz')) = RV.yes v h' := q2
        cases hc : Nat.ble (o + m + n) na
        · rw [hc, onC_false] at q2
          obtain ⟨h5, q3⟩ := onC_yes q2 noYes
          have h5 := ble_iff.1 h5
          -- it moves, or it does not
          obtain ⟨olds, r1, r2, r3⟩ := moved_rows (P := P) (o := o) (m := m) hbr h5 (by omega)
          have hd : ∃ d : Arr, Rows φ sz' m d olds ∧ (∀ i, i < m → d.get i = ta.get (o + i)) ∧ newSl (h.put b fun _ => .dead) (f d m) (m + n) sz' = .yes v h' := by
            cases ho : Nat.beq o 0
            · rw [ho, onC_false] at q3
              exact ⟨_, r1, fun i hi' => by rw [moveE_get m ta o 0 Arr.none (by omega) i (by omega), if_pos (by omega)]; simp, q3⟩
            · rw [ho, onC_true] at q3
              have ho := beq_iff.1 ho
              exact ⟨_, r2 ho, fun i _ => by rw [ho, Nat.zero_add], q3⟩
          obtain ⟨d, d1, d2, q4⟩ := hd
          obtain ⟨n1, n2, n3⟩ := H.put_get h b fun _ => Blk.dead
          have hkill : HR φ (h.put b fun _ => .dead).get w := hr.kill n3
          have hownb : (h.get b).own = true := by rw [hb]; rfl
          by_cases hroom : m + n ≤ C
          · obtain ⟨h4, h1, e1, gr⟩ := newA_grew q4
            obtain ⟨rfl, rfl⟩ := yes_inj e1
            obtain ⟨g1, g2, g3⟩ := gr
            rw [n1] at g1 g3
            have hnn : φ h.next = none := hf h.next (Nat.le_refl _) (by rw [g1]; omega)
            have hown := own_cells hbr
            have hm1 : (o + m + n) * sz' ≤ l.cap * sz' := Nat.mul_le_mul_right _ (by omega)
            have hm2 : (o + m + n) * sz' = o * sz' + m * sz' + n * sz' := by rw [Nat.add_mul, Nat.add_mul]
            have hnl := hsrc.len
            have hoff : l.o + o * l.sz + m * ti.size = l.o + (o + m) * sz' := by rw [hlsz, hsz, Nat.add_mul]; omega
            have hcells : ∀ j, j < news.length → (w.cell? ⟨l.b, l.o + (o + m) * sz' + j, none⟩).isSome = true ∧ w.frozen? ⟨l.b, l.o + (o + m) * sz' + j, none⟩ = false := fun j hj => by
              rw [Nat.add_assoc]
              exact hown _ (by rw [Nat.add_mul]; omega)
            have hrun := run_append_room_src (P := P) w t tx ty e ti ht hi l.b (l.o + o * l.sz) m C ux n news (by rw [hsz]; exact hx) hroom (fun j hj => by rw [hoff]; exact (hcells j hj).1) (fun j hj => by rw [hoff]; exact (hcells j hj).2)
            rw [hoff] at hrun
            have hwr := Wrote.of (fun j hj => (hcells j hj).1)
            have hbr' := over_br (d := d) (st' := (h.put b fun _ => .dead).clk) hbr hsrc h5 h4 (by omega) d2 hwr
            refine ⟨.slice (some ⟨l.b, l.o + o * l.sz, none⟩) (m + n) C, w.setCells l.b (l.o + (o + m) * sz') news, upd φ h.next ⟨l.b, l.o + o * sz', sz', l.cap - o⟩, by rw [at_off]; exact hrun, ⟨fun x hx' => ?_, ?_, ⟨hwr.os, hwr.tape, hwr.output, by rw [hwr.size]; exact Nat.le_refl _, fun b' hb' hno => hwr.other b' fun e' => hno ⟨b, l, hownb, hl, e'.symm⟩⟩, fun b' hb' => ?_⟩, ?_⟩
            · have : x ≠ h.next := fun e' => by subst e'; omega
              simp [upd, this]
            · refine HR.place hkill hnn (by rw [hwr.size]; exact Nat.le_refl _) (by rw [hwr.size]; exact hlt) (fun b' _ hne => hwr.other b' hne) (fun x lx hx' hlx => ?_) g3 (hbr'.mono (Ext.upd hnn _))
              rw [n3] at hx'
              by_cases hxb : x = b
              · simp [hxb, Blk.alive] at hx'
              · simp only [hxb, if_false] at hx'
                exact fun e' => hr.apart b x l lx (fun e'' => hxb e''.symm) hownb hx' hl hlx e'.symm
            · obtain ⟨x, lx, a, p, qq⟩ := hb'
              rw [g3] at a
              left
              by_cases hxn : x = h.next
              · simp only [upd, hxn, if_true, Option.some.injEq] at p
                subst p
                exact ⟨b, l, hownb, hl, qq⟩
              · simp only [hxn, if_false, upd] at a p
                rw [n3] at a
                by_cases hxb : x = b
                · simp [hxb, Blk.own] at a
                · simp only [hxb, if_false] at a
                  exact ⟨x, lx, a, p, qq⟩
            · rw [n1]
              exact ⟨_, upd_same _ _ _, by simp only; omega, by simp [Loc.at, hlsz, hC]⟩
          · have hf' : Free φ (h.put b fun _ => .dead) h' := fun x hx1 hx2 => hf x (by rw [n1] at hx1; exact hx1) hx2
            obtain ⟨u, w', φ', y1, y2, y3⟩ := grow_ok (ty := ty) hkill hf' ht hi hz hsz hzl hby (r3 C w.drew rfl) d1 hsrc hx (by omega) q4
            have hnx : (h.put b fun _ => Blk.dead).next.num ≤ h'.next.num := by
              obtain ⟨_, h1, e1, gr⟩ := newA_grew q4
              have := (yes_inj e1).2
              subst this
              rw [gr.1]; omega
            exact ⟨u, w', φ', y1, Step.trans (by rw [n1]; exact Nat.le_refl _) hnx (Step.kill hr) y2, y3⟩
        · rw [hc, onC_true] at q2
          have hc := ble_iff.1 hc
          exact room rfl hc (by omega) _ (.inr ⟨rfl, hC⟩) q2
  | _ => cases q
theorem append_ok {φ : Phi} {h h' : H} {w : World} (hr : HR φ h.get w) (hf : Free φ h h') {t tx ty e : TypeId} {size : Nat} {zz : List S} (ht : P.underlying t = some (.slice e)) (htx : (∃ e', P.underlying tx = some (.slice e')) ∨ P.underlying tx = some .string) (hn : sizeOf P e = some size) (hzc : zeroCells P e = some zz)
    {g k : G} {sl : Slots} {us ux : Value} (hs : VR φ (g.v sl) us) (hx : VR φ (k.v sl) ux) {v : V} (q : (dAppend size g k).v sl h = .yes v h') : Yields P φ h w (Builtin.append_ #[t, tx] ty #[us, ux]) v h' := by
  obtain ⟨ti, zv, hi, hz, hzr, hzl⟩ := zeroCells_ok hzc
  obtain ⟨ti', hi', hsz, hby, hpos⟩ := sizeOf_ok hn
  rw [hi] at hi'; cases hi'
  have hzs : zv.cells.size = size := by rw [(hzr φ).size, hzl, hsz]
  obtain ⟨s, hgs, q1⟩ := onSc_yes q noYes
  obtain ⟨x, hkx, q2⟩ := onSc_yes q1 noYes
  rw [hgs] at hs
  rw [hkx] at hx
  obtain ⟨n, hnx, q3⟩ := sliceLen_yes q2 noYes
  cases h0 : Nat.beq n 0
  · rw [h0, onC_false] at q3
    have hn0 : n ≠ 0 := fun e' => by rw [beq_iff.2 e'] at h0; cases h0
    obtain ⟨f, news, q4, hsrc, hcells⟩ := source_ok (P := P) hr hx hnx (Nat.le_refl _) q3 noYes
    exact appendF_ok hr hf ht hi hz hsz hzs hby hs hn0 hsrc (Src.mk' (h := h) hx hnx htx hsrc hcells) q4
  · rw [h0, onC_true] at q3
    have h0 := beq_iff.1 h0
    subst h0
    have hsv : ∃ a m C, us = .slice a m C ∧ m ≤ C ∧ v = .sc s ∧ h' = h := by
      rcases sSlice_yes q3 noYes with ⟨hs', q4⟩ | ⟨b, o, m, c, rfl, q4⟩
      · obtain ⟨e1, e2⟩ := yes_inj q4
        rcases hs' with rfl | rfl
        · exact ⟨none, 0, 0, hs, Nat.le_refl _, e1.symm, e2.symm⟩
        · obtain ⟨a, c, rfl⟩ := hs
          exact ⟨_, 0, c, rfl, Nat.zero_le _, e1.symm, e2.symm⟩
      · obtain ⟨e1, e2⟩ := yes_inj q4
        obtain ⟨l, C, hl, rfl, b1, b2, b3⟩ := sl_val hs
        exact ⟨_, m, C, rfl, b1, e1.symm, e2.symm⟩
    obtain ⟨a, m, C, rfl, hle, rfl, rfl⟩ := hsv
    have hcz : (Builtin.firstCells size 0 ux).run P w = .ok #[] w := by
      cases x with
      | str y =>
        obtain ⟨tt, rfl, rfl⟩ := hx
        simp [Builtin.firstCells]
      | nils => cases hx; simp [Builtin.firstCells]
      | emp => obtain ⟨a', c', rfl⟩ := hx; simp [Builtin.firstCells, loadCells, loadCellsFrom]
      | sl b o m' c =>
        obtain ⟨l, C', hl, rfl, _⟩ := sl_val hx
        simp [Builtin.firstCells, loadCells, loadCellsFrom]
      | _ => cases hnx
    have hlen : ∀ w' : World, (Builtin.lenOf ux).run P w' = .ok 0 w' := fun w' => lenOf_ok hx hnx w'
    refine Yields.pure hr ?_ hs
    rcases htx with ⟨e', hk⟩ | hk <;> cases a <;> simp [Builtin.append_, run_underlying ht, run_underlying hk, Go.sizeOf, Go.typeInfo, hi, hlen, hle, hsz, hcz, storeCells]
end Go.Proofs.YtjmdmpfekoinbaaGreat.AMK

namespace Go.Proofs.YtjmdmpfekoinbaaGreat.AMK
open Go
variable {P : Program}

/-! ### maps -/
theorem isIntT_ok {t : TypeId} (h : isIntT P t = true) : ∃ k, P.underlying t = some (.int k) := by
  unfold isIntT at h
  split at h
  · rename_i k hk; exact ⟨k, hk⟩
  · cases h
theorem zero1_ok {t : TypeId} {s : S} (h : zero1 P t = some s) : ∃ i z, P.info? t = some i ∧ i.zero = some z ∧ ∀ φ, SR φ s z := by
  unfold zero1 at h
  split at h
  · rename_i i hi
    split at h
    · rename_i z hz
      exact ⟨i, z, hi, hz, fun φ => svOf_ok h φ⟩
    · cases h
  · cases h
theorem run_check_int {kt : TypeId} {d : IntKind} (hd : P.underlying kt = some (.int d)) (k : IntKind) (m : Int) (e : Bool) (n : Nat) (w : World) : (Instr.checkKey e (n + 1) kt (.int k m)).run P w = .ok () w := by
  unfold Instr.checkKey
  simp [run_underlying hd, Result.andThen]
theorem findMap_ok {φ : Phi} {kk : IntKind} {n : Int} (kt : IntKind) : ∀ (es : List (S × S × Nat)) (es' : List MapEntry) (i : Nat) (r : Option (Nat × S × Nat)), All2 (ER φ) es es' → findMap (.int kk n) es i = some r →
    (r = none ∧ Instr.findNow (.int kt) (.int kk n) es' i = some none) ∨ ∃ j k' v b e', r = some (i + j, v, b) ∧ es[j]? = some (k', v, b) ∧ es'[j]? = some e' ∧ SR φ v e'.val ∧ e'.key = .int kk n ∧ Instr.findNow (.int kt) (.int kk n) es' i = some (some (i + j, e'.val))
  | [], es', i, r, h1, h2 => by
    cases h1
    cases h2
    exact .inl ⟨rfl, rfl⟩
  | (k', v, b) :: es, es', i, r, h1, h2 => by
    cases h1 with
    | @cons _ e' _ es' he ht =>
      obtain ⟨hk, hv, hb⟩ := he
      unfold findMap at h2
      have hcell : ∀ c, cellEq (.int kk n) k' = some c → ∃ y, e'.key = .int kk y ∧ c = (n == y) := by
        intro c hc
        obtain ⟨k2, y, rfl, h3⟩ := sInt_yes (show sInt none (fun k' y => onC (kindEq kk k') none (some (eqZ n y))) k' = some c from hc) nn
        obtain ⟨hkk, h4⟩ := onC_yes h3 nn
        cases h4
        cases kindEq_iff.1 hkk
        exact ⟨y, hk, eqZ_eq n y⟩
      split at h2
      · rename_i hc
        cases h2
        obtain ⟨y, e1, e2⟩ := hcell _ hc
        have hy : n = y := by simpa using e2.symm
        subst hy
        exact .inr ⟨0, k', v, b, e', rfl, rfl, rfl, hv, e1, by simp [Instr.findNow, Instr.sameNow, e1]⟩
      · rename_i hc
        obtain ⟨y, e1, e2⟩ := hcell _ hc
        have hy : (n == y) = false := e2.symm
        rcases findMap_ok kt es es' (i + 1) r ht h2 with ⟨g1, g2⟩ | ⟨j, k2, v2, b2, e2', g1, g2, g3, g4, g5, g6⟩
        · exact .inl ⟨g1, by simp only [Instr.findNow, Instr.sameNow, e1, if_true, hy, g2]⟩
        · refine .inr ⟨j + 1, k2, v2, b2, e2', by rw [g1]; congr 2; omega, by simpa using g2, by simpa using g3, g4, g5, ?_⟩
          simp only [Instr.findNow, Instr.sameNow, e1, if_true, hy, g6]
          rw [show i + 1 + j = i + (j + 1) by omega]
      · cases h2
theorem commaV_ok {φ : Phi} {comma : Bool} {z : S} {b : Bool} {u : Value} (h : SR φ z u) : VR φ (commaV comma z b) (if comma then .tuple #[u, .bool b] else u) := by
  cases comma with
  | false => exact h
  | true => exact ⟨[u, .bool b], rfl, .cons (.inr ⟨rfl, _, rfl, h⟩) (.cons (.inr ⟨rfl, _, rfl, rfl⟩) .nil)⟩
theorem map_at {φ : Phi} {g : Id → Blk} {w : World} (hr : HR φ g w) {x : Id} {l : Loc} (hl : φ x = some l) {es : List (S × S × Nat)} {c s : Nat} (hb : g x = .map es c s) : l.b < w.heap.size ∧ ∃ es' : List MapEntry, w.heap[l.b]? = some (.map es'.toArray c) ∧ All2 (ER φ) es es' := by
  obtain ⟨l', h1, h2, h3⟩ := hr.lies x (by rw [hb]; rfl)
  rw [hl] at h1; cases h1
  rw [hb] at h3
  exact ⟨h2, h3⟩
theorem lookup_ok {φ : Phi} {k : Id → Blk} {h : H} {w : World} (hr : HR φ k w) {t kt et : TypeId} (hu : P.underlying t = some (.map kt et)) (hk : isIntT P kt = true) {z : S} (hz : zero1 P et = some z) {comma : Bool} {x i : G} {sl : Slots} (hg : ∀ y, refs (x.v sl) y → k y = h.get y) {u j : Value} (hx : VR φ (x.v sl) u) (hj : VR φ (i.v sl) j)
    {v : V} {h' : H} (q : (dLookup z comma x i).v sl h = .yes v h') : h' = h ∧ Reads P φ k w (Instr.lookup t u j comma) v := by
  obtain ⟨kk, n, hi, q1⟩ := onInt_yes q noYes
  obtain ⟨s, hs, q2⟩ := onSc_yes q1 noYes
  obtain ⟨kd, hkd⟩ := isIntT_ok hk
  obtain ⟨ti, zv, hti, hzv, hzr⟩ := zero1_ok hz
  rw [hs] at hx hg
  rw [hi] at hj
  cases hj
  rcases sMap_yes q2 noYes with ⟨rfl, q3⟩ | ⟨y, rfl, q3⟩
  · obtain ⟨rfl, rfl⟩ := yes_inj q3
    cases hx
    refine ⟨rfl, Reads.pure (u := if comma then .tuple #[zv, .bool false] else zv) ?_ (commaV_ok (hzr φ))⟩
    have h1 := run_check_int (P := P) hkd kk n true 9999 w
    have h2 : (Instr.findKey kt (.int kk n) []).run P w = .ok none w := MapKept.run_findKey hkd rfl
    simp [Instr.lookup, run_underlying hu, h1, h2, run_zero hti hzv, Result.andThen]
  · rw [← hg y (refs_map _)] at q3
    obtain ⟨es, c, st, hb, q4⟩ := onMap_yes q3 noYes
    obtain ⟨l, hl, rfl⟩ := hx
    obtain ⟨hlt, es', hw, hall⟩ := map_at hr hl hb
    have h1 := run_check_int (P := P) hkd kk n es'.toArray.isEmpty 9999 w
    have hgo := MapKept.run_getObj_map (P := P) hw
    cases hf : findMap (.int kk n) es 0 with
    | none => rw [hf] at q4; cases q4
    | some r =>
      rcases findMap_ok kd es es' 0 r hall hf with ⟨rfl, g2⟩ | ⟨j, k2, v2, b2, e2, rfl, g2, g3, g4, g5, g6⟩
      · rw [hf] at q4
        obtain ⟨rfl, rfl⟩ := yes_inj q4
        have h2 : (Instr.findKey kt (.int kk n) es').run P w = .ok none w := MapKept.run_findKey hkd g2
        refine ⟨rfl, Reads.pure (u := if comma then .tuple #[zv, .bool false] else zv) ?_ (commaV_ok (hzr φ))⟩
        simp only [Instr.lookup, Sem.run_bind, run_underlying hu, hgo, h1, h2, run_zero hti hzv, Sem.run_pure, Result.andThen]
      · rw [hf] at q4
        obtain ⟨rfl, rfl⟩ := yes_inj q4
        have h2 : (Instr.findKey kt (.int kk n) es').run P w = .ok (some (0 + j, e2.val)) w := MapKept.run_findKey hkd g6
        refine ⟨rfl, Reads.pure (u := if comma then .tuple #[e2.val, .bool true] else e2.val) ?_ (commaV_ok g4)⟩
        simp only [Instr.lookup, Sem.run_bind, run_underlying hu, hgo, h1, h2, Sem.run_pure, Result.andThen]
theorem lenMap_ok {φ : Phi} {k : Id → Blk} {h : H} {w : World} (hr : HR φ k w) {ts : Array TypeId} {ty : TypeId} {t kt et : TypeId} (ht : ts[0]? = some t) (hu : P.underlying t = some (.map kt et)) {x : G} {sl : Slots} (hg : ∀ y, refs (x.v sl) y → k y = h.get y) {u : Value} (hx : VR φ (x.v sl) u) {v : V} {h' : H} (q : (dLenMap x).v sl h = .yes v h') :
    h' = h ∧ Reads P φ k w (Builtin.len_ ts ty #[u]) v := by
  obtain ⟨s, hs, q2⟩ := onSc_yes q noYes
  rw [hs] at hx hg
  rcases sMap_yes q2 noYes with ⟨rfl, q3⟩ | ⟨y, rfl, q3⟩
  · obtain ⟨rfl, rfl⟩ := yes_inj q3
    cases hx
    exact ⟨rfl, Reads.pure (u := goInt 0) (by simp [Builtin.len_, ht, run_underlying hu]) rfl⟩
  · rw [← hg y (refs_map _)] at q3
    obtain ⟨es, c, st, hb, q4⟩ := onMap_yes q3 noYes
    obtain ⟨rfl, rfl⟩ := yes_inj q4
    obtain ⟨l, hl, rfl⟩ := hx
    obtain ⟨hlt, es', hw, hall⟩ := map_at hr hl hb
    refine ⟨rfl, Reads.pure (u := goInt es'.length) (by simp [Builtin.len_, ht, run_underlying hu, MapKept.run_getObj_map hw]) ?_⟩
    rw [len_eq, hall.length]
    rfl
theorem setMapVal_ok {φ : Phi} {v : S} {u key : Value} (hv : SR φ v u) : ∀ (es : List (S × S × Nat)) (es' : List MapEntry) (j : Nat) (e : MapEntry), All2 (ER φ) es es' → es'[j]? = some e → e.key = key → All2 (ER φ) (setMapVal es j v) (es'.modify j fun e => { e with key, val := u })
  | [], es', j, e, h, h1, h2 => by cases h; simp at h1
  | (k, v0, b) :: es, es', j, e, h, h1, h2 => by
    cases h with
    | @cons _ e' _ es' he ht =>
      cases j with
      | zero =>
        simp only [List.getElem?_cons_zero, Option.some.injEq] at h1
        subst h1
        refine .cons ⟨?_, hv, he.2.2⟩ ht
        rw [← h2]
        exact he.1
      | succ j => exact .cons he (setMapVal_ok hv es es' j e ht (by simpa using h1) h2)
theorem setObj_block {w : World} {b b' : Nat} {o : Obj} (h : b' ≠ b) : ({ w with heap := w.heap.setIfInBounds b o } : World).heap[b']? = w.heap[b']? := by
  simp [Ne.symm h]
theorem mapPut_ok {φ : Phi} {h h' : H} {w : World} (hr : HR φ h.get w) {t kt et : TypeId} (hu : P.underlying t = some (.map kt et)) (hk : isIntT P kt = true) {m k x : G} {sl : Slots} {um uk ux : Value} (hm : VR φ (m.v sl) um) (hkk : VR φ (k.v sl) uk) (hx : VR φ (x.v sl) ux) {v : V} (q : (dMapPut m k x).v sl h = .yes v h') :
    v = .undef ∧ Acts P φ h w (Instr.mapUpdate t um uk ux) h' := by
  obtain ⟨s, hs, q1⟩ := onSc_yes q noYes
  obtain ⟨kk, n, hi, q2⟩ := onInt_yes q1 noYes
  obtain ⟨y, hy, q3⟩ := onSc_yes q2 noYes
  obtain ⟨kd, hkd⟩ := isIntT_ok hk
  rw [hs] at hm
  rw [hi] at hkk
  rw [hy] at hx
  cases hkk
  rcases sMap_yes q3 noYes with ⟨_, q4⟩ | ⟨r, rfl, q4⟩
  · cases q4
  · obtain ⟨es, c, st, hb, q5⟩ := onMap_yes q4 noYes
    obtain ⟨l, hl, rfl⟩ := hm
    obtain ⟨hlt, es', hw, hall⟩ := map_at hr hl hb
    have h1 := run_check_int (P := P) hkd kk n false 9999 w
    have hgo := MapKept.run_getObj_map (P := P) hw
    have hso := fun o => MapKept.run_setObj_map (P := P) o hw
    have hnew : ∀ o : Obj, ({ w with heap := w.heap.setIfInBounds l.b o } : World).heap[l.b]? = some o := fun o => by simp [hlt]
    cases hf : findMap (.int kk n) es 0 with
    | none => rw [hf] at q5; cases q5
    | some r' =>
      rcases findMap_ok kd es es' 0 r' hall hf with ⟨rfl, g2⟩ | ⟨j, k2, v2, b2, e2, rfl, g2, g3, g4, g5, g6⟩
      · rw [hf] at q5
        obtain ⟨rfl, rfl⟩ := yes_inj q5
        have h2 : (Instr.findKey kt (.int kk n) es').run P w = .ok none w := MapKept.run_findKey hkd g2
        refine ⟨rfl, { w with heap := w.heap.setIfInBounds l.b (.map (es'.toArray.push { key := .int kk n, val := ux, born := c }) (c + 1)) }, φ, ?_, ?_⟩
        · simp only [Instr.mapUpdate, Sem.run_bind, run_underlying hu, hgo, h1, h2, Result.andThen, hso]
        · refine Step.put hr (by rw [hb]; rfl) hl (fun _ => trivial) rfl rfl rfl (by simp) (fun b' hne => setObj_block hne) ?_
          refine ⟨es' ++ [{ key := .int kk n, val := ux, born := c }], ?_, hall.append (.cons (show ER φ (.int kk n, y, c) { key := .int kk n, val := ux, born := c } from ⟨rfl, hx, rfl⟩) .nil)⟩
          rw [hnew]
          simp
      · rw [hf] at q5
        obtain ⟨rfl, rfl⟩ := yes_inj q5
        have h2 : (Instr.findKey kt (.int kk n) es').run P w = .ok (some (0 + j, e2.val)) w := MapKept.run_findKey hkd g6
        have h3 : (Instr.keyThatStays (.int kk n) (.int kk n)).run P w = .ok (.int kk n) w := by simp [Instr.keyThatStays, Instr.sameBits]
        have h4 : ((es'.toArray[0 + j]?).map (·.key)).getD (.int kk n) = .int kk n := by
          rw [Nat.zero_add, List.getElem?_toArray, g3]
          exact g5
        refine ⟨rfl, { w with heap := w.heap.setIfInBounds l.b (.map (es'.toArray.modify (0 + j) fun e => { e with key := .int kk n, val := ux }) c) }, φ, ?_, ?_⟩
        · simp only [Instr.mapUpdate, Sem.run_bind, run_underlying hu, hgo, h1, h2, h4, h3, Result.andThen, hso]
        · refine Step.put hr (by rw [hb]; rfl) hl (fun _ => trivial) rfl rfl rfl (by simp) (fun b' hne => setObj_block hne) ?_
          refine ⟨es'.modify (0 + j) fun e => { e with key := .int kk n, val := ux }, ?_, ?_⟩
          · rw [hnew]
            congr 2
            apply Array.ext'
            simp
          · rw [Nat.zero_add]
            exact setMapVal_ok hx es es' j e2 hall g3 g5

/-! ### copy, clear -/
theorem writeF_ok {φ : Phi} {h h' : H} {w : World} (hr : HR φ h.get w) {b : Id} {l : Loc} (hl : φ b = some l) {o n size : Nat} {f : Arr → Nat → Arr} {news : List Value} (hsrc : SrcR φ size n f news) {k : H → RV} {v : V} (q : writeF h b o n size f k = .yes v h') :
    ∃ h1, k h1 = .yes v h' ∧ ∃ w', (storeCells (l.at o 0) news).run P w = .ok () w' ∧ Step φ h w φ h1 w' := by
  obtain ⟨ta, na, sz', ro, st, hb, q1⟩ := onArr_yes q noYes
  obtain ⟨hc, q2⟩ := onC_yes q1 noYes
  simp only [andB_eq, Bool.and_eq_true, beq_iff, ble_iff, notB_eq, Bool.not_eq_true'] at hc
  obtain ⟨rfl, rfl, hle⟩ := hc
  obtain ⟨hlt, hbr⟩ := arr_at hr hl hb
  have hown := own_cells hbr
  have hcap := hbr.2.1
  have hm1 : (o + n) * sz' ≤ l.cap * sz' := Nat.mul_le_mul_right _ (by omega)
  rw [Nat.add_mul] at hm1
  have hnl := hsrc.len
  have hcells : ∀ j, j < news.length → (w.cell? ⟨l.b, l.o + o * sz' + 0 + j, none⟩).isSome = true ∧ w.frozen? ⟨l.b, l.o + o * sz' + 0 + j, none⟩ = false := fun j hj => by
    have := hown (o * sz' + j) (by omega)
    rw [show l.o + o * sz' + 0 + j = l.o + (o * sz' + j) by omega]
    exact this
  have hrun := run_storeCells_cells (P := P) l.b (l.o + o * sz') news 0 w (fun j hj => (hcells j hj).1) (fun j hj => (hcells j hj).2) hsrc.one
  have hwr := Wrote.of (w := w) (b := l.b) (o := l.o + o * sz') (us := news) (fun j hj => (hcells j hj).1)
  refine ⟨_, q2, w.setCells l.b (l.o + o * sz') news, ?_, ?_⟩
  · rw [at_off, show l.sz = sz' from hbr.1]
    exact hrun
  · exact Step.put hr (by rw [hb]; rfl) hl (fun _ => trivial) hwr.os hwr.tape hwr.output hwr.size hwr.other (write_br hbr hsrc hle hwr)
theorem copy_ok {φ : Phi} {h h' : H} {w : World} (hr : HR φ h.get w) {ts : Array TypeId} {t ty e : TypeId} {size : Nat} (hts : ts[0]? = some t) (ht : P.underlying t = some (.slice e)) (hn : sizeOf P e = some size) {g k : G} {sl : Slots} {ud us : Value} (hd : VR φ (g.v sl) ud) (hs : VR φ (k.v sl) us) {v : V} (q : (dCopy size g k).v sl h = .yes v h') :
    Yields P φ h w (Builtin.copy_ ts ty #[ud, us]) v h' := by
  obtain ⟨d, hgd, q1⟩ := onSc_yes q noYes
  obtain ⟨s, hks, q2⟩ := onSc_yes q1 noYes
  rw [hgd] at hd
  rw [hks] at hs
  obtain ⟨dl, hdl, q3⟩ := sliceLen_yes q2 noYes
  obtain ⟨sn, hsn, q4⟩ := sliceLen_yes q3 noYes
  have hmin : onC (Nat.ble sn dl) dl sn = Nat.min sn dl := by
    cases hc : Nat.ble sn dl
    · rw [onC_false]
      have : ¬ sn ≤ dl := fun h => by rw [ble_iff.2 h] at hc; cases hc
      exact (Nat.min_eq_right (by omega)).symm
    · rw [onC_true]
      exact (Nat.min_eq_left (ble_iff.1 hc)).symm
  dsimp only at q4
  rw [hmin] at q4
  obtain ⟨ti, hi, hsz, hby, hpos⟩ := sizeOf_ok hn
  obtain ⟨f, news, q5, hsrc, hcells⟩ := source_ok (P := P) hr hs hsn (Nat.min_le_left _ _) q4 noYes
  have hlen := lenOf_ok (P := P) hs hsn w
  have hfc := hcells w rfl
  have main : ∀ (a : Option Addr) (C : Nat) (w' : World), ud = .slice a dl C → (match a with | some a => (storeCells a news).run P w = .ok () w' | none => w' = w) → (Builtin.copy_ ts ty #[ud, us]).run P w = .ok (goInt (Nat.min sn dl)) w' := by
    intro a C w' hud ha
    subst hud
    cases a with
    | none =>
      subst ha
      simp [Builtin.copy_, hts, run_underlying ht, hlen, run_size hi, hsz, hfc]
    | some a =>
      simp only at ha
      simp [Builtin.copy_, hts, run_underlying ht, hlen, run_size hi, hsz, hfc, ha]
  have hzero : Nat.min sn dl = 0 → news = [] := fun h0 => by
    have := hsrc.len
    rw [show min sn dl = 0 from h0, Nat.zero_mul] at this
    exact List.eq_nil_of_length_eq_zero this
  rcases sSlice_yes q5 noYes with ⟨hd', q6⟩ | ⟨b, o, m, c, rfl, q6⟩
  · obtain ⟨rfl, rfl⟩ := yes_inj q6
    have hdz : dl = 0 := by rcases hd' with rfl | rfl <;> cases hdl <;> rfl
    subst hdz
    have h0 : Nat.min sn 0 = 0 := Nat.min_eq_right (Nat.zero_le _)
    have hnn := hzero h0
    have hud : ∃ a C, ud = .slice a 0 C := by
      rcases hd' with rfl | rfl
      · exact ⟨none, 0, hd⟩
      · obtain ⟨a, c, rfl⟩ := hd; exact ⟨_, _, rfl⟩
    obtain ⟨a, C, hud⟩ := hud
    refine Yields.pure hr (main a C w hud ?_) ?_
    · cases a with
      | none => rfl
      | some a => simp only; rw [hnn]; rfl
    · rw [h0]; rfl
  · cases hdl
    obtain ⟨l, C, hl, hud, b1, b2, b3⟩ := sl_val hd
    cases h0 : Nat.beq (Nat.min sn dl) 0
    · rw [h0, onC_false] at q6
      obtain ⟨h1, q7, w', hrun, hstep⟩ := writeF_ok (P := P) hr hl hsrc q6
      obtain ⟨rfl, rfl⟩ := yes_inj q7
      exact ⟨_, w', φ, main _ C w' hud hrun, hstep, rfl⟩
    · rw [h0, onC_true] at q6
      obtain ⟨rfl, rfl⟩ := yes_inj q6
      have h0 := beq_iff.1 h0
      refine Yields.pure hr (main _ C w hud ?_) (by rw [h0]; rfl)
      simp only
      rw [hzero h0]
      rfl
theorem zeros_src {φ : Phi} {size n : Nat} {z : List S} {zv : Value} (hz : All2 (SR φ) z zv.cells.toList) (hl : z.length = size) : SrcR φ size n (moveZ n z) (Builtin.zeroCells zv.cells n).toList := by
  have hsz : zv.cells.size = size := by rw [hz.size, hl]
  refine ⟨⟨fun _ => z, fun d p hp j hj => moveZ_get n z d p hp j hj, fun i hi => ⟨hl, fun g s hg => ?_⟩⟩, by rw [Array.length_toList, size_zeroCells, hsz], fun u hu => ?_⟩
  · obtain ⟨u, h1, h2⟩ := hz.get _ _ hg
    refine ⟨u, ?_, h2⟩
    have hgl : g < size := by rw [← hl]; exact (List.getElem?_eq_some_iff.1 hg).1
    have hlt : i * size + g < n * size := by
      have : (i + 1) * size ≤ n * size := Nat.mul_le_mul_right _ hi
      rw [Nat.add_mul] at this
      omega
    rw [Array.getElem?_toList] at h1 ⊢
    have h8 : (i * size + g) % size = g := by rw [Nat.mul_add_mod', Nat.mod_eq_of_lt hgl]
    have h9 : zv.cells[g]! = u := by rw [getElem!_def, h1]
    simp [Builtin.zeroCells, hsz, hlt, h8, h9]
  · simp only [Builtin.zeroCells, Array.toList_map, List.mem_map] at hu
    obtain ⟨i, hi, rfl⟩ := hu
    have hi' : i < n * zv.cells.size := by simpa using hi
    have hpos : 0 < zv.cells.size := by
      rcases Nat.eq_zero_or_pos zv.cells.size with h0 | h0
      · rw [h0] at hi'; omega
      · exact h0
    have hlt : i % zv.cells.size < zv.cells.size := Nat.mod_lt _ hpos
    have h9 : zv.cells[i % zv.cells.size]! = zv.cells[i % zv.cells.size] := by rw [getElem!_def, Array.getElem?_eq_getElem hlt]
    rw [h9]
    exact hz.one _ (by simp)
theorem clear_ok {φ : Phi} {h h' : H} {w : World} (hr : HR φ h.get w) {ts : Array TypeId} {t ty e : TypeId} {size : Nat} {z : List S} (hts : ts[0]? = some t) (ht : P.underlying t = some (.slice e)) (hz : zeroCells P e = some z) (hn : sizeOf P e = some size) {g : G} {sl : Slots} {u : Value} (hx : VR φ (g.v sl) u) {v : V} (q : (dClear size z g).v sl h = .yes v h') :
    Yields P φ h w (Builtin.clear_ ts ty #[u]) v h' := by
  obtain ⟨s, hgs, q1⟩ := onSc_yes q noYes
  rw [hgs] at hx
  obtain ⟨ti, zv, hi, hzv, hzr, hzl⟩ := zeroCells_ok hz
  obtain ⟨ti', hi', hsz, hby, hpos⟩ := sizeOf_ok hn
  rw [hi] at hi'; cases hi'
  have nothing : ∀ (a : Option Addr) (C : Nat), u = .slice a 0 C → (Builtin.clear_ ts ty #[u]).run P w = .ok Go.undef w := by
    intro a C hu
    subst hu
    cases a <;> simp [Builtin.clear_, hts, run_underlying ht] <;> rfl
  rcases sSlice_yes q1 noYes with ⟨hd', q6⟩ | ⟨b, o, m, c, rfl, q6⟩
  · obtain ⟨rfl, rfl⟩ := yes_inj q6
    rcases hd' with rfl | rfl
    · exact Yields.pure hr (nothing _ _ hx) (VR.undef φ)
    · obtain ⟨a, c, rfl⟩ := hx
      exact Yields.pure hr (nothing _ _ rfl) (VR.undef φ)
  · obtain ⟨l, C, hl, rfl, b1, b2, b3⟩ := sl_val hx
    cases h0 : Nat.beq m 0
    · rw [h0, onC_false] at q6
      obtain ⟨h1, q7, w', hrun, hstep⟩ := writeF_ok (P := P) hr hl (zeros_src (hzr φ) (by omega)) q6
      obtain ⟨rfl, rfl⟩ := yes_inj q7
      have hm : m ≠ 0 := fun e' => by rw [beq_iff.2 e'] at h0; cases h0
      obtain ⟨m, rfl⟩ : ∃ k, m = k + 1 := ⟨m - 1, by omega⟩
      refine ⟨Go.undef, w', φ, ?_, hstep, VR.undef φ⟩
      simp [Builtin.clear_, hts, run_underlying ht, run_zero hi hzv, hrun]
      rfl
    · rw [h0, onC_true] at q6
      obtain ⟨rfl, rfl⟩ := yes_inj q6
      have h0 := beq_iff.1 h0
      subst h0
      exact Yields.pure hr (nothing _ _ rfl) (VR.undef φ)

/-! ### a string's bytes as a new row -/
theorem strBytes_ok {φ : Phi} {h h' : H} {w : World} {src dst e : TypeId} (hs : P.underlying src = some .string) (hd : P.underlying dst = some (.slice e)) (he : P.underlying e = some (.int .u8)) {x : G} {sl : Slots} {u : Value} (hx : VR φ (x.v sl) u) {v : V} (q : (dStrBytes x).v sl h = .yes v h') : Allots P φ h w (convert src dst u) v h' := by
  obtain ⟨s, hsv, q1⟩ := onStr_yes q noYes
  rw [hsv] at hx
  obtain ⟨t, rfl, rfl⟩ := hx
  have hrun := run_bytes_of_string (P := P) w src dst e t hs hd he
  have hge := grownCap_ge w t.size 0 e
  have hfr : Fresh w (w.drew.alloc (.cells (bytesRow t (grownCap w t.size 0 e)) e ((bytesRow t (grownCap w t.size 0 e)).size, (bytesRow t (grownCap w t.size 0 e)).size + 1))) := Fresh.of_drew (Fresh.alloc w.drew _)
  have hsize : (bytesRow t (grownCap w t.size 0 e)).size = grownCap w t.size 0 e := by
    have : t.data.size = t.size := rfl
    simp [bytesRow, this]
    omega
  rw [len_eq, bytesOf_length] at q1
  cases h0 : Nat.beq t.size 0
  · rw [h0, onC_false] at q1
    obtain ⟨h4, h1, e1, gr⟩ := newA_grew q1
    obtain ⟨rfl, rfl⟩ := yes_inj e1
    refine .inl ⟨_, gr, fun hnone => ⟨⟨w.heap.size, 0, 1, grownCap w t.size 0 e⟩, _, _, hrun, hfr, rfl, ⟨rfl, hge, h4, fun i hi => ?_, fun _ => ?_⟩, ⟨_, upd_same _ _ _, by simp only; omega, by simp [Loc.at]⟩⟩⟩
    · rw [moveS_get _ _ _ (by rw [bytesOf_length]; omega) _ (by omega), if_pos (by rw [bytesOf_length]; omega)]
      refine ⟨rfl, fun g s hg => ?_⟩
      cases g with
      | succ g => simp at hg
      | zero =>
        simp only [List.getElem?_cons_zero, Option.some.injEq] at hg
        subst hg
        refine ⟨.int .u8 ((bytesOf t).getD (i - 0) 0 : Nat), ?_, rfl⟩
        have hid : i < t.data.size := hi
        have h6 : (w.drew.alloc (.cells (bytesRow t (grownCap w t.size 0 e)) e ((bytesRow t (grownCap w t.size 0 e)).size, (bytesRow t (grownCap w t.size 0 e)).size + 1))).heap[w.heap.size]? = some (.cells (bytesRow t (grownCap w t.size 0 e)) e ((bytesRow t (grownCap w t.size 0 e)).size, (bytesRow t (grownCap w t.size 0 e)).size + 1)) := alloc_last w.drew _
        have h7 : (bytesRow t (grownCap w t.size 0 e))[i]? = some (.int .u8 (t.data[i].toNat : Int)) := by
          unfold bytesRow
          rw [Array.getElem?_append_left (by simpa using hid), Array.getElem?_map, Array.getElem?_eq_getElem hid]
          rfl
        have h8 : (bytesOf t).getD i 0 = t.data[i].toNat := by
          simp only [bytesOf, List.getD, List.getElem?_map, Array.getElem?_toList, Array.getElem?_eq_getElem hid]
          rfl
        have h9 : (⟨w.heap.size, 0, 1, grownCap w t.size 0 e⟩ : Loc).at i 0 = ⟨w.heap.size, i, none⟩ := by simp [Loc.at]
        rw [h9]
        show World.cell? _ _ = _
        unfold World.cell?
        rw [h6]
        dsimp only
        rw [h7, Nat.sub_zero, h8]
        rfl
    · exact ⟨_, e, _, alloc_last w.drew _, by rw [hsize]; simp, .inr (Nat.le_refl _)⟩
  · rw [h0, onC_true] at q1
    obtain ⟨rfl, rfl⟩ := yes_inj q1
    have h0 := beq_iff.1 h0
    refine .inr ⟨rfl, _, _, hrun, hfr, ?_⟩
    rw [h0]
    exact ⟨_, _, rfl⟩
end Go.Proofs.YtjmdmpfekoinbaaGreat.AMK
