/- The world of a statement that appends to two slices in one struct and stores both back, in whatever order. -/
import Derived.Test.YthfnpakddnnccaaInv
import Derived.Test.YthfnpakddnnccaaFile2
import Derived.Maps.AppendAt
import Derived.Deep.AppendLies
namespace Go.Proofs.Ythfnpakddnnccaa
open Go.RowKit
set_option linter.unusedVariables false

/-- Operations that have come up: built, appended, stored, of the first slice and of the second. -/
structure Fl where
  b1 : Bool
  a1 : Bool
  s1 : Bool
  b2 : Bool
  a2 : Bool
  s2 : Bool
/-- What the region makes: the built one-element slices, the slices behind the appends. -/
structure G4 where
  x1 : Value
  y1 : Value
  x2 : Value
  y2 : Value
/-- What is given: the rows' base, the struct's block, its other cells, the two slices as they were, the new elements, the first new block. -/
structure Two where
  B : Nat
  J : Nat
  F : Value
  fl : Value
  v1 : Value
  n1 : Nat
  xs1 : List Value
  u1 : Value
  v2 : Value
  n2 : Nat
  xs2 : List Value
  u2 : Value
  H0 : Nat
  w0 : World
abbrev STR : TypeId := 9
abbrev INT : TypeId := 3
abbrev JTY : TypeId := 84
structure TwoW (T : Two) (ex : Nat → Prop) (g : G4) (f : Fl) (w : World) : Prop where
  row1 : w.ownsRow T.B STR 1 (if f.a1 then g.y1 else T.v1) (if f.a1 then T.n1 + 1 else T.n1) (if f.a1 then T.xs1 ++ [T.u1] else T.xs1)
  row2 : w.ownsRow T.B INT 1 (if f.a2 then g.y2 else T.v2) (if f.a2 then T.n2 + 1 else T.n2) (if f.a2 then T.xs2 ++ [T.u2] else T.xs2)
  bl1 : f.b1 = true → f.a1 = false → ∃ k, g.x1 = .slice (some ⟨k, 0, none⟩) 1 1 ∧ w.heap[k]? = some (.cells #[T.u1] STR (0, 0)) ∧ some k ≠ T.v1.ownBlock
  bl2 : f.b2 = true → f.a2 = false → ∃ k, g.x2 = .slice (some ⟨k, 0, none⟩) 1 1 ∧ w.heap[k]? = some (.cells #[T.u2] INT (0, 0)) ∧ some k ≠ T.v2.ownBlock
  jb : w.heap[T.J]? = some (.cells #[T.F, (if f.s1 then g.y1 else T.v1), (if f.s2 then g.y2 else T.v2), T.fl] JTY (0, 0))
  keep : ∀ k, k < T.H0 → k ≠ T.J → ¬ ex k → some k ≠ T.v1.ownBlock → some k ≠ T.v2.ownBlock → w.heap[k]? = T.w0.heap[k]?
  size : T.H0 ≤ w.heap.size
  os : w.os = T.w0.os
  tape : w.tape = T.w0.tape
  output : w.output = T.w0.output
  new1 : f.a1 = true → g.y1.ownBlock = T.v1.ownBlock ∨ ∀ k, g.y1.ownBlock = some k → T.H0 ≤ k
  new2 : f.a2 = true → g.y2.ownBlock = T.v2.ownBlock ∨ ∀ k, g.y2.ownBlock = some k → T.H0 ≤ k

theorem own_ty {w : World} {base size n : Nat} {e t : TypeId} {v : Value} {xs : List Value} {k : Nat} {cs : Array Value} {fr : Nat × Nat} (h : w.ownsRow base e size v n xs) (hk : w.heap[k]? = some (.cells cs t fr)) (hne : t ≠ e) : some k ≠ v.ownBlock := by
  intro e'
  rcases h.2 with ⟨rfl, _⟩ | ⟨g, cap, cur, rfl, _, hg, _⟩
  · simp [Value.ownBlock] at e'
  · have : k = g := by simpa [Value.ownBlock] using e'
    subst this
    rw [hk] at hg
    injection hg with hg
    injection hg with _ ht _
    exact hne ht
theorem own_none_or {w : World} {base size n : Nat} {e : TypeId} {v : Value} {xs : List Value} (h : w.ownsRow base e size v n xs) {k : Nat} (hk : v.ownBlock = some k) : k < w.heap.size ∧ ∃ cur, w.heap[k]? = some (.cells cur e (0, 0)) := by
  rcases h.2 with ⟨rfl, _⟩ | ⟨g, cap, cur, rfl, _, hg, _⟩
  · simp [Value.ownBlock] at hk
  · have : g = k := by simpa [Value.ownBlock] using hk
    subst this
    exact ⟨(Array.getElem?_eq_some_iff.1 hg).1, cur, hg⟩
theorem own_grown {w w' : World} {base size n : Nat} {e e' : TypeId} {v v' : Value} {xs : List Value} {n' size' base' : Nat} {xs' : List Value} (h : w.ownsRow base e size v n xs) (h' : w.ownsRow base' e' size' v' n' xs') (hne : e ≠ e') (hg : w.grownBy w' v'.ownBlock) : w'.ownsRow base e size v n xs :=
  row_touch h fun k hk hlt => hg.block k hlt (by
    obtain ⟨_, cur, hc⟩ := own_none_or h hk
    exact own_ty h' hc hne)
theorem own_alloc {w : World} {base size n : Nat} {e : TypeId} {v : Value} {xs : List Value} (h : w.ownsRow base e size v n xs) (o : Obj) : w.ownsRow base e size v n xs → (w.alloc o).ownsRow base e size v n xs := fun h => h.alloc o
theorem heap_alloc_old {w : World} {o o' : Obj} {k : Nat} (h : w.heap[k]? = some o') : (w.alloc o).heap[k]? = some o' := (Below.heap_alloc w o k (Array.getElem?_eq_some_iff.1 h).1).trans h
theorem TwoW.drew {T : Two} {ex : Nat → Prop} {g : G4} {f : Fl} {w : World} (h : TwoW T ex g f w) : TwoW T ex g f w.drew := ⟨h.row1, h.row2, h.bl1, h.bl2, h.jb, h.keep, h.size, h.os, h.tape, h.output, h.new1, h.new2⟩

theorem TwoW.build1 {T : Two} {ex : Nat → Prop} {g : G4} {f : Fl} {w : World} (h : TwoW T ex g f w) (hb : f.b1 = false) (ha : f.a1 = false) :
    TwoW T ex { g with x1 := .slice (some ⟨w.heap.size, 0, none⟩) 1 1 } { f with b1 := true } (w.alloc (.cells #[T.u1] STR)) := by
  refine ⟨h.row1.alloc _, h.row2.alloc _, ?_, ?_, heap_alloc_old h.jb, fun k hk h1 h2 h3 h4 => ?_, by rw [World.size_alloc]; exact Nat.le_succ_of_le h.size, h.os, h.tape, h.output, h.new1, h.new2⟩
  · intro _ _
    refine ⟨w.heap.size, rfl, heap_alloc_last w _, fun e => ?_⟩
    have hrow := h.row1
    simp only [ha, Bool.false_eq_true, if_false] at hrow
    have := (own_none_or hrow e.symm).1
    omega
  · intro hb' ha'
    obtain ⟨k, e1, e2, e3⟩ := h.bl2 hb' ha'
    exact ⟨k, e1, heap_alloc_old e2, e3⟩
  · have hlt : k < w.heap.size := Nat.lt_of_lt_of_le hk h.size
    exact (Below.heap_alloc w _ k hlt).trans (h.keep k hk h1 h2 h3 h4)
theorem TwoW.append1 {T : Two} {ex : Nat → Prop} {g : G4} {f : Fl} {w w1 : World} {y : Value} (h : TwoW T ex g f w) (ha : f.a1 = false) (hs : f.s1 = false)
    (hown : w1.ownsRow T.B STR 1 y (T.n1 + 1) (T.xs1 ++ [T.u1])) (hgrow : w.grownBy w1 T.v1.ownBlock) (hnew : y.ownBlock = T.v1.ownBlock ∨ ∀ k, y.ownBlock = some k → T.H0 ≤ k) : TwoW T ex { g with y1 := y } { f with a1 := true } w1 := by
  have hrow := h.row1
  simp only [ha, Bool.false_eq_true, if_false] at hrow
  have hold : ∀ (k : Nat) (cs : Array Value) (t : TypeId) (fr : Nat × Nat), w.heap[k]? = some (Obj.cells cs t fr) → t ≠ STR → w1.heap[k]? = some (Obj.cells cs t fr) := fun k cs t fr hk hne => (hgrow.block k (Array.getElem?_eq_some_iff.1 hk).1 (own_ty hrow hk hne)).trans hk
  refine ⟨by simpa using hown, own_grown h.row2 hrow (by decide) hgrow, ?_, ?_, ?_, fun k hk h1 h2 h3 h4 => ?_, Nat.le_trans h.size hgrow.size, hgrow.os.trans h.os, hgrow.tape.trans h.tape, hgrow.output.trans h.output, fun _ => hnew, h.new2⟩
  · intro _ ha'
    exact absurd ha' (by show ¬ (true = false); decide)
  · intro hb' ha'
    obtain ⟨k, e1, e2, e3⟩ := h.bl2 hb' ha'
    exact ⟨k, e1, hold _ _ _ _ e2 (by decide), e3⟩
  · have := hold _ _ _ _ h.jb (by decide)
    simp only [hs, Bool.false_eq_true, if_false] at this ⊢
    exact this
  · exact (hgrow.block k (Nat.lt_of_lt_of_le hk h.size) h3).trans (h.keep k hk h1 h2 h3 h4)
theorem TwoW.store1 {T : Two} {ex : Nat → Prop} {g : G4} {f : Fl} {w : World} (h : TwoW T ex g f w) (ha : f.a1 = true) : TwoW T ex g { f with s1 := true } (w.setCell ⟨T.J, 1, none⟩ g.y1) := by
  have hj := h.jb
  have hne : ∀ (k : Nat) (cs : Array Value) (t : TypeId) (fr : Nat × Nat), w.heap[k]? = some (Obj.cells cs t fr) → t ≠ JTY → (w.setCell ⟨T.J, 1, none⟩ g.y1).heap[k]? = some (Obj.cells cs t fr) := fun k cs t fr hk ht => by
    rw [setCell_far _ _ _ _ _ (by rintro rfl; rw [hj] at hk; injection hk with hk; injection hk with _ e _; exact ht e.symm)]
    exact hk
  refine ⟨row_touch h.row1 fun k hk hlt => setCell_far _ _ _ _ _ ?_, row_touch h.row2 fun k hk hlt => setCell_far _ _ _ _ _ ?_, fun hb hA => ?_, fun hb hA => ?_, ?_, fun k hk h1 h2 h3 h4 => (setCell_far _ _ _ _ _ h1).trans (h.keep k hk h1 h2 h3 h4),
    by show T.H0 ≤ (w.heap.modify T.J _).size; rw [Array.size_modify]; exact h.size, h.os, h.tape, h.output, h.new1, h.new2⟩
  · rintro rfl
    obtain ⟨_, cur, hc⟩ := own_none_or h.row1 hk
    rw [hj] at hc
    injection hc with hc
    injection hc with _ e _
    exact absurd e (by decide)
  · rintro rfl
    obtain ⟨_, cur, hc⟩ := own_none_or h.row2 hk
    rw [hj] at hc
    injection hc with hc
    injection hc with _ e _
    exact absurd e (by decide)
  · obtain ⟨k, e1, e2, e3⟩ := h.bl1 hb hA
    exact ⟨k, e1, hne _ _ _ _ e2 (by decide), e3⟩
  · obtain ⟨k, e1, e2, e3⟩ := h.bl2 hb hA
    exact ⟨k, e1, hne _ _ _ _ e2 (by decide), e3⟩
  · rw [heap_setCell hj 1 g.y1]
    rfl

theorem TwoW.opAppend1 {T : Two} {ex : Nat → Prop} {g : G4} {f : Fl} {w : World} {o : Oper} {a : Act} {K : Act → World → Prop} {Q : Exit → Act → World → Prop} (h : TwoW T ex g f w) (hb : f.b1 = true) (ha : f.a1 = false) (hs : f.s1 = false) (s x : Operand)
    (ho : o.op = .call { callee := .builtin .append, args := #[s, x], argTypes := #[35, 35] }) (es : a.eval s = T.v1) (exx : a.eval x = g.x1) (hu : T.u1.oneCell' = true) (hn : T.n1 + 1 ≤ 1000000) (hB : T.B ≤ T.H0)
    (next : ∀ k c w1, TwoW T ex { g with y1 := .slice (some ⟨k, 0, none⟩) (T.n1 + 1) c } { f with a1 := true } w1 → K (a.put o.dst (.slice (some ⟨k, 0, none⟩) (T.n1 + 1) c)) w1) : o.wp Try.prog a w K Q := by
  obtain ⟨i0, hi, hz0, hz1, hz2⟩ := info_parts (show (Try.prog.info? STR).map (fun i => (i.zero, i.size, i.bytes)) = some (some (.string ⟨#[]⟩), 1, 16) from by kernel_rfl)
  obtain ⟨k, e1, e2, e3⟩ := h.bl1 hb ha
  have hrow := h.row1
  simp only [ha, Bool.false_eq_true, if_false] at hrow
  refine wp_append_lies w s x 35 ho T.B STR i0 _ 1 16 Try.underlying35 hi hz0 hz1 hz2 rfl (by decide) T.v1 T.n1 T.xs1 es hrow ⟨k, 0, none⟩ 1 1 [T.u1] (exx.trans e1) rfl ?_ (by simpa using hu) (by decide) (by unfold maxLen; omega) (by omega) (Nat.le_trans hB h.size) w.heap.size rfl ?_
  · intro j u hj
    have hadd : (⟨k, 0, none⟩ : Addr).add j = ⟨k, j, none⟩ := by unfold Addr.add; split <;> simp_all
    rw [hadd, cell_of_row w k j _ _ _ e2]
    simpa using hj
  · intro k' c w1 hown hgrow hor _
    refine next k' c w1 (h.append1 ha hs hown hgrow ?_)
    rcases hor with e | e
    · exact .inl (by rw [e]; rfl)
    · exact .inr (fun j hj => by have h1 : k' = j := by simpa [Value.ownBlock] using hj
                                 have := h.size; omega)

theorem TwoW.build2 {T : Two} {ex : Nat → Prop} {g : G4} {f : Fl} {w : World} (h : TwoW T ex g f w) (hb : f.b2 = false) (ha : f.a2 = false) :
    TwoW T ex { g with x2 := .slice (some ⟨w.heap.size, 0, none⟩) 1 1 } { f with b2 := true } (w.alloc (.cells #[T.u2] INT)) := by
  refine ⟨h.row1.alloc _, h.row2.alloc _, ?_, ?_, heap_alloc_old h.jb, fun k hk h1 h2 h3 h4 => ?_, by rw [World.size_alloc]; exact Nat.le_succ_of_le h.size, h.os, h.tape, h.output, h.new1, h.new2⟩
  · intro hb' ha'
    obtain ⟨k, e1, e2, e3⟩ := h.bl1 hb' ha'
    exact ⟨k, e1, heap_alloc_old e2, e3⟩
  · intro _ _
    refine ⟨w.heap.size, rfl, heap_alloc_last w _, fun e => ?_⟩
    have hrow := h.row2
    simp only [ha, Bool.false_eq_true, if_false] at hrow
    have := (own_none_or hrow e.symm).1
    omega
  · have hlt : k < w.heap.size := Nat.lt_of_lt_of_le hk h.size
    exact (Below.heap_alloc w _ k hlt).trans (h.keep k hk h1 h2 h3 h4)
theorem TwoW.append2 {T : Two} {ex : Nat → Prop} {g : G4} {f : Fl} {w w1 : World} {y : Value} (h : TwoW T ex g f w) (ha : f.a2 = false) (hs : f.s2 = false)
    (hown : w1.ownsRow T.B INT 1 y (T.n2 + 1) (T.xs2 ++ [T.u2])) (hgrow : w.grownBy w1 T.v2.ownBlock) (hnew : y.ownBlock = T.v2.ownBlock ∨ ∀ k, y.ownBlock = some k → T.H0 ≤ k) : TwoW T ex { g with y2 := y } { f with a2 := true } w1 := by
  have hrow := h.row2
  simp only [ha, Bool.false_eq_true, if_false] at hrow
  have hold : ∀ (k : Nat) (cs : Array Value) (t : TypeId) (fr : Nat × Nat), w.heap[k]? = some (Obj.cells cs t fr) → t ≠ INT → w1.heap[k]? = some (Obj.cells cs t fr) := fun k cs t fr hk hne => (hgrow.block k (Array.getElem?_eq_some_iff.1 hk).1 (own_ty hrow hk hne)).trans hk
  refine ⟨own_grown h.row1 hrow (by decide) hgrow, by simpa using hown, ?_, ?_, ?_, fun k hk h1 h2 h3 h4 => ?_, Nat.le_trans h.size hgrow.size, hgrow.os.trans h.os, hgrow.tape.trans h.tape, hgrow.output.trans h.output, h.new1, fun _ => hnew⟩
  · intro hb' ha'
    obtain ⟨k, e1, e2, e3⟩ := h.bl1 hb' ha'
    exact ⟨k, e1, hold _ _ _ _ e2 (by decide), e3⟩
  · intro _ ha'
    exact absurd ha' (by show ¬ (true = false); decide)
  · have := hold _ _ _ _ h.jb (by decide)
    simp only [hs, Bool.false_eq_true, if_false] at this ⊢
    exact this
  · exact (hgrow.block k (Nat.lt_of_lt_of_le hk h.size) h4).trans (h.keep k hk h1 h2 h3 h4)
theorem TwoW.store2 {T : Two} {ex : Nat → Prop} {g : G4} {f : Fl} {w : World} (h : TwoW T ex g f w) (ha : f.a2 = true) : TwoW T ex g { f with s2 := true } (w.setCell ⟨T.J, 2, none⟩ g.y2) := by
  have hj := h.jb
  have hne : ∀ (k : Nat) (cs : Array Value) (t : TypeId) (fr : Nat × Nat), w.heap[k]? = some (Obj.cells cs t fr) → t ≠ JTY → (w.setCell ⟨T.J, 2, none⟩ g.y2).heap[k]? = some (Obj.cells cs t fr) := fun k cs t fr hk ht => by
    rw [setCell_far _ _ _ _ _ (by rintro rfl; rw [hj] at hk; injection hk with hk; injection hk with _ e _; exact ht e.symm)]
    exact hk
  refine ⟨row_touch h.row1 fun k hk hlt => setCell_far _ _ _ _ _ ?_, row_touch h.row2 fun k hk hlt => setCell_far _ _ _ _ _ ?_, fun hb hA => ?_, fun hb hA => ?_, ?_, fun k hk h1 h2 h3 h4 => (setCell_far _ _ _ _ _ h1).trans (h.keep k hk h1 h2 h3 h4),
    by show T.H0 ≤ (w.heap.modify T.J _).size; rw [Array.size_modify]; exact h.size, h.os, h.tape, h.output, h.new1, h.new2⟩
  · rintro rfl
    obtain ⟨_, cur, hc⟩ := own_none_or h.row1 hk
    rw [hj] at hc
    injection hc with hc
    injection hc with _ e _
    exact absurd e (by decide)
  · rintro rfl
    obtain ⟨_, cur, hc⟩ := own_none_or h.row2 hk
    rw [hj] at hc
    injection hc with hc
    injection hc with _ e _
    exact absurd e (by decide)
  · obtain ⟨k, e1, e2, e3⟩ := h.bl1 hb hA
    exact ⟨k, e1, hne _ _ _ _ e2 (by decide), e3⟩
  · obtain ⟨k, e1, e2, e3⟩ := h.bl2 hb hA
    exact ⟨k, e1, hne _ _ _ _ e2 (by decide), e3⟩
  · rw [heap_setCell hj 2 g.y2]
    rfl

theorem TwoW.opAppend2 {T : Two} {ex : Nat → Prop} {g : G4} {f : Fl} {w : World} {o : Oper} {a : Act} {K : Act → World → Prop} {Q : Exit → Act → World → Prop} (h : TwoW T ex g f w) (hb : f.b2 = true) (ha : f.a2 = false) (hs : f.s2 = false) (s x : Operand)
    (ho : o.op = .call { callee := .builtin .append, args := #[s, x], argTypes := #[82, 82] }) (es : a.eval s = T.v2) (exx : a.eval x = g.x2) (hu : T.u2.oneCell' = true) (hn : T.n2 + 1 ≤ 1000000) (hB : T.B ≤ T.H0)
    (next : ∀ k c w1, TwoW T ex { g with y2 := .slice (some ⟨k, 0, none⟩) (T.n2 + 1) c } { f with a2 := true } w1 → K (a.put o.dst (.slice (some ⟨k, 0, none⟩) (T.n2 + 1) c)) w1) : o.wp Try.prog a w K Q := by
  obtain ⟨i0, hi, hz0, hz1, hz2⟩ := info_parts (show (Try.prog.info? INT).map (fun i => (i.zero, i.size, i.bytes)) = some (some (.int .i64 0), 1, 8) from by kernel_rfl)
  obtain ⟨k, e1, e2, e3⟩ := h.bl2 hb ha
  have hrow := h.row2
  simp only [ha, Bool.false_eq_true, if_false] at hrow
  refine wp_append_lies w s x 82 ho T.B INT i0 _ 1 8 Try.underlying82 hi hz0 hz1 hz2 rfl (by decide) T.v2 T.n2 T.xs2 es hrow ⟨k, 0, none⟩ 1 1 [T.u2] (exx.trans e1) rfl ?_ (by simpa using hu) (by decide) (by unfold maxLen; omega) (by omega) (Nat.le_trans hB h.size) w.heap.size rfl ?_
  · intro j u hj
    have hadd : (⟨k, 0, none⟩ : Addr).add j = ⟨k, j, none⟩ := by unfold Addr.add; split <;> simp_all
    rw [hadd, cell_of_row w k j _ _ _ e2]
    simpa using hj
  · intro k' c w1 hown hgrow hor _
    refine next k' c w1 (h.append2 ha hs hown hgrow ?_)
    rcases hor with e | e
    · exact .inl (by rw [e]; rfl)
    · exact .inr (fun j hj => by have h1 : k' = j := by simpa [Value.ownBlock] using hj
                                 have := h.size; omega)
end Go.Proofs.Ythfnpakddnnccaa
