/- What Chord does with each spelling: the closure, Clone; contracts. -/
import Derived.Test.YtdmhjcnijebfgaaSrchord
import Derived.Test.YtdmhjcnijebfgaaSrow
import Derived.Deep.AppendLies
import Derived.Lib.SliceRun
namespace Go.Proofs.Ytdmhjcnijebfgaa
open Go.RowKit
set_option linter.unusedVariables false

theorem isFM_one {α : Type} (h : α → Int) (y : α) : IsFM h y [y] := ⟨[], [], rfl, fun _ hz => (by cases hz), fun _ hz => (by cases hz)⟩
theorem isFM_snoc_less {α : Type} {h : α → Int} {x y : α} {L : List α} (hx : IsFM h x L) (hl : h y < h x) : IsFM h y (L ++ [y]) :=
  ⟨L, [], rfl, fun z hz => Int.lt_of_lt_of_le hl (hx.le hz), fun _ hz => (by cases hz)⟩
theorem isFM_snoc_more {α : Type} {h : α → Int} {x y : α} {L : List α} (hx : IsFM h x L) (hl : ¬ h y < h x) : IsFM h x (L ++ [y]) := by
  obtain ⟨pre, post, rfl, h1, h2⟩ := hx
  refine ⟨pre, post ++ [y], by simp, h1, fun z hz => ?_⟩
  rcases List.mem_append.1 hz with hz | hz
  · exact h2 z hz
  · rw [List.mem_singleton.1 hz]; omega

/-- Nothing that was there is turned but the blocks X and Y. -/
structure Bt (X Y : Nat) (w w' : World) : Prop where
  os : w'.os = w.os
  tape : w'.tape = w.tape
  output : w'.output = w.output
  size : w.heap.size ≤ w'.heap.size
  block : ∀ k, k < w.heap.size → k ≠ X → k ≠ Y → w'.heap[k]? = w.heap[k]?
theorem Bt.of {X Y : Nat} {w w' : World} (h : Below w.heap.size w w') : Bt X Y w w' := ⟨h.os, h.tape, h.output, h.size, fun k hk _ _ => h.block k hk⟩
theorem Bt.refl (X Y : Nat) (w : World) : Bt X Y w w := Bt.of (Below.refl _ _)
theorem Bt.trans {X Y : Nat} {w w' w'' : World} (h : Bt X Y w w') (k : Bt X Y w' w'') : Bt X Y w w'' :=
  ⟨k.os.trans h.os, k.tape.trans h.tape, k.output.trans h.output, Nat.le_trans h.size k.size, fun i hi h1 h2 => (k.block i (Nat.lt_of_lt_of_le hi h.size) h1 h2).trans (h.block i hi h1 h2)⟩
theorem Bt.set {X Y Z : Nat} {w w' : World} (h : Bt X Y w w') (hZ : Z = X ∨ Z = Y) (i : Nat) (u : Value) : Bt X Y w (w'.setCell ⟨Z, i, none⟩ u) :=
  ⟨h.os, h.tape, h.output, by show w.heap.size ≤ (w'.heap.modify Z _).size; rw [Array.size_modify]; exact h.size, fun k hk h1 h2 => (setCell_far _ _ _ _ _ (by rcases hZ with rfl | rfl <;> assumption)).trans (h.block k hk h1 h2)⟩
theorem Bt.below {X Y B : Nat} {w w' : World} (h : Bt X Y w w') (hB : B ≤ w.heap.size) (hX : B ≤ X) (hY : B ≤ Y) : Below B w w' :=
  ⟨h.os, h.tape, h.output, h.size, fun k hk => h.block k (by omega) (by omega) (by omega)⟩
/-- The boxes of Chord: the best spelling so far, none at first, and its weight. -/
def BoxS (f : Int) (X Y : Nat) (Ys : List (List Pit)) (w : World) : Prop :=
  ∃ (v : Value) (m : Int), w.heap[X]? = some (.cells #[v] PITS (0, 0)) ∧ w.heap[Y]? = some (.cells #[.int .i64 m] INT (0, 0)) ∧
    ((Ys = [] ∧ v = .slice none 0 0) ∨ ∃ y, IsFM (wtQ f) y Ys ∧ m = wtQ f y ∧ 0 < y.length ∧ SlP w v y)
theorem SlP.keptBt {X Y : Nat} {w w' : World} {v u : Value} {m : Int} {y : List Pit} (h : SlP w v y) (hk : Bt X Y w w') (hX : w.heap[X]? = some (.cells #[u] PITS (0, 0))) (hY : w.heap[Y]? = some (.cells #[.int .i64 m] INT (0, 0))) : SlP w' v y :=
  h.keep fun b cs' fr' hh => (hk.block b (heap_lt hh) (by
    rintro rfl
    rw [hX] at hh
    injection hh with hh
    injection hh with _ h2 _
    exact absurd h2 (by decide)) (by
    rintro rfl
    rw [hY] at hh
    injection hh with hh
    injection hh with _ h2 _
    exact absurd h2 (by decide))).trans hh
theorem BoxS.below {f : Int} {X Y : Nat} {Ys : List (List Pit)} {w w' : World} (h : BoxS f X Y Ys w) (hb : Below w.heap.size w w') : BoxS f X Y Ys w' := by
  obtain ⟨v, m, h1, h2, h3⟩ := h
  refine ⟨v, m, (hb.block _ (heap_lt h1)).trans h1, (hb.block _ (heap_lt h2)).trans h2, ?_⟩
  rcases h3 with h3 | ⟨y, g1, g2, g3, g4⟩
  · exact .inl h3
  · exact .inr ⟨y, g1, g2, g3, SlT.below g4 hb⟩

theorem pitC_one (L : List Pit) : ∀ u ∈ pitsC L, u.oneCell' = true := by
  intro u hu
  unfold pitsC at hu
  obtain ⟨p, _, hp⟩ := List.mem_flatMap.1 hu
  unfold pitC at hp
  simp at hp
  rcases hp with rfl | rfl | rfl <;> rfl
/-- 'append([]Pitch{}, src...)'. -/
theorem wpList_appA {ops : Array Oper} {rest : List Oper} {o : Oper} {a : Act} {Q : Exit → Act → World → Prop} (hgd : o.guard = none) (s x : Operand)
    (ho : o.op = .call { callee := .builtin .append, args := #[s, x], argTypes := #[24, 24] })
    {w : World} {A : Option Addr} {c : Nat} {L : List Pit} (hrd : Rd w w.heap.size A (pitsC L)) (hpos : 0 < L.length) (hl : L.length ≤ 1000)
    (hs : a.eval s = .slice (some ⟨w.heap.size, 0, none⟩) 0 0) (hx : a.eval x = .slice A L.length c)
    (next : ∀ v w', AccP w w' v L → wpList Try.prog ops Q rest (a.put o.dst v) w') : wpList Try.prog ops Q (o :: rest) a (w.alloc (.cells #[] PIT)) := by
  obtain ⟨i0, hi0, hz, hz1, hz2⟩ := info_parts infoPit
  have hb : Below w.heap.size w (w.alloc (.cells #[] PIT)) := (Below.refl _ w).alloc (Nat.le_refl _) _
  have hown : (w.alloc (.cells #[] PIT)).ownsRow w.heap.size PIT 3 (.slice (some ⟨w.heap.size, 0, none⟩) 0 0) 0 [] := ⟨rfl, .inr ⟨w.heap.size, 0, #[], rfl, Nat.le_refl _, heap_alloc_last w _, by decide, by decide, rfl, rfl⟩⟩
  obtain ⟨b, off, rfl, _, hc⟩ := rd_pos (rd_keep hrd hb) (by rw [pitsC_len]; omega)
  refine wpList_append_lies _ hgd s x 24 ho w.heap.size PIT i0 _ 3 24 Try.underlying24 hi0 hz hz1 hz2 rfl (by decide) _ 0 [] hs hown ⟨b, off, none⟩ L.length c (pitsC L) hx (pitsC_len L) ?_ (pitC_one L) hpos
    (by unfold maxLen; omega) (by omega) hb.size _ rfl ?_
  · intro j u hj
    have hadd : (⟨b, off, none⟩ : Addr).add j = ⟨b, off + j, none⟩ := by unfold Addr.add; split <;> simp_all
    rw [hadd]
    exact hc j u hj
  · intro g cap w' hown' hgrow _ _
    rw [Nat.zero_add, List.nil_append] at hown'
    rw [Nat.zero_add]
    exact next _ w' ⟨hown', hb.grown hgrow hb.size (fun k hk => (hown.lt k hk).1)⟩
def ClPost (w : World) (L : List Pit) (e : Ending) (w' : World) : Prop := ∃ v, e = .returned v ∧ AccP w w' v L
theorem clone_any (A : Option Addr) (c : Nat) (L : List Pit) (w : World) (hA : Rd w w.heap.size A (pitsC L)) (hpos : 0 < L.length) (hl : L.length ≤ 1000) :
    Calls Try.prog 45 #[.slice A L.length c] w (ClPost w L) := by
  obtain ⟨b, off, hAe, _⟩ := rd_pos hA (by rw [pitsC_len]; omega)
  have HA := Lib.hid hA
  clear hA
  subst hAe
  have qT : ∀ w : World, (binOp .eql 24 (.slice (some ⟨b, off, none⟩) L.length c) (.slice none 0 0)).run Try.prog w = .ok (.bool false) w := fun w => Lib.run_eql_slice_nil w 24 35 (some ⟨b, off, none⟩) L.length c 0 0 (by kernel_rfl)
  go_enter Try.func45, Try.ntmps45
  go_wp2_with (at_builtin; refine wpList_appA rfl _ _ rfl HA.out hpos hl (by rfl) (by rfl) ?_; intro v3 w3 hacc3)
  go_returns
  exact ⟨_, rfl, hacc3⟩

theorem cell0 {w : World} {b : Nat} {v : Value} {t : TypeId} (h : w.heap[b]? = some (.cells #[v] t (0, 0))) : w.cell? ⟨b, 0, none⟩ = some v ∧ w.frozen? ⟨b, 0, none⟩ = false := by
  constructor
  · rw [cell_of_row w b 0 _ _ _ h]; rfl
  · simp [World.frozen?, h]
theorem BoxS.put {f : Int} {X Y : Nat} {Ys : List (List Pit)} {w : World} {v v' : Value} {m n : Int} {y : List Pit} (hXY : X ≠ Y) (hX : w.heap[X]? = some (.cells #[v] PITS (0, 0))) (hY : w.heap[Y]? = some (.cells #[.int .i64 m] INT (0, 0)))
    (hn : n = wtQ f y) (hf : IsFM (wtQ f) y Ys) (hp : 0 < y.length) (hs : SlP w v' y) : BoxS f X Y Ys ((w.setCell ⟨X, 0, none⟩ v').setCell ⟨Y, 0, none⟩ (.int .i64 n)) := by
  have hb : Bt X Y w ((w.setCell ⟨X, 0, none⟩ v').setCell ⟨Y, 0, none⟩ (.int .i64 n)) := ((Bt.refl X Y w).set (.inl rfl) _ _).set (.inr rfl) _ _
  refine ⟨v', n, ?_, ?_, .inr ⟨y, hf, hn, hp, hs.keptBt hb hX hY⟩⟩
  · rw [setCell_far _ _ _ _ _ hXY, heap_setCell hX]; rfl
  · have h1 : (w.setCell ⟨X, 0, none⟩ v').heap[Y]? = some (.cells #[.int .i64 m] INT (0, 0)) := (setCell_far _ _ _ _ _ (fun e => hXY e.symm)).trans hY
    rw [heap_setCell h1]; rfl
set_option maxHeartbeats 4000000 in
theorem found_any (B X Y : Nat) (f : Int) (A : Option Addr) (c : Nat) (y : List Pit) (Ys : List (List Pit)) (w : World) (hf : -7 ≤ f) (hf' : f ≤ 7) (hy : Rd w w.heap.size A (pitsC y)) (hpos : 0 < y.length) (hl : y.length ≤ 100) (hok : ∀ p ∈ y, okQ p)
    (hXY : X ≠ Y) (hB : w.cell? ⟨B, 0, none⟩ = some (.int .i64 f)) (hS : BoxS f X Y Ys w) :
    Calls Try.prog 43 #[.slice A y.length c, .pointer (some ⟨B, 0, none⟩), .pointer (some ⟨X, 0, none⟩), .pointer (some ⟨Y, 0, none⟩)] w fun e w' => e = .returned (.tuple #[]) ∧ Bt X Y w w' ∧ BoxS f X Y (Ys ++ [y]) w' := by
  have hBl : B < w.heap.size := World.block_lt_of_cell? _ _ hB
  obtain ⟨v, m, hX, hY, hS⟩ := hS
  have HX := Lib.hid hX
  have HY := Lib.hid hY
  have HS := Lib.hid hS
  have Hy := Lib.hid hy
  have Hok := Lib.hid hok
  clear hX hY hS hy hok
  go_enter Try.func43, Try.ntmps43
  go_wp2_with fail
  refine (ccost_any A c y f w hf hf' Hy.out hpos hl Hok.out).mono ?_
  rintro e w1 ⟨rfl, hb1⟩
  have hX1 := (hb1.block _ (heap_lt HX.out)).trans HX.out
  have hY1 := (hb1.block _ (heap_lt HY.out)).trans HY.out
  have cX : w1.cell? ⟨X, 0, none⟩ = some v := by rw [cell_of_row w1 X 0 _ _ _ hX1]; rfl
  have cY : w1.cell? ⟨Y, 0, none⟩ = some (.int .i64 m) := by rw [cell_of_row w1 Y 0 _ _ _ hY1]; rfl
  rcases HS.out with ⟨h1, h2⟩ | ⟨z, g1, g2, g3, g4⟩
  · subst h2
    have qT : ∀ w : World, (binOp .eql 24 (.slice none 0 0) (.slice none 0 0)).run Try.prog w = .ok (.bool true) w := fun w => Lib.run_eql_slice_nil w 24 35 none 0 0 0 0 (by kernel_rfl)
    go_wp2_with fail
    refine (clone_any A c y w1 (rd_below Hy.out hb1) hpos (by omega)).mono ?_
    rintro e w3 ⟨v3, rfl, hacc⟩
    obtain ⟨A3, c3, hv3, _, _, _⟩ := acc_form hacc
    have hs3 : SlP w3 v3 y := SlT.own hacc.own
    have hb3 := hacc.below
    subst hv3
    have hX3 := (hb3.block _ (heap_lt hX1)).trans hX1
    have hY3 := (hb3.block _ (heap_lt hY1)).trans hY1
    have hY4 : (w3.setCell ⟨X, 0, none⟩ (.slice A3 y.length c3)).heap[Y]? = some (.cells #[.int .i64 m] INT (0, 0)) := (setCell_far _ _ _ _ _ (fun e => hXY e.symm)).trans hY3
    obtain ⟨cX3, fX3⟩ := cell0 hX3
    obtain ⟨cY4, fY4⟩ := cell0 hY4
    have HP := Lib.hid (BoxS.put (f := f) (Ys := Ys ++ [y]) hXY hX3 hY3 rfl (by rw [h1]; exact isFM_one _ _) hpos hs3)
    have HB := Lib.hid ((((Bt.of (X := X) (Y := Y) hb1).trans (Bt.of hb3)).set (.inl rfl) 0 (.slice A3 y.length c3)).set (.inr rfl) 0 (.int .i64 (wtQ f y)))
    clear hX1 hY1 cX cY hX3 hY3 hY4 hs3 hacc hb3 hb1
    go_wp2_with fail
    go_returns
    exact ⟨rfl, HB.out, HP.out⟩
  · obtain ⟨A0, c0, hv, _, _, hr⟩ := SlT.rd g4
    obtain ⟨b0, o0, hA0, _⟩ := rd_pos hr (by rw [pitsC_len]; omega)
    subst hA0
    subst hv
    subst g2
    have qT : ∀ w : World, (binOp .eql 24 (.slice (some ⟨b0, o0, none⟩) z.length c0) (.slice none 0 0)).run Try.prog w = .ok (.bool false) w := fun w => Lib.run_eql_slice_nil w 24 35 (some ⟨b0, o0, none⟩) z.length c0 0 0 (by kernel_rfl)
    have G4 := Lib.hid g4
    have G1 := Lib.hid g1
    clear hr g4 g1
    by_cases hlt : wtQ f y < wtQ f z
    · go_wp2_with fail
      refine (clone_any A c y w1 (rd_below Hy.out hb1) hpos (by omega)).mono ?_
      rintro e w3 ⟨v3, rfl, hacc⟩
      obtain ⟨A3, c3, hv3, _, _, _⟩ := acc_form hacc
      have hs3 : SlP w3 v3 y := SlT.own hacc.own
      have hb3 := hacc.below
      subst hv3
      have hX3 := (hb3.block _ (heap_lt hX1)).trans hX1
      have hY3 := (hb3.block _ (heap_lt hY1)).trans hY1
      have hY4 : (w3.setCell ⟨X, 0, none⟩ (.slice A3 y.length c3)).heap[Y]? = some (.cells #[.int .i64 (wtQ f z)] INT (0, 0)) := (setCell_far _ _ _ _ _ (fun e => hXY e.symm)).trans hY3
      obtain ⟨cX3, fX3⟩ := cell0 hX3
      obtain ⟨cY4, fY4⟩ := cell0 hY4
      have HP := Lib.hid (BoxS.put (f := f) (Ys := Ys ++ [y]) hXY hX3 hY3 rfl (isFM_snoc_less G1.out hlt) hpos hs3)
      have HB := Lib.hid ((((Bt.of (X := X) (Y := Y) hb1).trans (Bt.of hb3)).set (.inl rfl) 0 (.slice A3 y.length c3)).set (.inr rfl) 0 (.int .i64 (wtQ f y)))
      clear hX1 hY1 cX cY hX3 hY3 hY4 hs3 hacc hb3 hb1
      go_wp2_with fail
      go_returns
      exact ⟨rfl, HB.out, HP.out⟩
    · go_wp2_with fail
      go_returns
      exact ⟨rfl, Bt.of hb1, _, _, hX1, hY1, .inr ⟨z, isFM_snoc_more G1.out (by first | exact hlt | omega), rfl, g3, SlT.below G4.out hb1⟩⟩
end Go.Proofs.Ytdmhjcnijebfgaa
