/- What the journal laws' arguments look like to a walk: slices of operations, of strings, of bools; a crash. -/
import Derived.Test.YthfnpakddnnccaaPlay
import Derived.ProofKit
import Derived.OpenShut
import Derived.Lib.SmallJoins
import Derived.Deep.Slices
import Derived.Deep.Fields
import Derived.SliceStrings
namespace Go.Proofs.Ythfnpakddnnccaa
open Go.RowKit Go.ChangeShapes Go.WideShapes Go.Deep
set_option linter.unusedVariables false

theorem block_lt_of_some {w : World} {b o : Nat} {v : Value} (h : w.cell? ⟨b, o, none⟩ = some v) : b < w.heap.size := World.block_lt_of_cell? _ _ h
theorem u8_range {x : Int} (h : (Lit.int .u8 x).wf = true) : 0 ≤ x ∧ x < 256 := by
  have h1 : (IntKind.u8.min : Int) = 0 := by decide
  have h2 : (IntKind.u8.max : Int) = 255 := by decide
  simp only [Lit.wf, h1, h2, Bool.and_eq_true, decide_eq_true_eq] at h
  omega
theorem i64_range {x : Int} (h : (Lit.int .i64 x).wf = true) : -9223372036854775808 ≤ x ∧ x < 9223372036854775808 := by
  have h1 : (IntKind.i64.min : Int) = -9223372036854775808 := by decide
  have h2 : (IntKind.i64.max : Int) = 9223372036854775807 := by decide
  simp only [Lit.wf, h1, h2, Bool.and_eq_true, decide_eq_true_eq] at h
  omega
theorem pick_all {α : Type} (d : α) {n : Nat} {Q : Nat → α → Prop} (h : ∀ i, i < n → ∃ x, Q i x) : ∃ f : Nat → α, ∀ i, i < n → Q i (f i) := by
  have : ∀ i, ∃ x, i < n → Q i x := fun i => by
    by_cases hi : i < n
    · obtain ⟨x, hx⟩ := h i hi
      exact ⟨x, fun _ => hx⟩
    · exact ⟨d, fun h' => absurd h' hi⟩
  exact Classical.skolem.1 this
section
variable {H : Type} {enc : TypeId × Value → H} {w : World} {base : Nat} {spare : Nat → Bool} {held : Bool} {r : Reach} {b0 : Nat} {v : Value} {d : DataW H} {p : List MemPlace}

theorem open_ops (hv : Value.okWide Try.prog w r b0 57 v) (h : DataW.Trod enc Try.prog w base (fun _ => true) held 57 v d p) :
    ∃ (A : Option Addr) (cap : Nat) (ops : List OpD), v = .slice A ops.length cap ∧ ops.length ≤ cap ∧ RdOps w w.heap.size A ops ∧ ∀ o ∈ ops, o.okR := by
  obtain ⟨A, len, cap, rfl⟩ := okWide_slice Try.underlying57 hv
  obtain ⟨fuel, hf⟩ := h
  have hC : Try.prog.cellsOf 88 = 4 := by kernel_rfl
  rcases open_slice Try.underlying57 hf with ⟨hcs, _⟩ | ⟨a, len', cap', m, n, D, Pl, hcs, hb, hl, hm, hmm, hx, hi⟩
  · simp [Value.cells] at hcs
    obtain ⟨rfl, rfl, rfl⟩ := hcs
    exact ⟨none, 0, [], rfl, Nat.le_refl _, .inl rfl, by simp⟩
  · simp [Value.cells] at hcs
    obtain ⟨rfl, rfl, rfl⟩ := hcs
    rw [if_pos rfl] at hmm
    rw [hC] at hi
    have hspot : 0 < len → a.spot = none := by
      intro h0
      obtain ⟨cs, hc, ht⟩ := hi 0 (by omega)
      obtain ⟨_, hcl, hat⟩ := World.cells?_some hc
      match cs, hcl with
      | c0 :: _, _ =>
        have := World.cell?_spot ((hat 0 (by omega)).trans rfl)
        simpa [Addr.add] using this
    have each : ∀ i, i < len → ∃ o : OpD, o.okR ∧ a.spot = none ∧ a.block < w.heap.size ∧ w.cell? ⟨a.block, a.off + i * 4, none⟩ = some (.int .u8 o.kd) ∧ w.cell? ⟨a.block, a.off + i * 4 + 1, none⟩ = some (.string o.t) ∧ w.cell? ⟨a.block, a.off + i * 4 + 2, none⟩ = some (.int .i64 o.n) ∧ w.cell? ⟨a.block, a.off + i * 4 + 3, none⟩ = some (.int .u8 (o.d : Int)) := by
      intro i hil
      obtain ⟨cs, hc, ht⟩ := hi i (by omega)
      obtain ⟨_, hcl, hat⟩ := World.cells?_some hc
      obtain ⟨xs, n', _, _, _, hxl, hg⟩ := DataW.trod_struct Try.underlying88 ht
      match cs, hcl with
      | [c0, c1, c2, c3], _ =>
        have g0 := hg 0 _ rfl
        have g1 := hg 1 _ rfl
        have g2 := hg 2 _ rfl
        have g3 := hg 3 _ rfl
        have k1 : Try.prog.cellsOf 5 = 1 := by kernel_rfl
        have k2 : Try.prog.cellsOf 9 = 1 := by kernel_rfl
        have k3 : Try.prog.cellsOf 3 = 1 := by kernel_rfl
        have hx4 : xs.length = 4 := hxl
        rw [List.getElem?_eq_getElem (by omega)] at g0 g1 g2 g3
        simp [k1, k2, k3] at g0 g1 g2 g3
        obtain ⟨kd, e0, _, w0⟩ := DataW.trod_int Try.underlying5 g0
        obtain ⟨t, e1, _, w1⟩ := DataW.trod_string Try.underlying9 g1
        obtain ⟨nn, e2, _, w2⟩ := DataW.trod_int Try.underlying3 g2
        obtain ⟨dd, e3, _, w3⟩ := DataW.trod_int Try.underlying5 g3
        simp at e0 e1 e2 e3
        subst e0 e1 e2 e3
        have b0 := u8_range w0
        have b2 := i64_range w2
        have b3 := u8_range w3
        have q0 := hat 0 (by omega)
        have q1 := hat 1 (by omega)
        have q2 := hat 2 (by omega)
        have q3 := hat 3 (by omega)
        obtain ⟨b, off, spot⟩ := a
        obtain rfl : spot = none := hspot (by omega)
        have hadd : ∀ j, (⟨b, off, none⟩ : Addr).add j = ⟨b, off + j, none⟩ := fun j => by unfold Addr.add; split <;> simp_all
        have hadd2 : ∀ o j, (⟨b, o, none⟩ : Addr).add j = ⟨b, o + j, none⟩ := fun o j => by unfold Addr.add; split <;> simp_all
        rw [hadd, hadd2] at q0 q1 q2 q3
        refine ⟨⟨kd, t, nn, dd.toNat⟩, ⟨b0.1, b0.2, w1, b2.2, by show dd.toNat < 256; omega⟩, rfl, block_lt_of_some q0, q0, q1, q2, ?_⟩
        rw [show ((OpD.mk kd t nn dd.toNat).d : Int) = dd from by show ((dd.toNat : Nat) : Int) = dd; omega]
        exact q3
    obtain ⟨f, hf⟩ := pick_all ⟨0, ByteArray.empty, 0, 0⟩ each
    refine ⟨some a, cap, (List.range len).map f, by simp, by simpa using hl, ?_, ?_⟩
    · by_cases h0 : len = 0
      · subst h0; exact .inl rfl
      · right
        obtain ⟨b, off, spot⟩ := a
        obtain ⟨_, hs, hlt, _⟩ := hf 0 (by omega)
        dsimp only at hs
        subst hs
        refine ⟨b, off, rfl, hlt, fun k o hko => ?_⟩
        have hk : k < len := by
          have := (List.getElem?_eq_some_iff.1 hko).1
          simpa using this
        obtain ⟨_, _, _, h1, h2, h3, h4⟩ := hf k hk
        rw [List.getElem?_map, List.getElem?_range hk] at hko
        simp at hko
        subst hko
        exact ⟨h1, h2, h3, h4⟩
    · intro o ho
      obtain ⟨i, hi, rfl⟩ := List.mem_map.1 ho
      exact (hf i (List.mem_range.1 hi)).1

theorem open_row1 {t e : TypeId} {α : Type} (d0 : α) (F : α → Value) (G : α → Prop) (ht : Try.prog.underlying t = some (.slice e)) (hC : Try.prog.cellsOf e = 1)
    (hel : ∀ (n : Nat) (cs : List Value) (x : DataW H × List MemPlace), DataW.trod enc Try.prog w base (fun _ => true) held n e cs = some x → ∃ y, cs = [F y] ∧ G y)
    (hv : Value.okWide Try.prog w r b0 t v) (h : DataW.Trod enc Try.prog w base (fun _ => true) held t v d p) :
    ∃ (A : Option Addr) (cap : Nat) (ss : List α), v = .slice A ss.length cap ∧ ss.length ≤ cap ∧ cap ≤ maxLen ∧ Rd w w.heap.size A (ss.map F) ∧ ∀ s ∈ ss, G s := by
  obtain ⟨A, len, cap, rfl⟩ := okWide_slice ht hv
  obtain ⟨fuel, hf⟩ := h
  rcases open_slice ht hf with ⟨hcs, _⟩ | ⟨a, len', cap', m, n, D, Pl, hcs, hb, hl, hm, hmm, hx, hi⟩
  · simp [Value.cells] at hcs
    obtain ⟨rfl, rfl, rfl⟩ := hcs
    exact ⟨none, 0, [], rfl, Nat.le_refl _, Nat.zero_le _, .inl rfl, by simp⟩
  · simp [Value.cells] at hcs
    obtain ⟨rfl, rfl, rfl⟩ := hcs
    rw [if_pos rfl] at hmm
    rw [hC] at hi
    have hspot : 0 < len → a.spot = none := by
      intro h0
      obtain ⟨cs, hc, ht⟩ := hi 0 (by omega)
      obtain ⟨_, hcl, hat⟩ := World.cells?_some hc
      match cs, hcl with
      | c0 :: _, _ =>
        have := World.cell?_spot ((hat 0 (by omega)).trans rfl)
        simpa [Addr.add] using this
    have each : ∀ i, i < len → ∃ y : α, G y ∧ a.spot = none ∧ a.block < w.heap.size ∧ w.cell? ⟨a.block, a.off + i, none⟩ = some (F y) := by
      intro i hil
      obtain ⟨cs, hc, ht⟩ := hi i (by omega)
      obtain ⟨_, hcl, hat⟩ := World.cells?_some hc
      obtain ⟨y, hy, hG⟩ := hel _ _ _ ht
      subst hy
      have q0 := hat 0 (by omega)
      obtain ⟨b, off, spot⟩ := a
      obtain rfl : spot = none := hspot (by omega)
      have hadd : ∀ j, (⟨b, off, none⟩ : Addr).add j = ⟨b, off + j, none⟩ := fun j => by unfold Addr.add; split <;> simp_all
      have hadd2 : ∀ o j, (⟨b, o, none⟩ : Addr).add j = ⟨b, o + j, none⟩ := fun o j => by unfold Addr.add; split <;> simp_all
      rw [hadd, hadd2, Nat.mul_one] at q0
      exact ⟨y, hG, rfl, block_lt_of_some q0, q0⟩
    obtain ⟨f, hf⟩ := pick_all d0 each
    refine ⟨some a, cap, (List.range len).map f, by simp, by simpa using hl, hm, ?_, ?_⟩
    · by_cases h0 : len = 0
      · subst h0; exact .inl rfl
      · right
        obtain ⟨b, off, spot⟩ := a
        obtain ⟨_, hs, hlt, _⟩ := hf 0 (by omega)
        dsimp only at hs
        subst hs
        refine ⟨b, off, rfl, hlt, fun k u hku => ?_⟩
        have hk : k < len := by
          have := (List.getElem?_eq_some_iff.1 hku).1
          simpa using this
        obtain ⟨_, _, _, h1⟩ := hf k hk
        rw [List.map_map, List.getElem?_map, List.getElem?_range hk] at hku
        simp at hku
        subst hku
        exact h1
    · intro o ho
      obtain ⟨i, hi, rfl⟩ := List.mem_map.1 ho
      exact (hf i (List.mem_range.1 hi)).1
theorem open_strs (hv : Value.okWide Try.prog w r b0 35 v) (h : DataW.Trod enc Try.prog w base (fun _ => true) held 35 v d p) :
    ∃ (A : Option Addr) (cap : Nat) (ss : List ByteArray), v = .slice A ss.length cap ∧ ss.length ≤ cap ∧ cap ≤ maxLen ∧ Rd w w.heap.size A (ss.map Value.string) ∧ ∀ s ∈ ss, s.size ≤ maxLen :=
  open_row1 ByteArray.empty Value.string (fun s => s.size ≤ maxLen) Try.underlying35 (by kernel_rfl) (fun n cs x hx => by obtain ⟨s, e, _, hs⟩ := DataW.trod_string Try.underlying9 hx; exact ⟨s, e, hs⟩) hv h
theorem open_bools (hv : Value.okWide Try.prog w r b0 39 v) (h : DataW.Trod enc Try.prog w base (fun _ => true) held 39 v d p) :
    ∃ (A : Option Addr) (cap : Nat) (ss : List Bool), v = .slice A ss.length cap ∧ ss.length ≤ cap ∧ cap ≤ maxLen ∧ Rd w w.heap.size A (ss.map Value.bool) ∧ ∀ s ∈ ss, True :=
  open_row1 false Value.bool (fun _ => True) Try.underlying39 (by kernel_rfl) (fun n cs x hx => by obtain ⟨s, e, _⟩ := DataW.trod_bool Try.underlying4 hx; exact ⟨s, e, trivial⟩) hv h
theorem open_crash (hv : Value.okWide Try.prog w r b0 41 v) (h : DataW.Trod enc Try.prog w base spare held 41 v d p) :
    ∃ a b c : Nat, v = .agg #[.int .u8 (a : Int), .int .u8 (b : Int), .int .u8 (c : Int)] ∧ a < 256 ∧ b < 256 ∧ c < 256 := by
  obtain ⟨c0, c1, c2, y0, y1, y2, m, rfl, rfl, rfl, h0, h1, h2⟩ := Go.Joins.open_agg3 Try.underlying41 (by kernel_rfl) (by kernel_rfl) hv h
  obtain ⟨s, e0, _, w0⟩ := DataW.trod_int Try.underlying5 h0
  obtain ⟨al, e1, _, w1⟩ := DataW.trod_int Try.underlying5 h1
  obtain ⟨o, e2, _, w2⟩ := DataW.trod_int Try.underlying5 h2
  simp at e0 e1 e2
  subst e0 e1 e2
  have b0 := u8_range w0
  have b1 := u8_range w1
  have b2 := u8_range w2
  refine ⟨s.toNat, al.toNat, o.toNat, ?_, by omega, by omega, by omega⟩
  rw [Int.toNat_of_nonneg b0.1, Int.toNat_of_nonneg b1.1, Int.toNat_of_nonneg b2.1]
end
end Go.Proofs.Ythfnpakddnnccaa
