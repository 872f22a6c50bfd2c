/- What a law's arguments look like to a walk: pitches, pairs of bytes, slices of ints and of pitches. -/
import Derived.Test.YtdleefphgjnhjaaPitch
import Derived.ProofKit
import Derived.OpenShut
import Derived.Lib.SmallJoins
import Derived.Deep.Slices
namespace Go.Proofs.Ytdleefphgjnhjaa
open Go.RowKit Go.ChangeShapes Go.WideShapes
set_option linter.unusedVariables false

section
variable {H : Type} {enc : TypeId × Value → H} {w : World} {base : Nat} {spare : Nat → Bool} {held : Bool} {r : Reach} {b0 : Nat} {v : Value} {d : DataW H} {p : List MemPlace}

theorem open_pitch (hv : Value.okWide Try.prog w r b0 24 v) (h : DataW.Trod enc Try.prog w base spare held 24 v d p) :
    ∃ s al o : Int, v = .agg #[.int .i64 s, .int .i64 al, .int .i64 o] ∧ (Lit.int .i64 s).wf = true ∧ (Lit.int .i64 al).wf = true ∧ (Lit.int .i64 o).wf = true := by
  obtain ⟨c0, c1, c2, y0, y1, y2, m, rfl, rfl, rfl, h0, h1, h2⟩ := Go.Joins.open_agg3 Try.underlying24 (by kernel_rfl) (by kernel_rfl) hv h
  obtain ⟨s, e0, _, w0⟩ := DataW.trod_int Try.underlying3 h0
  obtain ⟨al, e1, _, w1⟩ := DataW.trod_int Try.underlying3 h1
  obtain ⟨o, e2, _, w2⟩ := DataW.trod_int Try.underlying3 h2
  simp at e0 e1 e2
  subst e0 e1 e2
  exact ⟨s, al, o, rfl, w0, w1, w2⟩

theorem open_two (hv : Value.okWide Try.prog w r b0 34 v) (h : DataW.Trod enc Try.prog w base spare held 34 v d p) :
    ∃ a b : Int, v = .agg #[.int .u8 a, .int .u8 b] ∧ (Lit.int .u8 a).wf = true ∧ (Lit.int .u8 b).wf = true := by
  have hx : ∃ cs, v = .agg cs ∧ cs.size = Try.prog.cellsOf 34 := by
    simp only [Value.okWide, Try.underlying34] at hv
    obtain ⟨cs, h1, h2, _⟩ := hv
    exact ⟨cs, h1, h2⟩
  obtain ⟨⟨l⟩, rfl, hs⟩ := hx
  have hc : Try.prog.cellsOf 34 = 2 := by kernel_rfl
  have h1c : Try.prog.cellsOf 5 = 1 := by kernel_rfl
  rw [hc] at hs
  match l, hs with
  | [c0, c1], _ =>
    obtain ⟨fuel, hf⟩ := h
    obtain ⟨xs, m, _, _, _, hl, hg⟩ := DataW.trod_array Try.underlying34 hf
    have g0 := hg 0 (by omega)
    have g1 := hg 1 (by omega)
    rw [h1c] at g0 g1
    rw [List.getElem?_eq_getElem (by omega)] at g0 g1
    obtain ⟨a, e0, _, w0⟩ := DataW.trod_int Try.underlying5 g0
    obtain ⟨b, e1, _, w1⟩ := DataW.trod_int Try.underlying5 g1
    simp [Value.cells] at e0 e1
    subst e0 e1
    exact ⟨a, b, rfl, w0, w1⟩

/-- A slice of one-cell elements that came in: its address, its length, what it reads as. -/
theorem open_row {t e : TypeId} {k : IntKind} (ht : Try.prog.underlying t = some (.slice e)) (he : Try.prog.underlying e = some (.int k)) (hc : Try.prog.cellsOf e = 1)
    (hv : Value.okWide Try.prog w r b0 t v) (h : DataW.Trod enc Try.prog w base (fun _ => true) held t v d p) :
    ∃ (A : Option Addr) (len cap : Nat) (xs : List Int), v = .slice A len cap ∧ len ≤ cap ∧ cap ≤ maxLen ∧ xs.length = len ∧ Rd w w.heap.size A (xs.map (Value.int k)) ∧ ∀ n ∈ xs, (Lit.int k n).wf = true := by
  obtain ⟨A, len, cap, rfl⟩ := okWide_slice ht hv
  obtain ⟨fuel, hf⟩ := h
  rcases open_ints ht he hc hf with ⟨hcs, _⟩ | ⟨x, l, c, zs, hcs, _, hl, hm, hz, _, hcell, hwz⟩
  · simp [Value.cells] at hcs
    obtain ⟨rfl, rfl, rfl⟩ := hcs
    exact ⟨none, 0, 0, [], rfl, Nat.le_refl _, Nat.zero_le _, rfl, .inl rfl, by simp⟩
  · simp [Value.cells] at hcs
    obtain ⟨rfl, rfl, rfl⟩ := hcs
    have hz' : zs.length = cap := by simpa using hz
    refine ⟨some x, len, cap, zs.take len, rfl, hl, hm, by simp; omega, ?_, fun n hn => hwz n (List.mem_of_mem_take hn)⟩
    by_cases h0 : len = 0
    · subst h0; exact .inl (by simp)
    · right
      obtain ⟨b, off, spot⟩ := x
      have hspot : spot = none := by
        have := hcell 0 (by omega)
        simpa [Addr.add] using World.cell?_spot this
      subst hspot
      have hadd : ∀ j, (⟨b, off, none⟩ : Addr).add j = ⟨b, off + j, none⟩ := fun j => by unfold Addr.add; split <;> simp_all
      refine ⟨b, off, rfl, ?_, fun j u hu => ?_⟩
      · have := hcell 0 (by omega)
        rw [hadd] at this
        rcases Nat.lt_or_ge b w.heap.size with hlt | hge
        · exact hlt
        · simp [World.cell?, Array.getElem?_eq_none hge] at this
      · have hj : j < len := by
          have := (List.getElem?_eq_some_iff.1 hu).1
          simp at this; omega
        have hc' := hcell j (by omega)
        rw [hadd] at hc'
        rw [hc']
        rw [List.getElem?_map, List.getElem?_take_of_lt hj, List.getElem?_eq_getElem (by omega)] at hu
        simp at hu
        subst hu
        congr 2
        simp [List.getD, List.getElem?_eq_getElem (show j < zs.length by omega)]
end

/-- A block of three cells, none frozen. -/
structure Box3 (w : World) (b : Nat) (x y z : Value) : Prop where
  c0 : w.cell? ⟨b, 0, none⟩ = some x
  c1 : w.cell? ⟨b, 1, none⟩ = some y
  c2 : w.cell? ⟨b, 2, none⟩ = some z
  f : ∀ o, w.frozen? ⟨b, o, none⟩ = false
  lt : b < w.heap.size

theorem box3_new (w : World) (x y z : Value) (T : TypeId) : Box3 (w.alloc (.cells #[x, y, z] T)) w.heap.size x y z :=
  ⟨by simp, by simp, by simp, fun o => by simp, by simp⟩
theorem box3_below {w w' : World} {b : Nat} {x y z : Value} (h : Box3 w b x y z) (hb : Below w.heap.size w w') : Box3 w' b x y z :=
  ⟨(hb.cell (p := ⟨b, 0, none⟩) h.lt).trans h.c0, (hb.cell (p := ⟨b, 1, none⟩) h.lt).trans h.c1, (hb.cell (p := ⟨b, 2, none⟩) h.lt).trans h.c2, fun o => (hb.frozen (p := ⟨b, o, none⟩) h.lt).trans (h.f o), Nat.lt_of_lt_of_le h.lt hb.size⟩
theorem box3_alloc {w : World} {b : Nat} {x y z : Value} (h : Box3 w b x y z) (o : Obj) : Box3 (w.alloc o) b x y z := box3_below h ((Below.refl _ _).alloc (Nat.le_refl _) _)
theorem box3_other {w : World} {b : Nat} {x y z : Value} (h : Box3 w b x y z) {p : Addr} (hp : b ≠ p.block) (u : Value) : Box3 (w.setCell p u) b x y z := by
  have hk : ∀ o, (w.setCell p u).cell? ⟨b, o, none⟩ = w.cell? ⟨b, o, none⟩ := fun o => World.cell?_setCell_other w p _ u (fun e => hp (by subst e; rfl))
  exact ⟨(hk 0).trans h.c0, (hk 1).trans h.c1, (hk 2).trans h.c2, fun o => by rw [World.frozen?_setCell]; exact h.f o, by simpa [World.setCell] using h.lt⟩
theorem box3_set1 {w : World} {b : Nat} {x y z : Value} (h : Box3 w b x y z) (u : Value) : Box3 (w.setCell ⟨b, 1, none⟩ u) b x u z :=
  ⟨(World.cell?_setCell_other w _ _ u (by simp)).trans h.c0, World.cell?_setCell_same' _ _ _ (by rw [h.c1]; rfl), (World.cell?_setCell_other w _ _ u (by simp)).trans h.c2, fun o => by rw [World.frozen?_setCell]; exact h.f o, by simpa [World.setCell] using h.lt⟩
theorem box3_set2 {w : World} {b : Nat} {x y z : Value} (h : Box3 w b x y z) (u : Value) : Box3 (w.setCell ⟨b, 2, none⟩ u) b x y u :=
  ⟨(World.cell?_setCell_other w _ _ u (by simp)).trans h.c0, (World.cell?_setCell_other w _ _ u (by simp)).trans h.c1, World.cell?_setCell_same' _ _ _ (by rw [h.c2]; rfl), fun o => by rw [World.frozen?_setCell]; exact h.f o, by simpa [World.setCell] using h.lt⟩
theorem pair_cells (u : World) (x y : Value) (T : TypeId) : (u.alloc (.cells #[x, y] T)).cell? ⟨u.heap.size, 0, none⟩ = some x ∧ (u.alloc (.cells #[x, y] T)).cell? ⟨u.heap.size, 1, none⟩ = some y := ⟨by simp, by simp⟩
theorem two_cells (w : World) (a b : Obj) (x y : Value) (T : TypeId) :
    (((w.alloc a).alloc b).alloc (.cells #[x, y] T)).cell? ⟨w.heap.size + 1 + 1, 0, none⟩ = some x ∧ (((w.alloc a).alloc b).alloc (.cells #[x, y] T)).cell? ⟨w.heap.size + 1 + 1, 1, none⟩ = some y := by
  have h := pair_cells ((w.alloc a).alloc b) x y T
  rw [World.size_alloc, World.size_alloc] at h
  exact h
end Go.Proofs.Ytdleefphgjnhjaa
