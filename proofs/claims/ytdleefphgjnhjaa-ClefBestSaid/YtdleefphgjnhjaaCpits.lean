/- Slices of pitches in the clef seat; the first of the best. Lines of the spelling seat's texts. -/
import Derived.Test.YtdleefphgjnhjaaPitch
import Derived.Test.YtdleefphgjnhjaaLedger
import Derived.Test.YtdleefphgjnhjaaOpen
import Derived.Deep.Fields
namespace Go.Proofs.Ytdleefphgjnhjaa
open Go.RowKit Go.ChangeShapes Go.WideShapes Go.Deep
set_option linter.unusedVariables false

def bestI (c : Nat → Int) : Nat → Nat
  | 0 => 0
  | k + 1 => if c k < c (bestI c k) then k else bestI c k
theorem bestI_lt (c : Nat → Int) : ∀ n, 0 < n → bestI c n < n := by
  intro n
  induction n with
  | zero => intro h; omega
  | succ k ih =>
    intro _
    unfold bestI
    split
    · omega
    · rcases Nat.eq_zero_or_pos k with h | h
      · subst h; exact Nat.zero_lt_one
      · have := ih h; omega
theorem getD_memL {β : Type} (l : List β) (z : β) {i : Nat} (hi : i < l.length) : l.getD i z ∈ l := by
  rw [List.getD_eq_getElem?_getD, List.getElem?_eq_getElem hi]; exact List.getElem_mem hi
theorem get_getD {β : Type} (l : List β) (z : β) {i : Nat} (hi : i < l.length) : l[i] = l.getD i z := by
  rw [List.getD_eq_getElem?_getD, List.getElem?_eq_getElem hi]; rfl
abbrev Pit : Type := Int × Int × Int
def okQ (p : Pit) : Prop := okP p.1 p.2.1 p.2.2
abbrev PIT : TypeId := 24
def pitC (p : Pit) : List Value := [.int .i64 p.1, .int .i64 p.2.1, .int .i64 p.2.2]
def pitsC (L : List Pit) : List Value := L.flatMap pitC
theorem pitsC_cons (p : Pit) (L : List Pit) : pitsC (p :: L) = pitC p ++ pitsC L := rfl
theorem pitsC_len (L : List Pit) : (pitsC L).length = L.length * 3 := by
  induction L with
  | nil => rfl
  | cons p L ih => rw [pitsC_cons, List.length_append, ih, List.length_cons]; show 3 + _ = _; omega
theorem pitsC_at : ∀ (L : List Pit) (k : Nat), k < L.length → ((pitsC L)[k * 3]? = some (.int .i64 (L.getD k default).1) ∧ (pitsC L)[k * 3 + 1]? = some (.int .i64 (L.getD k default).2.1) ∧ (pitsC L)[k * 3 + 2]? = some (.int .i64 (L.getD k default).2.2)) := by
  intro L
  induction L with
  | nil => intro k h; exact absurd h (Nat.not_lt_zero _)
  | cons p L ih =>
    intro k h
    cases k with
    | zero => exact ⟨rfl, rfl, rfl⟩
    | succ k =>
      have h' : k < L.length := by simpa using h
      obtain ⟨h1, h2, h3⟩ := ih k h'
      rw [pitsC_cons]
      have e : ∀ j, (pitC p ++ pitsC L)[j + 3]? = (pitsC L)[j]? := fun j => by
        rw [List.getElem?_append_right (by show 3 ≤ j + 3; omega)]
        show (pitsC L)[j + 3 - 3]? = _
        rw [Nat.add_sub_cancel]
      rw [show (k + 1) * 3 = k * 3 + 3 from by omega, show k * 3 + 3 + 1 = (k * 3 + 1) + 3 from by omega, show k * 3 + 3 + 2 = (k * 3 + 2) + 3 from by omega, e, e, e]
      exact ⟨h1, h2, h3⟩
theorem ints_get {l : List Int} {k : Nat} (h : k < l.length) : (ints l)[k]? = some (.int .i64 (l.getD k 0)) := by simp [ints, h]
theorem rdP {w : World} {B : Nat} {A : Option Addr} {L : List Pit} (h : Rd w B A (pitsC L)) {k : Nat} (hk : k < L.length) :
    ∃ b off, A = some ⟨b, off, none⟩ ∧ b < B ∧ w.cell? ⟨b, off + k * 3, none⟩ = some (.int .i64 (L.getD k default).1) ∧ w.cell? ⟨b, off + k * 3 + 1, none⟩ = some (.int .i64 (L.getD k default).2.1) ∧ w.cell? ⟨b, off + k * 3 + 2, none⟩ = some (.int .i64 (L.getD k default).2.2) := by
  obtain ⟨b, off, rfl, hlb, hcell⟩ := rd_pos h (by rw [pitsC_len]; omega)
  obtain ⟨p0, p1, p2⟩ := pitsC_at L k hk
  exact ⟨b, off, rfl, hlb, hcell _ _ p0, hcell _ _ p1, hcell _ _ p2⟩
theorem rdI {w : World} {B : Nat} {A : Option Addr} {l : List Int} (h : Rd w B A (ints l)) {k : Nat} (hk : k < l.length) :
    ∃ b off, A = some ⟨b, off, none⟩ ∧ b < B ∧ w.cell? ⟨b, off + k, none⟩ = some (.int .i64 (l.getD k 0)) := by
  obtain ⟨b, off, rfl, hlb, hcell⟩ := rd_pos h (by simp; omega)
  exact ⟨b, off, rfl, hlb, hcell _ _ (ints_get hk)⟩


theorem block_lt_of_some {w : World} {b o : Nat} {v : Value} (h : w.cell? ⟨b, o, none⟩ = some v) : b < w.heap.size := World.block_lt_of_cell? _ _ h
theorem i64_range {x : Int} (h : (Lit.int .i64 x).wf = true) : -9223372036854775808 ≤ x ∧ x < 9223372036854775808 := by
  have h1 : (IntKind.i64.min : Int) = -9223372036854775808 := by decide
  have h2 : (IntKind.i64.max : Int) = 9223372036854775807 := by decide
  simp only [Lit.wf, h1, h2, Bool.and_eq_true, decide_eq_true_eq] at h
  omega
theorem pick_all {α : Type} (d : α) {n : Nat} {Q : Nat → α → Prop} (h : ∀ i, i < n → ∃ x, Q i x) : ∃ f : Nat → α, ∀ i, i < n → Q i (f i) := by
  have : ∀ i, ∃ x, i < n → Q i x := fun i => by
    by_cases hi : i < n
    · obtain ⟨x, hx⟩ := h i hi
      exact ⟨x, fun _ => hx⟩
    · exact ⟨d, fun h' => absurd h' hi⟩
  exact Classical.skolem.1 this

variable {H : Type} {enc : TypeId × Value → H} {w : World} {base : Nat} {spare : Nat → Bool} {held : Bool} {r : Reach} {b0 : Nat} {v : Value} {d : DataW H} {p : List MemPlace}


theorem open_pitches (hv : Value.okWide Try.prog w r b0 59 v) (h : DataW.Trod enc Try.prog w base (fun _ => true) held 59 v d p) :
    ∃ (A : Option Addr) (len cap : Nat) (xs : List Pit), v = .slice A len cap ∧ len ≤ cap ∧ cap ≤ maxLen ∧ xs.length = len ∧ Rd w w.heap.size A (pitsC xs) ∧ ∀ p ∈ xs, (-9223372036854775808 ≤ p.1 ∧ p.1 < 9223372036854775808) ∧ (-9223372036854775808 ≤ p.2.1 ∧ p.2.1 < 9223372036854775808) ∧ (-9223372036854775808 ≤ p.2.2 ∧ p.2.2 < 9223372036854775808) := by
  obtain ⟨A, len, cap, rfl⟩ := okWide_slice Try.underlying59 hv
  obtain ⟨fuel, hf⟩ := h
  have hC : Try.prog.cellsOf 24 = 3 := by kernel_rfl
  rcases open_slice Try.underlying59 hf with ⟨hcs, _⟩ | ⟨a, len', cap', m, n, D, Pl, hcs, hb, hl, hm, hmm, hx, hi⟩
  · simp [Value.cells] at hcs
    obtain ⟨rfl, rfl, rfl⟩ := hcs
    exact ⟨none, 0, 0, [], rfl, Nat.le_refl _, Nat.zero_le _, rfl, .inl rfl, by simp⟩
  · simp [Value.cells] at hcs
    obtain ⟨rfl, rfl, rfl⟩ := hcs
    rw [if_pos rfl] at hmm
    rw [hC] at hi
    have hspot : 0 < len → a.spot = none := by
      intro h0
      obtain ⟨cs, hc, ht⟩ := hi 0 (by omega)
      obtain ⟨_, hcl, hat⟩ := World.cells?_some hc
      match cs, hcl with
      | c0 :: _, _ =>
        have := World.cell?_spot ((hat 0 (by omega)).trans rfl)
        simpa [Addr.add] using this
    have each : ∀ i, i < len → ∃ p : Pit, ((-9223372036854775808 ≤ p.1 ∧ p.1 < 9223372036854775808) ∧ (-9223372036854775808 ≤ p.2.1 ∧ p.2.1 < 9223372036854775808) ∧ (-9223372036854775808 ≤ p.2.2 ∧ p.2.2 < 9223372036854775808)) ∧ a.spot = none ∧ a.block < w.heap.size ∧ w.cell? ⟨a.block, a.off + i * 3, none⟩ = some (.int .i64 p.1) ∧ w.cell? ⟨a.block, a.off + i * 3 + 1, none⟩ = some (.int .i64 p.2.1) ∧ w.cell? ⟨a.block, a.off + i * 3 + 2, none⟩ = some (.int .i64 p.2.2) := by
      intro i hil
      obtain ⟨cs, hc, ht⟩ := hi i (by omega)
      obtain ⟨_, hcl, hat⟩ := World.cells?_some hc
      obtain ⟨xs, n', _, _, _, hxl, hg⟩ := DataW.trod_struct Try.underlying24 ht
      match cs, hcl with
      | [c0, c1, c2], _ =>
        have g0 := hg 0 _ rfl
        have g1 := hg 1 _ rfl
        have g2 := hg 2 _ rfl
        have k3 : Try.prog.cellsOf 3 = 1 := by kernel_rfl
        have hx4 : xs.length = 3 := hxl
        rw [List.getElem?_eq_getElem (by omega)] at g0 g1 g2
        simp [k3] at g0 g1 g2
        obtain ⟨n0, e0, _, w0⟩ := DataW.trod_int Try.underlying3 g0
        obtain ⟨n1, e1, _, w1⟩ := DataW.trod_int Try.underlying3 g1
        obtain ⟨n2, e2, _, w2⟩ := DataW.trod_int Try.underlying3 g2
        simp at e0 e1 e2
        subst e0 e1 e2
        have q0 := hat 0 (by omega)
        have q1 := hat 1 (by omega)
        have q2 := hat 2 (by omega)
        obtain ⟨b, off, spot⟩ := a
        obtain rfl : spot = none := hspot (by omega)
        have hadd : ∀ j, (⟨b, off, none⟩ : Addr).add j = ⟨b, off + j, none⟩ := fun j => by unfold Addr.add; split <;> simp_all
        have hadd2 : ∀ o j, (⟨b, o, none⟩ : Addr).add j = ⟨b, o + j, none⟩ := fun o j => by unfold Addr.add; split <;> simp_all
        rw [hadd, hadd2] at q0 q1 q2
        exact ⟨(n0, n1, n2), ⟨i64_range w0, i64_range w1, i64_range w2⟩, rfl, block_lt_of_some q0, q0, q1, q2⟩
    obtain ⟨f, hf⟩ := pick_all (default : Pit) each
    refine ⟨some a, len, cap, (List.range len).map f, rfl, by simpa using hl, hm, by simp, ?_, ?_⟩
    · by_cases h0 : len = 0
      · subst h0; exact .inl rfl
      · right
        obtain ⟨b, off, spot⟩ := a
        obtain ⟨_, hs, hlt, _⟩ := hf 0 (by omega)
        dsimp only at hs
        subst hs
        refine ⟨b, off, rfl, hlt, fun j u hj => ?_⟩
        have hjl : j < len * 3 := by
          have := (List.getElem?_eq_some_iff.1 hj).1
          rw [pitsC_len] at this
          simpa using this
        have hk : j / 3 < len := by omega
        obtain ⟨_, _, _, h1, h2, h3⟩ := hf (j / 3) hk
        obtain ⟨p1, p2, p3⟩ := pitsC_at ((List.range len).map f) (j / 3) (by simpa using hk)
        have hget : ((List.range len).map f).getD (j / 3) default = f (j / 3) := by
          rw [List.getD_eq_getElem?_getD, List.getElem?_map, List.getElem?_range hk]; rfl
        rw [hget] at p1 p2 p3
        have hcase : j = j / 3 * 3 ∨ j = j / 3 * 3 + 1 ∨ j = j / 3 * 3 + 2 := by omega
        generalize j / 3 = q at *
        rcases hcase with e | e | e
        · rw [e] at hj; rw [p1] at hj; injection hj with hj; subst hj; rw [e]; exact h1
        · rw [e] at hj; rw [p2] at hj; injection hj with hj; subst hj; rw [e, ← Nat.add_assoc]; exact h2
        · rw [e] at hj; rw [p3] at hj; injection hj with hj; subst hj; rw [e, ← Nat.add_assoc]; exact h3
    · intro o ho
      obtain ⟨i, hi, rfl⟩ := List.mem_map.1 ho
      exact (hf i (List.mem_range.1 hi)).1
theorem open_ints (hv : Value.okWide Try.prog w r b0 38 v) (h : DataW.Trod enc Try.prog w base (fun _ => true) held 38 v d p) :
    ∃ (A : Option Addr) (len cap : Nat) (xs : List Int), v = .slice A len cap ∧ len ≤ cap ∧ cap ≤ maxLen ∧ xs.length = len ∧ Rd w w.heap.size A (ints xs) ∧ ∀ n ∈ xs, (Lit.int .i64 n).wf = true :=
  open_row Try.underlying38 Try.underlying3 (by kernel_rfl) hv h
end Go.Proofs.Ytdleefphgjnhjaa
