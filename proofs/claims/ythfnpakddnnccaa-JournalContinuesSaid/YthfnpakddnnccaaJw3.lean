/- A journal and its file in memory, and beside them a slice of strings that the caller itself grows. -/
import Derived.Test.YthfnpakddnnccaaJw2
namespace Go.Proofs.Ythfnpakddnnccaa
open Go.RowKit
set_option linter.unusedVariables false

/-- A journal, its file, and a slice of strings of the caller's own. -/
def JA (B : Nat) (w : World) (J f : Nat) (s : JS) (t : FS) (W : World) (va : Value) (n : Nat) (xs : List Value) : Prop :=
  ∃ v1 v2 v, JourAt B W J f v1 v2 s ∧ FileAt B W f v t ∧ Below B w W ∧ B ≤ W.heap.size ∧ W.ownsRow B STR 1 va n xs ∧ ∀ k, va.ownBlock = some k → some k ≠ v1.ownBlock
theorem JA.later {B : Nat} {w : World} {J f : Nat} {s : JS} {t : FS} {W W' : World} {va : Value} {n : Nat} {xs : List Value} (h : JA B w J f s t W va n xs) (hb : Below W.heap.size W W') : JA B w J f s t W' va n xs := by
  obtain ⟨v1, v2, v, h1, h2, h3, h4, h5, h6⟩ := h
  exact ⟨v1, v2, v, h1.below hb, h2.below hb, h3.trans (hb.mono h4), Nat.le_trans h4 hb.size, own_below h5 hb, h6⟩
theorem JA.jx {B : Nat} {w : World} {J f : Nat} {s : JS} {t : FS} {W : World} {va : Value} {n : Nat} {xs : List Value} (h : JA B w J f s t W va n xs) : JX B w J f s t W := by
  obtain ⟨v1, v2, v, h1, h2, h3, h4, h5, h6⟩ := h
  exact ⟨v1, v2, v, h1, h2, h3, h4⟩
theorem own_base {w : World} {base base' size n : Nat} {e : TypeId} {v : Value} {xs : List Value} (h : w.ownsRow base e size v n xs) (hb : base' ≤ base) : w.ownsRow base' e size v n xs := by
  refine ⟨h.1, ?_⟩
  rcases h.2 with hn | ⟨g, cap, cur, hv, hg, rest⟩
  · exact .inl hn
  · exact .inr ⟨g, cap, cur, hv, Nat.le_trans hb hg, rest⟩
/-- A row made since. -/
theorem JX.with {B : Nat} {w : World} {J f : Nat} {s : JS} {t : FS} {W W' : World} {va : Value} {n : Nat} {xs : List Value} (h : JX B w J f s t W) (hb : Below W.heap.size W W') (hrow : W'.ownsRow W.heap.size STR 1 va n xs) : JA B w J f s t W' va n xs := by
  obtain ⟨v1, v2, v, h1, h2, h3, h4⟩ := h
  refine ⟨v1, v2, v, h1.below hb, h2.below hb, h3.trans (hb.mono h4), Nat.le_trans h4 hb.size, own_base hrow h4, fun k hk e => ?_⟩
  have g1 := (own_none_or h1.row1 e.symm).1
  have g2 := (hrow.lt k hk).1
  omega
theorem ja_append (B : Nat) (w : World) (J f : Nat) (rs : List ByteArray) (syn : Nat) (lim : Int) (r : ByteArray) (W : World) (va : Value) (n : Nat) (xs : List Value) (h : JA B w J f (jst rs false) ⟨catR 0 rs, syn, lim, false⟩ W va n xs) (hl : -1 ≤ lim) (hu : lim < 9223372036854775808) (h0 : lim ≠ 0)
    (hn : rs.length ≤ 64) (hr : ∀ q ∈ rs, q.size ≤ 40) (hr0 : r.size ≤ 40) :
    Calls Try.prog 27 #[.pointer (some ⟨J, 0, none⟩), .string r] W fun e W' => e = .returned (.tuple #[.int .i64 (rs.length : Int), .int .i64 0]) ∧ JA B w J f (jst (rs ++ [r]) false) ⟨catR 0 (rs ++ [r]), syn, max (lim - 1) (-1), false⟩ W' va n xs := by
  obtain ⟨v1, v2, v, h1, h2, h3, h4, h5, h6⟩ := h
  have hsm := small_catR rs 0 hr
  have hA : fAppend (encS rs.length r) ⟨catR 0 rs, syn, lim, false⟩ = (⟨catR 0 (rs ++ [r]), syn, max (lim - 1) (-1), false⟩, 0) := by
    unfold fAppend
    rw [if_neg Bool.false_ne_true, if_neg h0, catR_snoc, Nat.zero_add]
  have hc := jappend_ok B J f v1 v2 v (jst rs false) ⟨catR 0 rs, syn, lim, false⟩ r W h1 h2 h4 rfl (by omega) (by show rs.length ≤ 65536; omega) (by rw [jst_len]; show rs.length ≤ 65536; omega) hl hu
    (by show (catR 0 rs).size + (12 + r.size) ≤ 16777216; omega) (by show (fAppend (encS rs.length r) _).2 = 0; rw [hA])
  refine hc.mono ?_
  rintro e W' ⟨rfl, v1', v2', v', g1, g2, g3, g4, g5⟩
  refine ⟨rfl, v1', v2', v', ?_, ?_, h3.trans g3, Nat.le_trans h4 g3.size, row_touch h5 fun k hk hlt => ?_, fun k hk => ?_⟩
  · have e1 : (⟨(jst rs false).recs ++ [r], (jst rs false).ends ++ [(fAppend (encS (jst rs false).recs.length r) ⟨catR 0 rs, syn, lim, false⟩).1.bytes.size], false⟩ : JS) = jst (rs ++ [r]) false := by
      show (⟨rs ++ [r], (posL 0 rs).map (·.1) ++ [(fAppend (encS rs.length r) ⟨catR 0 rs, syn, lim, false⟩).1.bytes.size], false⟩ : JS) = _
      rw [hA]
      exact jst_snoc rs r
    rw [e1] at g1
    exact g1
  · have e2 : (fAppend (encS (jst rs false).recs.length r) ⟨catR 0 rs, syn, lim, false⟩).1 = ⟨catR 0 (rs ++ [r]), syn, max (lim - 1) (-1), false⟩ := by
      show (fAppend (encS rs.length r) _).1 = _
      rw [hA]
    rw [e2] at g2
    exact g2
  · obtain ⟨_, cur, hcur⟩ := own_none_or h5 hk
    rw [g4.2 k cur (0, 0) hcur (h6 k hk)]
    exact hcur.symm
  · intro e
    have hklt := (own_none_or h5 hk).1
    rcases g5 with g5 | g5
    · exact h6 k hk (e.trans g5)
    · have := g5 k e.symm
      omega
/-- 'all = append(all, x)'. -/
theorem wpList_pushA {ops : Array Oper} {rest : List Oper} {o : Oper} {a : Act} {Q : Exit → Act → World → Prop} (hgd : o.guard = none) (s x : Operand)
    (ho : o.op = .call { callee := .builtin .append, args := #[s, x], argTypes := #[35, 35] })
    {B : Nat} {w : World} {J f : Nat} {js : JS} {t : FS} {W : World} {va : Value} {n : Nat} {xs : List Value} (r : ByteArray) (h : JA B w J f js t W va n xs) (hs : a.eval s = va) (hx : a.eval x = .slice (some ⟨W.heap.size, 0, none⟩) 1 1) (hn : n + 1 ≤ 65536)
    (next : ∀ A c W', JA B w J f js t W' (.slice A (n + 1) c) (n + 1) (xs ++ [.string r]) → wpList Try.prog ops Q rest (a.put o.dst (.slice A (n + 1) c)) W') : wpList Try.prog ops Q (o :: rest) a (W.alloc (.cells #[.string r] STR)) := by
  obtain ⟨i0, hi, hz0, hz1, hz2⟩ := info_parts (show (Try.prog.info? STR).map (fun i => (i.zero, i.size, i.bytes)) = some (some (.string ⟨#[]⟩), 1, 16) from by kernel_rfl)
  have hb : Below W.heap.size W (W.alloc (.cells #[.string r] STR)) := (Below.refl _ W).alloc (Nat.le_refl _) _
  obtain ⟨v1, v2, v, h1, h2, h3, h4, h5, h6⟩ := h.later hb
  have hko := fun k hk => (own_none_or (by obtain ⟨_, _, _, _, _, _, _, g5, _⟩ := h; exact g5) (k := k) hk).1
  refine wpList_append_lies _ hgd s x 35 ho B STR i0 _ 1 16 Try.underlying35 hi hz0 hz1 hz2 rfl (by decide) va n xs hs h5 ⟨W.heap.size, 0, none⟩ 1 1 [.string r] hx rfl (new_cells W [.string r] STR) (by intro u hu; rw [List.mem_singleton.1 hu]; rfl) (by decide) (by unfold maxLen; omega) (by omega) h4 (W.heap.size + 1) (by simp) ?_
  intro g cap W' hown hgrow hor _
  have keep : ∀ (k : Nat) (cs : Array Value) (ty : TypeId) (fr : Nat × Nat), (W.alloc (.cells #[.string r] STR)).heap[k]? = some (Obj.cells cs ty fr) → ty ≠ STR → W'.heap[k]? = some (Obj.cells cs ty fr) := fun k cs ty fr hk hne =>
    (hgrow.block k (Array.getElem?_eq_some_iff.1 hk).1 (own_ty h5 hk hne)).trans hk
  refine next _ _ _ ⟨v1, v2, v, ⟨keep _ _ _ _ h1.jb (by decide), row_touch h1.row1 fun k hk hlt => hgrow.block k hlt (fun e => h6 k e.symm hk.symm), own_grown h1.row2 h5 (by decide) hgrow, h1.ge⟩,
    ⟨own_grown h2.row h5 (by decide) hgrow, keep _ _ _ _ h2.blk (by decide), h2.ge⟩, h3.grown hgrow h4 (fun k hk => (h5.lt k hk).1), Nat.le_trans h4 hgrow.size, hown, fun k hk => ?_⟩
  have hkg : g = k := by simpa [Value.ownBlock] using hk
  subst hkg
  rcases hor with e | e
  · exact h6 g e
  · intro e'
    have := (own_none_or h1.row1 e'.symm).1
    rw [World.size_alloc] at this
    omega
/-- Open beside the row. -/
theorem ja_open (B f : Nat) (w : World) (L : List ByteArray) (hL : L.length ≤ 64) (hLs : ∀ r ∈ L, r.size ≤ 40) (s : JS) (J : Nat) (syn : Nat) (W : World) (va : Value) (n : Nat) (xs : List Value) (h : JA B w J f s ⟨catR 0 L, syn, -1, false⟩ W va n xs) :
    Calls Try.prog 24 #[.pointer (some ⟨f, 0, none⟩)] W fun e W' => e = .returned (.tuple #[.pointer (some ⟨W.heap.size, 0, none⟩), .int .i64 0]) ∧ JX B w W.heap.size f (jst L false) ⟨catR 0 L, (catR 0 L).size, -1, false⟩ W' ∧ W'.ownsRow B STR 1 va n xs := by
  obtain ⟨v1, v2, v, h1, h2, h3, h4, h5, h6⟩ := h
  have hsm := small_catR L 0 hLs
  have hsc := scan_all L (fun r hr => by have := hLs r hr; omega) (by omega)
  exact (jw_open B f w v _ W h2 h3 h4 L rfl rfl (by show (catR 0 L).size ≤ 1048576; omega) hsc (by show (catR 0 L).extract 0 (endOf (scanL (catR 0 L))) = _; rw [hsc, posL_end]; exact ByteArray.extract_zero_size)).mono fun e W' ⟨he, g1, g2⟩ => ⟨he, g1, row_touch h5 fun k hk hlt => by
    obtain ⟨_, cur, hcur⟩ := own_none_or h5 hk
    exact g2.block k hlt (ty_ne h2.blk hcur (by decide)) (by simp)⟩
end Go.Proofs.Ythfnpakddnnccaa
