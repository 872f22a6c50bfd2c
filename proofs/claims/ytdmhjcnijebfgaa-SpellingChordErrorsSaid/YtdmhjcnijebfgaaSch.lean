/- Slices of slices of pitches that a call grows; choices of package spelling: contracts. -/
import Derived.Test.YtdmhjcnijebfgaaScost
namespace Go.Proofs.Ytdmhjcnijebfgaa
open Go.RowKit
set_option linter.unusedVariables false

abbrev PITS : TypeId := 24
/-- A slice that reads as the cells xs, in a block of type e. -/
def SlT (e : TypeId) (w : World) (v : Value) (n : Nat) (xs : List Value) : Prop :=
  ∃ A c, v = .slice A n c ∧ n ≤ c ∧ c ≤ maxLen ∧ (xs = [] ∨ ∃ b off cs fr, A = some ⟨b, off, none⟩ ∧ w.heap[b]? = some (.cells cs e fr) ∧ ∀ j u, xs[j]? = some u → cs[off + j]? = some u)
theorem SlT.one {e : TypeId} {w : World} {v : Value} {n : Nat} {xs : List Value} (h : SlT e w v n xs) : v.oneCell' = true := by
  obtain ⟨A, c, rfl, _⟩ := h; rfl
theorem SlT.keep {e : TypeId} {w w' : World} {v : Value} {n : Nat} {xs : List Value} (h : SlT e w v n xs) (hk : ∀ (b : Nat) (cs : Array Value) (fr : Nat × Nat), w.heap[b]? = some (Obj.cells cs e fr) → w'.heap[b]? = some (Obj.cells cs e fr)) : SlT e w' v n xs := by
  obtain ⟨A, c, hv, h1, h2, h3⟩ := h
  refine ⟨A, c, hv, h1, h2, ?_⟩
  rcases h3 with h3 | ⟨b, off, cs, fr, hA, hb, hc⟩
  · exact .inl h3
  · exact .inr ⟨b, off, cs, fr, hA, hk _ _ _ hb, hc⟩
theorem heap_lt {w : World} {k : Nat} {o : Obj} (h : w.heap[k]? = some o) : k < w.heap.size := (Array.getElem?_eq_some_iff.1 h).1
theorem SlT.below {e : TypeId} {w w' : World} {v : Value} {n : Nat} {xs : List Value} (h : SlT e w v n xs) (hb : Below w.heap.size w w') : SlT e w' v n xs :=
  h.keep fun b cs fr hh => (hb.block b (heap_lt hh)).trans hh
theorem SlT.rd {e : TypeId} {w : World} {v : Value} {n : Nat} {xs : List Value} (h : SlT e w v n xs) : ∃ A c, v = .slice A n c ∧ n ≤ c ∧ c ≤ maxLen ∧ Rd w w.heap.size A xs := by
  obtain ⟨A, c, hv, h1, h2, h3⟩ := h
  refine ⟨A, c, hv, h1, h2, ?_⟩
  rcases h3 with h3 | ⟨b, off, cs, fr, hA, hb, hc⟩
  · exact .inl h3
  · refine .inr ⟨b, off, hA, heap_lt hb, fun j u hu => ?_⟩
    rw [cell_of_row w b (off + j) _ _ _ hb]
    exact hc j u hu
theorem SlT.own {e : TypeId} {base size : Nat} {w : World} {v : Value} {n : Nat} {xs : List Value} (h : w.ownsRow base e size v n xs) : SlT e w v n xs := by
  obtain ⟨h1, h2⟩ := id h
  rcases h2 with ⟨rfl, rfl⟩ | ⟨g, cap, cur, rfl, hg, hh, hc, hm, _, ht⟩
  · exact ⟨none, 0, rfl, Nat.le_refl _, Nat.zero_le _, .inl (List.eq_nil_of_length_eq_zero (by simpa using h1))⟩
  · refine ⟨some ⟨g, 0, none⟩, cap, rfl, hc, hm, .inr ⟨g, 0, cur, (0, 0), rfl, hh, fun j u hu => ?_⟩⟩
    have := h.cells (g := g) rfl j u hu
    have hadd : (⟨g, 0, none⟩ : Addr).add j = ⟨g, 0 + j, none⟩ := by unfold Addr.add; split <;> simp_all
    rw [hadd, cell_of_row w g (0 + j) _ _ _ hh] at this
    exact this
theorem own_ty {w : World} {base size n : Nat} {e t : TypeId} {v : Value} {xs : List Value} {k : Nat} {cs : Array Value} {fr : Nat × Nat} (h : w.ownsRow base e size v n xs) (hk : w.heap[k]? = some (.cells cs t fr)) (hne : t ≠ e) : some k ≠ v.ownBlock := by
  intro e'
  rcases h.2 with ⟨rfl, _⟩ | ⟨g, cap, cur, rfl, _, hg, _⟩
  · simp [Value.ownBlock] at e'
  · have : k = g := by simpa [Value.ownBlock] using e'
    subst this
    rw [hk] at hg
    injection hg with hg
    injection hg with _ ht _
    exact hne ht
theorem heap_alloc_old {w : World} {o o' : Obj} {k : Nat} (h : w.heap[k]? = some o') : (w.alloc o).heap[k]? = some o' := (Below.heap_alloc w o k (Array.getElem?_eq_some_iff.1 h).1).trans h

abbrev SlP (w : World) (v : Value) (L : List Pit) : Prop := SlT PIT w v L.length (pitsC L)
abbrev SlI (w : World) (v : Value) (l : List Int) : Prop := SlT INT w v l.length (ints l)
/-- A slice of slices of pitches that has grown since W. -/
def AccS (W w : World) (v : Value) (Ls : List (List Pit)) : Prop :=
  ∃ vs : List Value, vs.length = Ls.length ∧ Acc PITS 1 W w v vs.length vs ∧ ∀ j, j < Ls.length → SlP w (vs.getD j undef) (Ls.getD j [])
theorem accS_nil (W : World) : AccS W W (.slice none 0 0) [] := ⟨[], rfl, acc_nil _ _ _, fun j hj => absurd hj (Nat.not_lt_zero _)⟩
theorem AccS.below {W w w' : World} {v : Value} {Ls : List (List Pit)} (h : AccS W w v Ls) (hb : Below w.heap.size w w') : AccS W w' v Ls := by
  obtain ⟨vs, h1, h2, h3⟩ := h
  exact ⟨vs, h1, acc_below h2 hb, fun j hj => (h3 j hj).below hb⟩
theorem AccS.old {W w : World} {v : Value} {Ls : List (List Pit)} (h : AccS W w v Ls) : Below W.heap.size W w := by
  obtain ⟨vs, h1, h2, h3⟩ := h
  exact h2.below
theorem infoPits : (Try.prog.info? PITS).map (fun i => (i.zero, i.size, i.bytes)) = some (some (.slice none 0 0), 1, 24) := by kernel_rfl
theorem getD_snoc {β : Type} (l : List β) (x z : β) (j : Nat) (hj : j < l.length + 1) : (l ++ [x]).getD j z = if j < l.length then l.getD j z else x := by
  split
  · rename_i h
    rw [List.getD_eq_getElem?_getD, List.getElem?_append_left h, ← List.getD_eq_getElem?_getD]
  · rename_i h
    obtain rfl : j = l.length := by omega
    rw [List.getD_eq_getElem?_getD, List.getElem?_append_right (Nat.le_refl _), Nat.sub_self]
    rfl
theorem wpList_pushS {ops : Array Oper} {rest : List Oper} {o : Oper} {a : Act} {Q : Exit → Act → World → Prop} (hgd : o.guard = none) (s x : Operand)
    (ho : o.op = .call { callee := .builtin .append, args := #[s, x], argTypes := #[46, 46] })
    {W w : World} {v v0 : Value} {Ls : List (List Pit)} {L : List Pit} (hacc : AccS W w v Ls) (h0 : SlP w v0 L) (hs : a.eval s = v) (hx : a.eval x = .slice (some ⟨w.heap.size, 0, none⟩) 1 1) (hl : Ls.length ≤ 60000)
    (h : ∀ v' w', AccS W w' v' (Ls ++ [L]) → wpList Try.prog ops Q rest (a.put o.dst v') w') : wpList Try.prog ops Q (o :: rest) a (w.alloc (.cells #[v0] PITS)) := by
  obtain ⟨vs, g1, g2, g3⟩ := hacc
  obtain ⟨i, hi, hz, hz1, hz2⟩ := info_parts infoPits
  have hb : Below w.heap.size w (w.alloc (.cells #[v0] PITS)) := (Below.refl _ w).alloc (Nat.le_refl _) _
  have hown0 := g2.own.alloc (.cells #[v0] PITS)
  refine wpList_append_own _ hgd s x 46 ho W.heap.size PITS i _ 1 24 Try.underlying46 hi hz hz1 hz2 rfl (by decide) v vs.length vs hs hown0 ⟨w.heap.size, 0, none⟩ 1 1 [v0] hx rfl (new_cells w [v0] PITS) (by intro u hu; rw [List.mem_singleton.1 hu]; exact h0.one)
    (by unfold maxLen; omega) (by omega) (by have := g2.below.size; simp; omega) ?_
  intro v' w' hown hgrow _
  have hkeep : ∀ (v1 : Value) (L1 : List Pit), SlP w v1 L1 → SlP w' v1 L1 := fun v1 L1 h1 => (h1.below hb).keep fun b cs fr hh => (hgrow.block b (heap_lt hh) (own_ty hown0 hh (by decide))).trans hh
  refine h v' w' ⟨vs ++ [v0], by simp [g1], ⟨by rw [List.length_append]; exact hown, (acc_alloc g2 _).below.grown hgrow (acc_alloc g2 _).below.size (fun k hk => (g2.own.lt k hk).1)⟩, fun j hj => ?_⟩
  rw [List.length_append] at hj
  have hj' : j < Ls.length + 1 := hj
  rw [getD_snoc vs v0 undef j (by omega), getD_snoc Ls L [] j hj', g1]
  split
  · rename_i hlt
    exact hkeep _ _ (g3 j hlt)
  · exact hkeep _ _ h0

/-- What a slice of slices of pitches reads as. -/
def Rd2 (w : World) (A : Option Addr) (Ls : List (List Pit)) : Prop :=
  ∃ vs : List Value, vs.length = Ls.length ∧ Rd w w.heap.size A vs ∧ ∀ j, j < Ls.length → ∃ A' c', vs.getD j undef = .slice A' (Ls.getD j []).length c' ∧ (Ls.getD j []).length ≤ c' ∧ c' ≤ maxLen ∧ Rd w w.heap.size A' (pitsC (Ls.getD j []))
theorem Rd2.below {w w' : World} {A : Option Addr} {Ls : List (List Pit)} (h : Rd2 w A Ls) (hb : Below w.heap.size w w') : Rd2 w' A Ls := by
  obtain ⟨vs, h1, h2, h3⟩ := h
  refine ⟨vs, h1, rd_below h2 hb, fun j hj => ?_⟩
  obtain ⟨A', c', g1, g2, g3, g4⟩ := h3 j hj
  exact ⟨A', c', g1, g2, g3, rd_below g4 hb⟩
theorem AccS.rd2 {W w : World} {v : Value} {Ls : List (List Pit)} (h : AccS W w v Ls) : ∃ A c, v = .slice A Ls.length c ∧ Ls.length ≤ c ∧ c ≤ maxLen ∧ Rd2 w A Ls := by
  obtain ⟨vs, h1, h2, h3⟩ := h
  obtain ⟨A, c, hv, hc, hm, hr⟩ := acc_form h2
  rw [h1] at hv hc
  exact ⟨A, c, hv, hc, hm, vs, h1, hr, fun j hj => (h3 j hj).rd⟩
/-- One slice of the slice. -/
theorem Rd2.at {w : World} {A : Option Addr} {Ls : List (List Pit)} (h : Rd2 w A Ls) {k : Nat} (hk : k < Ls.length) :
    ∃ b off A' c', A = some ⟨b, off, none⟩ ∧ b < w.heap.size ∧ w.cell? ⟨b, off + k, none⟩ = some (.slice A' (Ls.getD k []).length c') ∧ (Ls.getD k []).length ≤ c' ∧ c' ≤ maxLen ∧ Rd w w.heap.size A' (pitsC (Ls.getD k [])) := by
  obtain ⟨vs, h1, h2, h3⟩ := h
  obtain ⟨A', c', g1, g2, g3, g4⟩ := h3 k hk
  obtain ⟨b, off, rfl, hlb, hcell⟩ := rd_pos h2 (by omega)
  refine ⟨b, off, A', c', rfl, hlb, ?_, g2, g3, g4⟩
  have hv : vs[k]? = some (vs.getD k undef) := by rw [List.getD_eq_getElem?_getD, List.getElem?_eq_getElem (by omega)]; rfl
  rw [← g1]
  exact hcell k _ hv

/-- choices: the enharmonics of each number; or the error. -/
def ChPost (l : List Int) (w : World) (e : Ending) (w' : World) : Prop :=
  Below w.heap.size w w' ∧ ((∀ n ∈ l, 0 ≤ n ∧ n ≤ 127) → ∃ A c, e = .returned (.tuple #[.slice A l.length c, .int .i64 0]) ∧ l.length ≤ c ∧ c ≤ maxLen ∧ Rd2 w' A (l.map enh)) ∧
    ((∃ n ∈ l, n < 0 ∨ 127 < n) → e = .returned (.tuple #[.slice none 0 0, .int .i64 2]))
set_option maxHeartbeats 1000000 in
theorem choices_any (A : Option Addr) (c : Nat) (l : List Int) (w : World) (hrd : Rd w w.heap.size A (ints l)) (hn : l.length ≤ 2000) :
    Calls Try.prog 28 #[.slice A l.length c] w (ChPost l w) := by
  have Hrd := Lib.hid hrd
  clear hrd
  go_enter Try.func28, Try.ntmps28
  go_wp2_with fail
  go_loopw [4, 11] (fun v i wr => ∃ k : Nat, k ≤ l.length ∧ i = .int .i64 (k : Int) ∧ Hid (∀ n ∈ l.take k, 0 ≤ n ∧ n ≤ 127) ∧ AccS w wr v ((l.take k).map enh)) (fun _ i _ => l.length - (intOf i).toNat)
  case atStart => exact ⟨0, by omega, rfl, Lib.hid (by intro n hn; cases hn), accS_nil _⟩
  case round =>
    obtain ⟨k, hk, rfl, hall, hacc⟩ := hrel
    by_cases hlt : k < l.length
    · have k0 : (0 : Int) ≤ (k : Int) := by omega
      have k1 : (k : Int) < (l.length : Int) := by omega
      obtain ⟨b, off, rfl, hlb, q0⟩ := rdI Hrd.out hlt
      have c0 := (hacc.old.cell (p := ⟨b, off + k, none⟩) hlb).trans q0
      have hts : l.take (k + 1) = l.take k ++ [l.getD k 0] := by
        rw [List.take_succ_eq_append_getElem hlt, get_getD l 0 hlt]
      have hmem : l.getD k 0 ∈ l := getD_memL l 0 hlt
      have Hts := Lib.hid hts
      have Hmem := Lib.hid hmem
      have hlen : ((l.take k).map enh).length ≤ 60000 := by rw [List.length_map, List.length_take]; omega
      clear q0 hts hmem
      generalize l.getD k 0 = n at *
      by_cases hr : 0 ≤ n ∧ n ≤ 127
      · obtain ⟨n0, n1⟩ := hr
        go_wp2_with (first
          | (go_at_call 41; refine (enharm_ok _ _ n0 n1).mono ?_; rintro e w1 ⟨v1, rfl, ha1⟩; have hacc1 := hacc.below ha1.below; have hs1 := SlT.own ha1.own; obtain ⟨A1, c1, hv1, _⟩ := id hs1; subst hv1)
          | (at_builtin; refine wpList_pushS rfl _ _ rfl hacc1 hs1 (by rfl) (by rfl) hlen ?_; intro v' w3 hacc3))
        go_roundw
        case rel =>
          refine ⟨k + 1, by omega, by go_num, Lib.hid ?_, ?_⟩
          · intro m hm
            rw [Hts.out] at hm
            rcases List.mem_append.1 hm with hm | hm
            · exact hall.out m hm
            · rw [List.mem_singleton.1 hm]; exact ⟨n0, n1⟩
          · rw [Hts.out, List.map_append]; exact hacc3
        case measure => simp [intOf]; omega
      · have hbad : n < 0 ∨ 127 < n := by omega
        clear hr
        go_wp2_with (first
          | (go_at_call 41; refine (enharm_bad _ _ hbad).mono ?_; rintro e w1 ⟨rfl, hb1⟩))
        go_returns
        refine ⟨hacc.old.trans (hb1.mono hacc.old.size), fun hg => ?_, fun _ => rfl⟩
        have := hg n Hmem.out
        exact absurd hbad (by omega)
    · obtain rfl : k = l.length := by omega
      rw [List.take_length] at hacc
      have Hall := hall
      clear hall
      go_wp2_with fail
      go_returns
      refine ⟨hacc.old, fun _ => ?_, fun ⟨n, hn, hb⟩ => ?_⟩
      · obtain ⟨A', c', rfl, h1, h2, h3⟩ := hacc.rd2
        rw [List.length_map] at h1 ⊢
        exact ⟨A', c', rfl, h1, h2, h3⟩
      · have := Hall.out n (by rw [List.take_length]; exact hn)
        exact absurd hb (by omega)
end Go.Proofs.Ytdmhjcnijebfgaa
