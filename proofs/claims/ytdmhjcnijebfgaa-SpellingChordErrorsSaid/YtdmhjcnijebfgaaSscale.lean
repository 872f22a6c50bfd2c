/- Scale, of the package and of the reference; All and Enharmonics of the reference of pitch: contracts. -/
import Derived.Test.YtdmhjcnijebfgaaScosts
namespace Go.Proofs.Ytdmhjcnijebfgaa
open Go.RowKit
set_option linter.unusedVariables false

/-- The pitches of the numbers from n on, k of them, that are in the key. -/
def inK (f n : Int) : List Pit := (enh n).filter fun p => outQ f p == 0
def scT (f n : Int) : Nat → List Pit
  | 0 => []
  | k + 1 => scT f n k ++ inK f (n + (k : Int))
theorem inK_le_f : ∀ (f : Fin 15) (n : Fin 128), (inK ((f.val : Int) - 7) (n.val : Int)).length ≤ 1 := by decide +kernel
theorem fin15 {f : Int} (h0 : -7 ≤ f) (h1 : f ≤ 7) : ∃ k : Fin 15, f = (k.val : Int) - 7 := ⟨⟨(f + 7).toNat, by omega⟩, by show f = (((f + 7).toNat : Nat) : Int) - 7; omega⟩
theorem inK_le {f n : Int} (hf : -7 ≤ f) (hf' : f ≤ 7) (h0 : 0 ≤ n) (h1 : n ≤ 127) : (inK f n).length ≤ 1 := by
  obtain ⟨k, rfl⟩ := fin15 hf hf'
  obtain ⟨m, rfl⟩ := fin_int h0 h1
  exact inK_le_f k m
theorem scT_len (f n : Int) (hf : -7 ≤ f) (hf' : f ≤ 7) (h0 : 0 ≤ n) : ∀ k : Nat, n + (k : Int) ≤ 128 → (scT f n k).length ≤ k := by
  intro k
  induction k with
  | zero => intro _; exact Nat.le_refl _
  | succ k ih =>
    intro h
    have h1 := ih (by omega)
    have h2 := inK_le hf hf' (n := n + (k : Int)) (by omega) (by omega)
    show (scT f n k ++ inK f (n + (k : Int))).length ≤ k + 1
    rw [List.length_append]; omega
/-- Is the number that is r above the key's first in the scale? -/
def dia (r : Int) : Nat := if r = 0 ∨ r = 2 ∨ r = 4 ∨ r = 5 ∨ r = 7 ∨ r = 9 ∨ r = 11 then 1 else 0
theorem inK_cnt_f : ∀ (f : Fin 15) (n : Fin 128), n.val = 0 ∨ (inK ((f.val : Int) - 7) (n.val : Int)).length = dia (((n.val : Int) - 7 * ((f.val : Int) - 7)) % 12) := by decide +kernel
theorem inK_cnt {f n : Int} (hf : -7 ≤ f) (hf' : f ≤ 7) (h0 : 1 ≤ n) (h1 : n ≤ 127) : (inK f n).length = dia ((n - 7 * f) % 12) := by
  obtain ⟨k, rfl⟩ := fin15 hf hf'
  obtain ⟨m, rfl⟩ := fin_int (by omega) h1
  rcases inK_cnt_f k m with h | h
  · omega
  · exact h
theorem zero_f : ∀ f : Fin 15, 7 ≤ (scT ((f.val : Int) - 7) 0 13).length := by decide +kernel
theorem dia_sum_f : ∀ r : Fin 12, dia (r.val : Int) + dia (((r.val : Int) + 1) % 12) + dia (((r.val : Int) + 2) % 12) + dia (((r.val : Int) + 3) % 12) + dia (((r.val : Int) + 4) % 12) + dia (((r.val : Int) + 5) % 12) + dia (((r.val : Int) + 6) % 12) + dia (((r.val : Int) + 7) % 12) + dia (((r.val : Int) + 8) % 12) + dia (((r.val : Int) + 9) % 12) + dia (((r.val : Int) + 10) % 12) + dia (((r.val : Int) + 11) % 12) = 7 := by decide +kernel
theorem scT_mono (f n : Int) : ∀ (k m : Nat), k ≤ m → ∃ X, scT f n m = scT f n k ++ X := by
  intro k m h
  induction m with
  | zero => obtain rfl : k = 0 := by omega
            exact ⟨[], by simp⟩
  | succ m ih =>
    by_cases e : k = m + 1
    · subst e; exact ⟨[], by simp⟩
    · obtain ⟨X, hX⟩ := ih (by omega)
      exact ⟨X ++ inK f (n + (m : Int)), by show scT f n m ++ _ = _; rw [hX, List.append_assoc]⟩
theorem scT_len_mono (f n : Int) {k m : Nat} (h : k ≤ m) : (scT f n k).length ≤ (scT f n m).length := by
  obtain ⟨X, hX⟩ := scT_mono f n k m h
  rw [hX, List.length_append]; omega
theorem scT_twelve (f n : Int) (hf : -7 ≤ f) (hf' : f ≤ 7) (h0 : 0 ≤ n) (h1 : n ≤ 116) : 7 ≤ (scT f n (128 - n).toNat).length := by
  rcases Int.lt_or_le 0 n with hn | hn
  · have h := scT_len_mono f n (k := 12) (m := (128 - n).toNat) (by omega)
    have e : (scT f n 12).length = 7 := by
      have c := fun i : Nat => fun (hi : i < 12) => inK_cnt hf hf' (n := n + (i : Int)) (by omega) (by omega)
      show (scT f n 0 ++ inK f (n + (0 : Nat)) ++ inK f (n + (1 : Nat)) ++ inK f (n + (2 : Nat)) ++ inK f (n + (3 : Nat)) ++ inK f (n + (4 : Nat)) ++ inK f (n + (5 : Nat)) ++ inK f (n + (6 : Nat)) ++ inK f (n + (7 : Nat)) ++ inK f (n + (8 : Nat)) ++ inK f (n + (9 : Nat)) ++ inK f (n + (10 : Nat)) ++ inK f (n + (11 : Nat))).length = 7
      simp only [List.length_append]
      rw [c 0 (by omega), c 1 (by omega), c 2 (by omega), c 3 (by omega), c 4 (by omega), c 5 (by omega), c 6 (by omega), c 7 (by omega), c 8 (by omega), c 9 (by omega), c 10 (by omega), c 11 (by omega)]
      obtain ⟨r, hr⟩ : ∃ r : Fin 12, (r.val : Int) = (n - 7 * f) % 12 := ⟨⟨((n - 7 * f) % 12).toNat, by omega⟩, by show ((((n - 7 * f) % 12).toNat : Nat) : Int) = _; omega⟩
      have d := dia_sum_f r
      rw [hr] at d
      have m : ∀ i : Nat, (n + (i : Int) - 7 * f) % 12 = ((n - 7 * f) % 12 + (i : Int)) % 12 := fun i => by omega
      rw [m 0, m 1, m 2, m 3, m 4, m 5, m 6, m 7, m 8, m 9, m 10, m 11]
      have e0 : ((n - 7 * f) % 12 + ((0 : Nat) : Int)) % 12 = (n - 7 * f) % 12 := by omega
      rw [e0]
      show (scT f n 0).length + _ + _ + _ + _ + _ + _ + _ + _ + _ + _ + _ + _ = 7
      have z : (scT f n 0).length = 0 := rfl
      rw [z, Nat.zero_add]
      exact d
    omega
  · obtain rfl : n = 0 := by omega
    obtain ⟨k, rfl⟩ := fin15 hf hf'
    have h := scT_len_mono ((k.val : Int) - 7) 0 (k := 13) (m := (128 - (0 : Int)).toNat) (by decide)
    have := zero_f k
    omega
/-- The seven pitches of a scale. -/
def IsSc (f n : Int) (L : List Pit) : Prop := L.length = 7 ∧ ∃ k : Nat, L = scT f n k
theorem IsSc.uniq {f n : Int} {L M : List Pit} (h : IsSc f n L) (g : IsSc f n M) : L = M := by
  obtain ⟨h1, k, rfl⟩ := h
  obtain ⟨g1, m, rfl⟩ := g
  rcases Nat.le_total k m with e | e
  · obtain ⟨X, hX⟩ := scT_mono f n k m e
    rw [hX, List.length_append] at g1
    have : X = [] := List.eq_nil_of_length_eq_zero (by omega)
    rw [hX, this, List.append_nil]
  · obtain ⟨X, hX⟩ := scT_mono f n m k e
    rw [hX, List.length_append] at h1
    have : X = [] := List.eq_nil_of_length_eq_zero (by omega)
    rw [hX, this, List.append_nil]
theorem scT_ok (f n : Int) : ∀ k : Nat, ∀ p ∈ scT f n k, okQ p ∧ outQ f p = 0 := by
  intro k
  induction k with
  | zero => intro p hp; cases hp
  | succ k ih =>
    intro p hp
    rcases List.mem_append.1 (show p ∈ scT f n k ++ inK f (n + (k : Int)) from hp) with h | h
    · exact ih p h
    · have h1 := List.mem_filter.1 h
      exact ⟨(enh_all h1.1).1, by simpa using h1.2⟩
/-- Of a list, what is in the key among the first j. -/
def inT (f : Int) (L : List Pit) (j : Nat) : List Pit := (L.take j).filter fun p => outQ f p == 0
theorem inT_zero (f : Int) (L : List Pit) : inT f L 0 = [] := rfl
theorem inT_hit {f : Int} {L : List Pit} {j : Nat} (hj : j < L.length) (h : outQ f (L.getD j default) = 0) : inT f L (j + 1) = inT f L j ++ [L.getD j default] := by
  unfold inT
  rw [List.take_succ_eq_append_getElem hj, get_getD L default hj, List.filter_append, List.filter_cons, if_pos (by rw [beq_iff_eq]; exact h), List.filter_nil]
theorem inT_miss {f : Int} {L : List Pit} {j : Nat} (hj : j < L.length) (h : outQ f (L.getD j default) ≠ 0) : inT f L (j + 1) = inT f L j := by
  unfold inT
  rw [List.take_succ_eq_append_getElem hj, get_getD L default hj, List.filter_append, List.filter_cons, if_neg (by rw [beq_iff_eq]; exact h), List.filter_nil, List.append_nil]
theorem inT_all (f : Int) (L : List Pit) : inT f L L.length = L.filter fun p => outQ f p == 0 := by unfold inT; rw [List.take_length]
theorem inT_le (f : Int) (L : List Pit) (j : Nat) : (inT f L j).length ≤ (L.filter fun p => outQ f p == 0).length := by
  have h : L = L.take j ++ L.drop j := (List.take_append_drop j L).symm
  have e : (L.filter fun p => outQ f p == 0) = inT f L j ++ (L.drop j).filter fun p => outQ f p == 0 := by
    unfold inT
    rw [← List.filter_append, List.take_append_drop]
  rw [e, List.length_append]; omega

/-- A slice of pitches that has grown since W, and beside it a block that stays. -/
structure AccE (W w : World) (v : Value) (L : List Pit) (b : Nat) (o : Obj) : Prop where
  acc : AccP W w v L
  blk : w.heap[b]? = some o
  ne : some b ≠ v.ownBlock
theorem AccE.below {W w w' : World} {v : Value} {L : List Pit} {b : Nat} {o : Obj} (h : AccE W w v L b o) (hb : Below w.heap.size w w') : AccE W w' v L b o :=
  ⟨acc_below h.acc hb, (hb.block b (heap_lt h.blk)).trans h.blk, h.ne⟩
theorem wpList_pushPE {ops : Array Oper} {rest : List Oper} {o : Oper} {a : Act} {Q : Exit → Act → World → Prop} (hgd : o.guard = none) (s x : Operand)
    (ho : o.op = .call { callee := .builtin .append, args := #[s, x], argTypes := #[24, 24] })
    {W w : World} {v : Value} {L : List Pit} {b : Nat} {ob : Obj} (c0 c1 c2 : Int) (hacc : AccE W w v L b ob) (hs : a.eval s = v) (hx : a.eval x = .slice (some ⟨w.heap.size, 0, none⟩) 1 1) (hl : L.length ≤ 60000)
    (h : ∀ v' w', AccE W w' v' (L ++ [(c0, c1, c2)]) b ob → wpList Try.prog ops Q rest (a.put o.dst v') w') : wpList Try.prog ops Q (o :: rest) a (w.alloc (.cells #[.int .i64 c0, .int .i64 c1, .int .i64 c2] PIT)) := by
  obtain ⟨i0, hi0, hz, hz1, hz2⟩ := info_parts infoPit
  have hb : Below w.heap.size w (w.alloc (.cells #[.int .i64 c0, .int .i64 c1, .int .i64 c2] PIT)) := (Below.refl _ w).alloc (Nat.le_refl _) _
  have h1 := hacc.below hb
  refine wpList_append_lies _ hgd s x 24 ho W.heap.size PIT i0 _ 3 24 Try.underlying24 hi0 hz hz1 hz2 rfl (by decide) v L.length (pitsC L) hs h1.acc.own ⟨w.heap.size, 0, none⟩ 1 1 [.int .i64 c0, .int .i64 c1, .int .i64 c2] hx rfl (new_cells w [.int .i64 c0, .int .i64 c1, .int .i64 c2] PIT) (by simp [Value.oneCell']) (by decide)
    (by unfold maxLen; omega) (by omega) h1.acc.below.size (w.heap.size + 1) (by simp) ?_
  intro g cap w' hown hgrow hor _
  refine h _ w' ⟨⟨?_, h1.acc.below.grown hgrow h1.acc.below.size (fun k hk => (hacc.acc.own.lt k hk).1)⟩, (hgrow.block b (heap_lt h1.blk) hacc.ne).trans h1.blk, ?_⟩
  · have e : (L ++ [(c0, c1, c2)]).length = L.length + 1 := by simp
    rw [e, pitsC_snoc]
    exact hown
  · intro e
    have e' : b = g := by simpa [Value.ownBlock] using e
    subst e'
    rcases hor with hor | hor
    · exact hacc.ne hor.symm
    · have := heap_lt hacc.blk; omega
/-- The cells of one pitch in a block that is known whole. -/
theorem blkP {w : World} {b off : Nat} {cs : Array Value} {fr : Nat × Nat} {L : List Pit} (hb : w.heap[b]? = some (.cells cs PIT fr)) (hc : ∀ j u, (pitsC L)[j]? = some u → cs[off + j]? = some u) {k : Nat} (hk : k < L.length) :
    w.cell? ⟨b, off + k * 3, none⟩ = some (.int .i64 (L.getD k default).1) ∧ w.cell? ⟨b, off + k * 3 + 1, none⟩ = some (.int .i64 (L.getD k default).2.1) ∧ w.cell? ⟨b, off + k * 3 + 2, none⟩ = some (.int .i64 (L.getD k default).2.2) := by
  obtain ⟨p0, p1, p2⟩ := pitsC_at L k hk
  rw [Nat.add_assoc, Nat.add_assoc, cell_of_row w b _ _ _ _ hb, cell_of_row w b _ _ _ _ hb, cell_of_row w b _ _ _ _ hb]
  exact ⟨hc _ _ p0, hc _ _ p1, hc _ _ p2⟩
/-- A slice that a call has made, not empty, behind one that grows: its block. -/
theorem AccE.make {W w w1 : World} {v v1 : Value} {D E : List Pit} (hacc : AccP W w v D) (ha : AccP w w1 v1 E) (hE : E ≠ []) :
    ∃ b off c cs fr, v1 = .slice (some ⟨b, off, none⟩) E.length c ∧ (∀ j u, (pitsC E)[j]? = some u → cs[off + j]? = some u) ∧ AccE W w1 v D b (.cells cs PIT fr) := by
  have hne : ∀ b, v1.ownBlock = some b → some b ≠ v.ownBlock := fun b hb e => by
    have h1 := (ha.own.lt b hb).1
    have h2 := (own_none_or hacc.own e.symm).1
    omega
  obtain ⟨A, c, hv, _, _, h⟩ := SlT.own ha.own
  rcases h with h | ⟨b, off, cs, fr, rfl, hb, hc⟩
  · have := congrArg List.length h
    rw [pitsC_len] at this
    exact absurd (List.eq_nil_of_length_eq_zero (by have h0 : E.length * 3 = 0 := this; omega)) hE
  · refine ⟨b, off, c, cs, fr, hv, hc, acc_below hacc ha.below, hb, hne b ?_⟩
    rcases ha.own.2 with ⟨e, _⟩ | ⟨g, cap, cur, e, _⟩
    · rw [hv] at e; cases e
    · rw [hv] at e
      injection e with e1
      injection e1 with e1
      injection e1 with e1 e2
      rw [hv, e1, e2]
      rfl

theorem scale_range (f n : Int) (w : World) (h : f < -7 ∨ 7 < f) :
    Calls Try.prog 22 #[.int .i64 f, .int .i64 n] w fun e w' => e = .returned (.tuple #[.slice none 0 0, .int .i64 2]) ∧ Below w.heap.size w w' := by
  go_enter Try.func22, Try.ntmps22
  go_wp2_with (go_at_call 27; refine (guard_bad _ _ _ _ h).mono ?_; rintro e w1 ⟨rfl, hb⟩)
  go_returns
  exact ⟨rfl, hb⟩
theorem scale_from (f n : Int) (w : World) (hf : -7 ≤ f) (hf' : f ≤ 7) (h : n < 0 ∨ 116 < n) :
    Calls Try.prog 22 #[.int .i64 f, .int .i64 n] w fun e w' => e = .returned (.tuple #[.slice none 0 0, .int .i64 2]) ∧ Below w.heap.size w w' := by
  rcases h with h | h
  · go_enter Try.func22, Try.ntmps22
    go_wp2_with (go_at_call 27; refine (guard_ok _ _ _ _ hf hf' (Int.le_refl _)).mono ?_; rintro e w1 ⟨rfl, hb⟩)
    go_returns
    exact ⟨rfl, hb⟩
  · have h1 : 0 ≤ n := by omega
    go_enter Try.func22, Try.ntmps22
    go_wp2_with (go_at_call 27; refine (guard_ok _ _ _ _ hf hf' (Int.le_refl _)).mono ?_; rintro e w1 ⟨rfl, hb⟩)
    go_returns
    exact ⟨rfl, hb⟩
def ScPost (f n : Int) (w : World) (e : Ending) (w' : World) : Prop := ∃ (L : List Pit) (v : Value) (W : World), IsSc f n L ∧ e = .returned (.tuple #[v, .int .i64 0]) ∧ Below w.heap.size w W ∧ AccP W w' v L
set_option maxHeartbeats 4000000 in
theorem scale_ok (f n : Int) (w : World) (hf : -7 ≤ f) (hf' : f ≤ 7) (h0 : 0 ≤ n) (h1 : n ≤ 116) :
    Calls Try.prog 22 #[.int .i64 f, .int .i64 n] w (ScPost f n w) := by
  go_enter Try.func22, Try.ntmps22
  go_wp2_with (go_at_call 27; refine (guard_ok _ _ _ _ hf hf' (Int.le_refl _)).mono ?_; rintro e W ⟨rfl, hbW⟩)
  go_loopw [7, 8] (fun v i wr => ∃ k : Nat, n + (k : Int) ≤ 128 ∧ i = .int .i64 (n + (k : Int)) ∧ Hid ((scT f n k).length ≤ 7) ∧ AccP W wr v (scT f n k)) (fun _ i _ => (128 - intOf i).toNat)
  case atStart => exact ⟨0, by omega, by simp, Lib.hid (Nat.zero_le _), accP_nil _⟩
  case round =>
    obtain ⟨k, hk, rfl, H7, hacc⟩ := hrel
    obtain ⟨A1, c1, hv, _, _, _⟩ := acc_form hacc
    subst hv
    by_cases hgo : (scT f n k).length < 7 ∧ n + (k : Int) ≤ 127
    · obtain ⟨g1, g2⟩ := hgo
      have k1 : decide ((scT f n k).length < 7) = true := decide_eq_true g1
      have k1' : decide (((scT f n k).length : Int) < 7) = true := decide_eq_true (by omega)
      have k1'' : ((scT f n k).length : Int) < 7 := by omega
      have k2 : (0 : Int) ≤ n + (k : Int) := by omega
      have hin := inK_le hf hf' k2 g2
      have hst : scT f n (k + 1) = scT f n k ++ inK f (n + (k : Int)) := rfl
      have hl7 : (scT f n (k + 1)).length ≤ 7 := by rw [hst, List.length_append]; omega
      have hml := enh_small k2 g2
      have hok : ∀ p ∈ enh (n + (k : Int)), okQ p := fun p hp => (enh_all hp).1
      have hinT : inK f (n + (k : Int)) = inT f (enh (n + (k : Int))) (enh (n + (k : Int))).length := (inT_all _ _).symm
      have hstep : n + ((k + 1 : Nat) : Int) = n + (k : Int) + 1 := by omega
      have Hst := Lib.hid hst
      have Hl7 := Lib.hid hl7
      have Hok := Lib.hid hok
      have HinT := Lib.hid hinT
      have Hstep := Lib.hid hstep
      clear hst hl7 hok hinT hin H7 hstep
      generalize hscT : scT f n k = D at *
      clear hscT
      obtain ⟨m, hm⟩ : ∃ m, m = n + (k : Int) := ⟨_, rfl⟩
      have Hm := Lib.hid hm
      rw [← hm] at g2 k2 hml Hok HinT Hst Hstep ⊢
      clear hm
      go_wp2_with (go_at_call 41; refine (enharm_ok _ _ k2 g2).mono ?_; rintro e w1 ⟨v1, rfl, ha1⟩; obtain ⟨b, off, c2, cs, fr, hv1, hcs, hacc1⟩ := AccE.make hacc ha1 (enh_ne k2 g2); subst hv1)
      have Hcs := Lib.hid hcs
      clear hcs hacc ha1
      generalize enh m = E at *
      go_loopw [7, 41] (fun v i wr => ∃ j : Nat, j ≤ E.length ∧ i = .int .i64 (j : Int) ∧ AccE W wr v (D ++ inT f E j) b (.cells cs PIT fr)) (fun _ i _ => E.length - (intOf i).toNat)
      case atStart => exact ⟨0, by omega, rfl, by rw [inT_zero, List.append_nil]; exact hacc1⟩
      case round =>
        clear hacc1
        obtain ⟨j, hj, rfl, hacc⟩ := hrel
        by_cases hlt : j < E.length
        · have j0 : (0 : Int) ≤ (j : Int) := by omega
          have j1 : (j : Int) < (E.length : Int) := by omega
          obtain ⟨c0, c1, c2⟩ := blkP hacc.blk Hcs.out hlt
          have hokp := Hok.out _ (getD_memL E default hlt)
          have hl6 : (D ++ inT f E j).length ≤ 60000 := by
            have : (inT f E j).length ≤ j := by unfold inT; exact Nat.le_trans (List.length_filter_le _ _) (by rw [List.length_take]; omega)
            rw [List.length_append]; omega
          by_cases ho : outQ f (E.getD j default) = 0
          · have Hhit := Lib.hid (inT_hit hlt ho)
            have ho' := ho
            generalize E.getD j default = p at *
            obtain ⟨s, al, o⟩ := p
            dsimp only at c0 c1 c2
            have ho2 : (outQ f (s, al, o) == 0) = true := by rw [beq_iff_eq]; exact ho'
            have Hokp := Lib.hid hokp
            clear ho' ho hokp
            go_wp2_with (first
              | (go_at_call 29; refine (outside_any _ _ _ _ _ Hokp.out hf hf').mono ?_; rintro e w2 ⟨rfl, hb2⟩; obtain ⟨hc2', hf2⟩ := bcell hb2; have hz2 := hb2.size; simp only [World.size_alloc] at hz2; have haccb := hacc.below (base1 hb2))
              | (at_builtin; refine wpList_pushPE rfl _ _ rfl s al o haccb (by rfl) (by rfl) hl6 ?_; intro v3 w3 hacc3))
            go_roundw
            case rel => exact ⟨j + 1, by omega, by go_num, by rw [Hhit.out, ← List.append_assoc]; exact hacc3⟩
            case measure => simp [intOf]; omega
          · have Hmiss := Lib.hid (inT_miss hlt ho)
            have ho' := ho
            generalize E.getD j default = p at *
            obtain ⟨s, al, o⟩ := p
            dsimp only at c0 c1 c2
            have ho2 : (outQ f (s, al, o) == 0) = false := by rw [beq_eq_false_iff_ne]; exact ho'
            have Hokp := Lib.hid hokp
            clear ho' ho hokp
            go_wp2_with (first
              | (go_at_call 29; refine (outside_any _ _ _ _ _ Hokp.out hf hf').mono ?_; rintro e w2 ⟨rfl, hb2⟩; obtain ⟨hc2', hf2⟩ := bcell hb2; have hz2 := hb2.size; simp only [World.size_alloc] at hz2; have haccb := hacc.below (base1 hb2)))
            go_roundw
            case rel => exact ⟨j + 1, by omega, by go_num, by rw [Hmiss.out]; exact haccb⟩
            case measure => simp [intOf]; omega
        · obtain rfl : j = E.length := by omega
          have hacc := hacc.acc
          rw [← HinT.out, ← Hst.out] at hacc
          go_wp2_with fail
          go_roundw
          case rel => exact ⟨k + 1, by rw [Hstep.out]; omega, by rw [Hstep.out], Hl7, hacc⟩
          case measure => simp [intOf]; omega
    · have h7 : (scT f n k).length = 7 := by
        have := H7.out
        by_cases hlt : (scT f n k).length < 7
        · exfalso
          have hk128 : n + (k : Int) = 128 := by omega
          have := scT_twelve f n hf hf' h0 h1
          rw [show (128 - n).toNat = k from by omega] at this
          omega
        · omega
      have hIs : IsSc f n (scT f n k) := ⟨h7, k, rfl⟩
      have HIs := Lib.hid hIs
      have k2 : ¬ ((scT f n k).length : Int) < 7 := by omega
      have k3 : decide (((scT f n k).length : Int) < 7) = false := decide_eq_false k2
      clear hgo H7 hIs h7
      go_wp2_with fail
      go_returns
      exact ⟨_, _, W, HIs.out, rfl, hbW, hacc⟩

/-! ### The reference: All, Enharmonics, Scale -/
theorem allT_hit {k : Nat} (h : okQ (allAt k)) : allT (k + 1) = allT k ++ [allAt k] := by
  unfold allT
  rw [List.range_succ, List.map_append, List.filter_append, List.map_singleton, List.filter_cons, if_pos (by simpa using h), List.filter_nil]
theorem allT_miss {k : Nat} (h : ¬ okQ (allAt k)) : allT (k + 1) = allT k := by
  unfold allT
  rw [List.range_succ, List.map_append, List.filter_append, List.map_singleton, List.filter_cons, if_neg (by simpa using h), List.filter_nil, List.append_nil]
theorem allT_len (k : Nat) : (allT k).length ≤ k := by
  unfold allT
  exact Nat.le_trans (List.length_filter_le _ _) (by simp)
theorem allAt_of (o s a : Nat) (hs : s < 7) (ha : a < 5) : allAt (35 * o + 5 * s + a) = ((s : Int), (a : Int) - 2, (o : Int) - 1) := by
  unfold allAt
  have h1 : (35 * o + 5 * s + a) / 5 % 7 = s := by omega
  have h2 : (35 * o + 5 * s + a) % 5 = a := by omega
  have h3 : (35 * o + 5 * s + a) / 35 = o := by omega
  rw [h1, h2, h3]
set_option maxHeartbeats 4000000 in
theorem rall_any (w : World) : Calls Try.prog 48 #[] w fun e w' => ∃ v, e = .returned v ∧ AccP w w' v (allT 385) := by
  go_enter Try.func48, Try.ntmps48
  go_wp2_with fail
  go_loopw [1, 2] (fun v i wr => ∃ o : Nat, o ≤ 11 ∧ i = .int .i64 ((o : Int) - 1) ∧ AccP w wr v (allT (35 * o))) (fun _ i _ => (10 - intOf i).toNat)
  case atStart => exact ⟨0, by omega, rfl, accP_nil _⟩
  case round =>
    obtain ⟨o, ho, rfl, hacc⟩ := hrel
    by_cases hlt : o < 11
    · have o1 : (o : Int) - 1 ≤ 9 := by omega
      have HaccO := Lib.hid hacc
      clear hacc
      go_wp2_with fail
      go_loopw [1, 3] (fun v i wr => ∃ s : Nat, s ≤ 7 ∧ i = .int .i64 (s : Int) ∧ AccP w wr v (allT (35 * o + 5 * s))) (fun _ i _ => (7 - intOf i).toNat)
      case atStart => exact ⟨0, by omega, rfl, HaccO.out⟩
      case round =>
        clear HaccO
        obtain ⟨s, hs, rfl, hacc⟩ := hrel
        by_cases hlt2 : s < 7
        · have s1 : (s : Int) ≤ 6 := by omega
          have HaccS := Lib.hid hacc
          clear hacc
          go_wp2_with fail
          go_loopw [1, 4] (fun v i wr => ∃ a : Nat, a ≤ 5 ∧ i = .int .i64 ((a : Int) - 2) ∧ AccP w wr v (allT (35 * o + 5 * s + a))) (fun _ i _ => (3 - intOf i).toNat)
          case atStart => exact ⟨0, by omega, rfl, HaccS.out⟩
          case round =>
            clear HaccS
            obtain ⟨a, ha, rfl, hacc⟩ := hrel
            by_cases hlt3 : a < 5
            · have a1 : (a : Int) - 2 ≤ 2 := by omega
              have hat := allAt_of o s a hlt2 hlt3
              have hl6 : (allT (35 * o + 5 * s + a)).length ≤ 60000 := Nat.le_trans (allT_len _) (by omega)
              have hnext : 35 * o + 5 * s + (a + 1) = (35 * o + 5 * s + a) + 1 := by omega
              have Hnext := Lib.hid hnext
              clear hnext
              by_cases hok : okQ (allAt (35 * o + 5 * s + a))
              · have hhit := allT_hit hok
                rw [hat] at hok hhit
                have Hok : Hid (okP (s : Int) ((a : Int) - 2) ((o : Int) - 1)) := Lib.hid hok
                have Hhit := Lib.hid hhit
                clear hok hhit hat
                generalize allT (35 * o + 5 * s + a) = D at *
                go_wp2_with (first
                  | (go_at_call 17; refine (exists_ok _ _ _ _ Hok.out).mono ?_; rintro e w2 ⟨rfl, hb2⟩; obtain ⟨hc2, hf2⟩ := bcell hb2; have hz2 := hb2.size; simp only [World.size_alloc] at hz2; have haccb := acc_below (acc_alloc hacc _) hb2)
                  | (at_builtin; refine wpList_pushP rfl _ _ rfl (s : Int) ((a : Int) - 2) ((o : Int) - 1) haccb (by rfl) (by rfl) hl6 ?_; intro v3 w3 hacc3))
                go_roundw
                case rel => exact ⟨a + 1, by omega, by congr 1; omega, by rw [Hnext.out, Hhit.out]; exact hacc3⟩
                case measure => simp [intOf]; omega
              · have hmiss := allT_miss hok
                rw [hat] at hok
                have Hok : Hid (¬ okP (s : Int) ((a : Int) - 2) ((o : Int) - 1)) := Lib.hid hok
                have Hmiss := Lib.hid hmiss
                clear hok hmiss hat
                go_wp2_with (first
                  | (go_at_call 17; refine (exists_bad _ _ _ _ Hok.out).mono ?_; rintro e w2 ⟨rfl, hb2⟩; have haccb := acc_below (acc_alloc hacc _) hb2))
                go_roundw
                case rel => exact ⟨a + 1, by omega, by congr 1; omega, by rw [Hnext.out, Hmiss.out]; exact haccb⟩
                case measure => simp [intOf]; omega
            · obtain rfl : a = 5 := by omega
              have h3 : ¬ ((5 : Nat) : Int) - 2 ≤ 2 := by omega
              go_wp2_with fail
              go_roundw
              case rel => exact ⟨s + 1, by omega, by go_num, hacc⟩
              case measure => simp [intOf]; omega
        · obtain rfl : s = 7 := by omega
          go_wp2_with fail
          go_roundw
          case rel => exact ⟨o + 1, by omega, by congr 1; omega, by rw [show 35 * (o + 1) = 35 * o + 5 * 7 from by omega]; exact hacc⟩
          case measure => simp [intOf]; omega
    · obtain rfl : o = 11 := by omega
      go_wp2_with fail
      go_returns
      exact ⟨_, rfl, hacc⟩
end Go.Proofs.Ytdmhjcnijebfgaa
