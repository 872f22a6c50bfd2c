/- The law's play: operations on a file and on the model: contract. -/
import Derived.Test.YthfnpakddnnccaaApply
namespace Go.Proofs.Ythfnpakddnnccaa
open Go.RowKit
set_option linter.unusedVariables false

/-- An operation as it comes in. -/
structure OpD where
  kd : Int
  t : ByteArray
  n : Int
  d : Nat
def OpD.okR (o : OpD) : Prop := 0 ≤ o.kd ∧ o.kd < 256 ∧ o.t.size ≤ maxLen ∧ o.n < 9223372036854775808 ∧ o.d < 256
def OpD.cells (o : OpD) : List Value := [.int .u8 o.kd, .string o.t, .int .i64 o.n, .int .u8 (o.d : Int)]
def OpD.cut (o : OpD) : ByteArray := o.t.extract 0 (min o.t.size 40)
def S0 : FS := ⟨ByteArray.empty, 0, -1, false⟩
def stepOp (s : FS) (o : OpD) : FS := (fDo o.kd o.cut o.n o.d s).1
def playS (l : List OpD) : FS := l.foldl stepOp S0
theorem playS_snoc (l : List OpD) (o : OpD) : playS (l ++ [o]) = stepOp (playS l) o := by simp [playS]

def okS (N : Nat) (s : FS) : Prop := -1 ≤ s.lim ∧ s.lim < 9223372036854775808 ∧ s.bytes.size ≤ N ∧ s.syn ≤ s.bytes.size
theorem size_dmg (t : ByteArray) (m d : Nat) : (dmg t m d).size = t.size := by
  unfold dmg
  split
  · show (List.toArray _).size = _
    rw [List.size_toArray, List.length_set]; rfl
  · rfl
theorem step_ok (N : Nat) (s : FS) (o : OpD) (ho : o.okR) (h : okS N s) : okS (N + 40) (stepOp s o) := by
  obtain ⟨h1, h2, h3, h4⟩ := h
  obtain ⟨o1, o2, o3, o4, o5⟩ := ho
  have hc : o.cut.size ≤ 40 := by unfold OpD.cut; rw [ByteArray.size_extract]; omega
  unfold stepOp fDo okS
  split
  · unfold fAppend
    split
    · exact ⟨h1, h2, by show s.bytes.size ≤ _; omega, h4⟩
    · split
      · exact ⟨h1, h2, by show (s.bytes ++ o.cut).size ≤ _; rw [ByteArray.size_append]; omega, by show s.syn ≤ (s.bytes ++ o.cut).size; rw [ByteArray.size_append]; omega⟩
      · exact ⟨by show -1 ≤ max (s.lim - 1) (-1); omega, by show max (s.lim - 1) (-1) < _; omega, by show (s.bytes ++ o.cut).size ≤ _; rw [ByteArray.size_append]; omega, by show s.syn ≤ (s.bytes ++ o.cut).size; rw [ByteArray.size_append]; omega⟩
  · split
    · unfold fSync
      split
      · exact ⟨h1, h2, by show s.bytes.size ≤ _; omega, h4⟩
      · split
        · exact ⟨h1, h2, by show s.bytes.size ≤ _; omega, h4⟩
        · exact ⟨by show -1 ≤ max (s.lim - 1) (-1); omega, by show max (s.lim - 1) (-1) < _; omega, by show s.bytes.size ≤ _; omega, Nat.le_refl _⟩
    · split
      · unfold fTrunc
        split
        · exact ⟨h1, h2, by show s.bytes.size ≤ _; omega, h4⟩
        · split
          · exact ⟨h1, h2, by show s.bytes.size ≤ _; omega, h4⟩
          · split
            · exact ⟨h1, h2, by show s.bytes.size ≤ _; omega, h4⟩
            · exact ⟨by show -1 ≤ max (s.lim - 1) (-1); omega, by show max (s.lim - 1) (-1) < _; omega, by show (s.bytes.extract 0 o.n.toNat).size ≤ _; rw [ByteArray.size_extract]; omega, by show min s.syn o.n.toNat ≤ (s.bytes.extract 0 o.n.toNat).size; rw [ByteArray.size_extract]; omega⟩
      · split
        · exact ⟨by show -1 ≤ max o.n (-1); omega, by show max o.n (-1) < _; omega, by show s.bytes.size ≤ _; omega, h4⟩
        · split
          · exact ⟨h1, h2, by show s.bytes.size ≤ _; omega, h4⟩
          · unfold fRestart
            split
            · exact ⟨h1, h2, by show s.bytes.size ≤ _; omega, h4⟩
            · split
              · exact ⟨h1, h2, by show s.bytes.size ≤ _; omega, h4⟩
              · exact ⟨by show (-1 : Int) ≤ -1; omega, by show (-1 : Int) < _; omega, by show (dmg _ _ _).size ≤ _; rw [size_dmg, ByteArray.size_extract]; omega, by show s.syn + min o.n.toNat (s.bytes.size - s.syn) ≤ (dmg _ _ _).size; rw [size_dmg, ByteArray.size_extract]; omega⟩
theorem play_ok (l : List OpD) (h : ∀ o ∈ l, o.okR) : ∀ k, k ≤ l.length → okS (40 * k) (playS (l.take k)) := by
  intro k
  induction k with
  | zero => intro _; exact ⟨by show (-1 : Int) ≤ -1; omega, by show (-1 : Int) < _; omega, Nat.le_refl _, Nat.le_refl _⟩
  | succ k ih =>
    intro hk
    rw [List.take_succ_eq_append_getElem (by omega), playS_snoc]
    exact step_ok (40 * k) _ _ (h _ (List.getElem_mem _)) (ih (by omega))

def opB (o : OpD) : Array Value := #[.int .u8 o.kd, .string o.cut, .int .i64 o.n, .int .u8 (o.d : Int)]
theorem Touch.below {b base : Nat} {row : Option Nat} {w w' : World} (h : Touch b row w w') (h0 : base ≤ w.heap.size) (hb : base ≤ b) (hr : ∀ k, row = some k → base ≤ k) : Below base w w' :=
  ⟨h.os, h.tape, h.output, h.size, fun k hk => h.block k (by omega) (by omega) (fun e => by have := hr k e.symm; omega)⟩

/-- A slice of operations that came in. -/
def RdOps (w : World) (B : Nat) (A : Option Addr) (ops : List OpD) : Prop :=
  ops = [] ∨ ∃ b off, A = some ⟨b, off, none⟩ ∧ b < B ∧ ∀ k o, ops[k]? = some o →
    w.cell? ⟨b, off + k * 4, none⟩ = some (.int .u8 o.kd) ∧ w.cell? ⟨b, off + k * 4 + 1, none⟩ = some (.string o.t) ∧ w.cell? ⟨b, off + k * 4 + 2, none⟩ = some (.int .i64 o.n) ∧ w.cell? ⟨b, off + k * 4 + 3, none⟩ = some (.int .u8 (o.d : Int))

theorem RdOps.below {w w' : World} {A : Option Addr} {ops : List OpD} (h : RdOps w w.heap.size A ops) (hb : Below w.heap.size w w') : RdOps w' w'.heap.size A ops := by
  rcases h with h | ⟨b, off, hA, hlt, hc⟩
  · exact .inl h
  · refine .inr ⟨b, off, hA, Nat.lt_of_lt_of_le hlt hb.size, fun k o hk => ?_⟩
    obtain ⟨h1, h2, h3, h4⟩ := hc k o hk
    exact ⟨(hb.cell (p := ⟨b, off + k * 4, none⟩) hlt).trans h1, (hb.cell (p := ⟨b, off + k * 4 + 1, none⟩) hlt).trans h2, (hb.cell (p := ⟨b, off + k * 4 + 2, none⟩) hlt).trans h3, (hb.cell (p := ⟨b, off + k * 4 + 3, none⟩) hlt).trans h4⟩

/-- What play keeps. -/
structure PlayI (w : World) (S : FS) (W : World) (v : Value) : Prop where
  file : FileAt w.heap.size W w.heap.size v S
  model : ModelAt W (w.heap.size + 1) S
  below : Below w.heap.size w W

theorem playI_below {w W W' : World} {S : FS} {v : Value} (h : PlayI w S W v) (hb : Below W.heap.size W W') : PlayI w S W' v :=
  ⟨h.file.below hb, h.model.below hb, h.below.trans (hb.mono h.below.size)⟩

def OpBox (W : World) (B : Nat) (x y z u : Value) : Prop := W.heap[B]? = some (.cells #[x, y, z, u] 88 (0, 0))
theorem OpBox.cells {W : World} {B : Nat} {x y z u : Value} (h : OpBox W B x y z u) : W.cell? ⟨B, 0, none⟩ = some x ∧ W.cell? ⟨B, 1, none⟩ = some y ∧ W.cell? ⟨B, 2, none⟩ = some z ∧ W.cell? ⟨B, 3, none⟩ = some u :=
  ⟨cell_of_row W B 0 _ _ _ h, cell_of_row W B 1 _ _ _ h, cell_of_row W B 2 _ _ _ h, cell_of_row W B 3 _ _ _ h⟩
theorem OpBox.below {W W' : World} {B : Nat} {x y z u : Value} (h : OpBox W B x y z u) (hb : Below W.heap.size W W') : OpBox W' B x y z u := (hb.block B (Array.getElem?_eq_some_iff.1 h).1).trans h
theorem OpBox.touchF {base : Nat} {W W' : World} {b B : Nat} {v : Value} {s : FS} {x y z u : Value} (k : OpBox W B x y z u) (h : FileAt base W b v s) (ht : Touch b v.ownBlock W W') : OpBox W' B x y z u := by
  refine (ht.block B (Array.getElem?_eq_some_iff.1 k).1 ?_ ?_).trans k
  · rintro rfl
    have h1 := h.blk
    unfold OpBox at k
    rw [k] at h1
    injection h1 with h1
    injection h1 with _ ht _
    exact absurd ht (by decide)
  · intro e
    rcases h.row.2 with ⟨rfl, _⟩ | ⟨g, cap, cur, rfl, _, hg, _⟩
    · simp [Value.ownBlock] at e
    · have : B = g := by simpa [Value.ownBlock] using e
      subst this
      unfold OpBox at k
      rw [k] at hg
      injection hg with hg
      injection hg with _ ht _
      exact absurd ht (by decide)
theorem OpBox.touchM {W W' : World} {m B : Nat} {s : FS} {x y z u : Value} (k : OpBox W B x y z u) (h : ModelAt W m s) (ht : Touch m none W W') : OpBox W' B x y z u := by
  refine (ht.block B (Array.getElem?_eq_some_iff.1 k).1 ?_ (by simp)).trans k
  rintro rfl
  unfold OpBox at k
  unfold ModelAt at h
  rw [k] at h
  injection h with h
  injection h with _ ht _
  exact absurd ht (by decide)

/-- The file at state S, the model at state R, and the boxed operation. -/
structure Half (w : World) (S R : FS) (B : Nat) (x y z u : Value) (W : World) (v : Value) : Prop where
  file : FileAt w.heap.size W w.heap.size v S
  model : ModelAt W (w.heap.size + 1) R
  below : Below w.heap.size w W
  box : OpBox W B x y z u
theorem Half.later {w : World} {S R : FS} {B : Nat} {x y z u : Value} {W W' : World} {v : Value} (h : Half w S R B x y z u W v) (hb : Below W.heap.size W W') : Half w S R B x y z u W' v :=
  ⟨h.file.below hb, h.model.below hb, h.below.trans (hb.mono h.below.size), h.box.below hb⟩

theorem half_apply (w : World) (S R : FS) (B : Nat) (kd : Int) (t : ByteArray) (n : Int) (d : Nat) (W : World) (v : Value) (h : Half w S R B (.int .u8 kd) (.string t) (.int .i64 n) (.int .u8 (d : Int)) W v) (k0 : 0 ≤ kd) (k1 : kd < 256) (hd8 : d < 256) (ht : t.size ≤ 40) (hS : okS 1200 S) :
    Calls Try.prog 56 #[.pointer (some ⟨w.heap.size, 0, none⟩), .agg #[.int .u8 kd, .string t, .int .i64 n, .int .u8 (d : Int)]] W fun e W' => e = .returned (.int .i64 (fDo kd t n d S).2) ∧ ∃ v', Half w (fDo kd t n d S).1 R B (.int .u8 kd) (.string t) (.int .i64 n) (.int .u8 (d : Int)) W' v' := by
  obtain ⟨h1, h2, h3, h4⟩ := hS
  refine (apply_any w.heap.size w.heap.size v S kd t n d W h.file k0 k1 h1 h2 (by omega) h4 hd8 h.below.size).mono ?_
  rintro e W' ⟨he, v', hf, ht⟩
  exact ⟨he, v', hf, h.model.touch h.file ht, h.below.trans (ht.below h.below.size (Nat.le_refl _) fun k hk => (h.file.row.lt k hk).1), h.box.touchF h.file ht⟩
theorem half_do (w : World) (S R : FS) (B : Nat) (kd : Int) (t : ByteArray) (n : Int) (d : Nat) (W : World) (v : Value) (h : Half w S R B (.int .u8 kd) (.string t) (.int .i64 n) (.int .u8 (d : Int)) W v) (k0 : 0 ≤ kd) (k1 : kd < 256) (hd8 : d < 256) (ht : t.size ≤ 40) (hn : n < 9223372036854775808) (hR : okS 1200 R) :
    Calls Try.prog 57 #[.pointer (some ⟨w.heap.size + 1, 0, none⟩), .agg #[.int .u8 kd, .string t, .int .i64 n, .int .u8 (d : Int)]] W fun e W' => e = .returned (.int .i64 (fDo kd t n d R).2) ∧ Half w S (fDo kd t n d R).1 B (.int .u8 kd) (.string t) (.int .i64 n) (.int .u8 (d : Int)) W' v := by
  obtain ⟨h1, h2, h3, h4⟩ := hR
  refine (do_any (w.heap.size + 1) R kd t n d W h.model k0 k1 h1 h2 (by omega) h4 hd8 hn).mono ?_
  rintro e W' ⟨he, hm, ht⟩
  exact ⟨he, h.file.touchM h.model ht, hm, h.below.trans (ht.below h.below.size (Nat.le_succ _) fun k hk => by cases hk), h.box.touchM h.model ht⟩
theorem half_is (w : World) (S : FS) (B : Nat) (x y z u : Value) (W : World) (v : Value) (h : Half w S S B x y z u W v) :
    Calls Try.prog 40 #[.pointer (some ⟨w.heap.size + 1, 0, none⟩), .pointer (some ⟨w.heap.size, 0, none⟩)] W fun e W' => e = .returned (.bool true) ∧ Half w S S B x y z u W' v :=
  (is_any w.heap.size w.heap.size (w.heap.size + 1) v S W h.file h.model).mono fun _ _ hh => ⟨hh.1, h.later hh.2⟩

set_option maxRecDepth 100000 in
set_option maxHeartbeats 4000000 in
theorem play_any (A : Option Addr) (c : Nat) (ops : List OpD) (w : World) (hn : ops.length ≤ 30) (hc : ops.length ≤ c) (hok : ∀ o ∈ ops, o.okR) (hrd : RdOps w w.heap.size A ops) :
    Calls Try.prog 35 #[.slice A ops.length c] w fun e w' => e = .returned (.tuple #[.pointer (some ⟨w.heap.size, 0, none⟩), .pointer (some ⟨w.heap.size + 1, 0, none⟩)]) ∧ ∃ v, PlayI w (playS ops) w' v := by
  have Hrd := Lib.hid hrd
  have Hok := Lib.hid hok
  clear hrd hok
  go_enter Try.func35, Try.ntmps35
  go_wp2_with fail
  refine (newfile_any _).mono ?_
  rintro e w1 ⟨rfl, hF, hB, hz⟩
  go_wp2_with fail
  have hM : ModelAt (w1.alloc (.cells #[.string ⟨#[]⟩, .int .i64 0, .int .i64 (-1), .bool false] 62)) (w.heap.size + 1) S0 := by
    rw [← hz]; exact heap_alloc_last w1 _
  have hI : PlayI w S0 (w1.alloc (.cells #[.string ⟨#[]⟩, .int .i64 0, .int .i64 (-1), .bool false] 62)) (.slice none 0 0) :=
    ⟨hF.below ((Below.refl _ _).alloc (Nat.le_refl _) _), hM, hB.alloc hB.size _⟩
  generalize (w1.alloc (.cells #[.string ⟨#[]⟩, .int .i64 0, .int .i64 (-1), .bool false] 62)) = W1 at *
  clear hF hM hB hz
  go_loopw [6] (fun i wr => ∃ k : Nat, k ≤ ops.length ∧ i = .int .i64 (k : Int) ∧ ∃ v, PlayI w (playS (ops.take k)) wr v) (fun i _ => ops.length - (intOf i).toNat)
  case atStart => exact ⟨0, by omega, rfl, _, hI⟩
  case round =>
    clear hI
    obtain ⟨k, hk, rfl, v, hI⟩ := hrel
    by_cases hlt : k < ops.length
    · have hop : ops[k]? = some ops[k] := List.getElem?_eq_getElem hlt
      have hmem := Hok.out _ (List.getElem_mem hlt)
      have hps := Lib.hid (List.take_succ_eq_append_getElem hlt)
      rcases Hrd.out with h0 | ⟨b, off, rfl, hb, hcell⟩
      · rw [h0] at hlt; simp at hlt
      obtain ⟨q0, q1, q2, q3⟩ := hcell k _ hop
      have p0 := (hI.below.cell (p := ⟨b, off + k * 4, none⟩) hb).trans q0
      have p1 := (hI.below.cell (p := ⟨b, off + k * 4 + 1, none⟩) hb).trans q1
      have p2 := (hI.below.cell (p := ⟨b, off + k * 4 + 2, none⟩) hb).trans q2
      have p3 := (hI.below.cell (p := ⟨b, off + k * 4 + 3, none⟩) hb).trans q3
      have HI := Lib.hid hI
      have Hmem := Lib.hid hmem
      generalize ops[k] = o at *
      obtain ⟨kd, t, n, d⟩ := o
      dsimp only at p0 p1 p2 p3
      have ht : t.size ≤ maxLen := hmem.2.2.1
      unfold maxLen at ht
      obtain ⟨m1, m2, _, m4, m5⟩ := hmem
      dsimp only at m1 m2 m4 m5
      have hS := play_ok ops Hok.out k hk
      have hS1 : okS 1200 (playS (ops.take k)) := ⟨hS.1, hS.2.1, by have := hS.2.2.1; omega, hS.2.2.2⟩
      have HS := Lib.hid hS1
      have Hst : Hid (playS (ops.take (k + 1)) = (fDo kd (OpD.cut ⟨kd, t, n, d⟩) n d (playS (ops.take k))).1) := by
        have e : playS (ops.take (k + 1)) = stepOp (playS (ops.take k)) ⟨kd, t, n, d⟩ := by rw [hps.out, playS_snoc]
        exact Lib.hid e
      have hcut : Hid (OpD.cut ⟨kd, t, n, d⟩ = t.extract 0 (min t.size 40)) := Lib.hid rfl
      obtain ⟨ct, Hct⟩ : ∃ ct, Hid (OpD.cut ⟨kd, t, n, d⟩ = ct) := ⟨_, Lib.hid rfl⟩
      have hct40 : ct.size ≤ 40 := by rw [← Hct.out, hcut.out, ByteArray.size_extract]; omega
      rw [Hct.out] at Hst hcut
      clear q0 q1 q2 q3 hcell hI hop hS hS1 Hct hps
      generalize playS (ops.take k) = S at *
      have main : ∀ W : World, W = wr.alloc (.cells #[.int .u8 kd, .string ct, .int .i64 n, .int .u8 (d : Int)] 88) → Half w S S wr.heap.size (.int .u8 kd) (.string ct) (.int .i64 n) (.int .u8 (d : Int)) W v := by
        rintro W rfl
        have hb := playI_below HI.out ((Below.refl _ wr).alloc (Nat.le_refl _) (.cells #[.int .u8 kd, .string ct, .int .i64 n, .int .u8 (d : Int)] 88))
        exact ⟨hb.file, hb.model, hb.below, heap_alloc_last wr _⟩
      have Main := Lib.hid main
      clear main
      by_cases hl40 : 40 < t.size
      · have e40 : t.extract 0 40 = ct := by rw [hcut.out, Nat.min_eq_right (by omega)]
        have E40 := Lib.hid e40
        clear e40
        go_wp2_with fail
        rw [E40.out]
        generalize hW : wr.alloc (.cells #[.int .u8 kd, .string ct, .int .i64 n, .int .u8 (d : Int)] 88) = W2
        have HB := Lib.hid (Main.out W2 hW.symm)
        obtain ⟨o0, o1, o2, o3⟩ := (Main.out W2 hW.symm).box.cells
        clear hW
        go_region_with (first
          | (go_at_call 56; refine (half_apply w S S _ kd ct n d _ v (by first | exact HB.out | exact HB.out.later (Below.refl _ _).drew) m1 m2 m5 hct40 HS.out).mono ?_; rintro e W3 ⟨rfl, v3, h3⟩; obtain ⟨r0, r1, r2, r3⟩ := h3.box.cells; have H3 := Lib.hid h3; clear h3)
          | (go_at_call 57; refine (half_do w _ S _ kd ct n d _ v3 (by first | exact H3.out | exact H3.out.later (Below.refl _ _).drew) m1 m2 m5 hct40 m4 HS.out).mono ?_; rintro e W4 ⟨rfl, h4⟩; have H4 := Lib.hid h4; clear h4)
          | (go_at_call 40; refine (half_is w _ _ _ _ _ _ _ v3 (by first | exact H4.out | exact H4.out.later (Below.refl _ _).drew)).mono ?_; rintro e W5 ⟨rfl, h5⟩; have H5 := Lib.hid h5; clear h5))
        all_goals
          go_wp2_with fail
          go_roundw
          case rel => exact ⟨k + 1, by omega, by go_num, v3, by rw [Hst.out]; exact ⟨H5.out.file, H5.out.model, H5.out.below⟩⟩
          case measure => simp [intOf]; omega
      · have e40 : t = ct := by
          rw [hcut.out, Nat.min_eq_left (by omega)]
          exact (ByteArray.extract_zero_size).symm
        obtain rfl := e40
        go_wp2_with fail
        generalize hW : wr.alloc (.cells #[.int .u8 kd, .string t, .int .i64 n, .int .u8 (d : Int)] 88) = W2
        have HB := Lib.hid (Main.out W2 hW.symm)
        obtain ⟨o0, o1, o2, o3⟩ := (Main.out W2 hW.symm).box.cells
        clear hW
        go_region_with (first
          | (go_at_call 56; refine (half_apply w S S _ kd t n d _ v (by first | exact HB.out | exact HB.out.later (Below.refl _ _).drew) m1 m2 m5 hct40 HS.out).mono ?_; rintro e W3 ⟨rfl, v3, h3⟩; obtain ⟨r0, r1, r2, r3⟩ := h3.box.cells; have H3 := Lib.hid h3; clear h3)
          | (go_at_call 57; refine (half_do w _ S _ kd t n d _ v3 (by first | exact H3.out | exact H3.out.later (Below.refl _ _).drew) m1 m2 m5 hct40 m4 HS.out).mono ?_; rintro e W4 ⟨rfl, h4⟩; have H4 := Lib.hid h4; clear h4)
          | (go_at_call 40; refine (half_is w _ _ _ _ _ _ _ v3 (by first | exact H4.out | exact H4.out.later (Below.refl _ _).drew)).mono ?_; rintro e W5 ⟨rfl, h5⟩; have H5 := Lib.hid h5; clear h5))
        all_goals
          go_wp2_with fail
          go_roundw
          case rel => exact ⟨k + 1, by omega, by go_num, v3, by rw [Hst.out]; exact ⟨H5.out.file, H5.out.model, H5.out.below⟩⟩
          case measure => simp [intOf]; omega
    · obtain rfl : k = ops.length := by omega
      rw [List.take_length] at hI
      go_wp2_with fail
      go_returns
      exact ⟨rfl, v, hI⟩
end Go.Proofs.Ythfnpakddnnccaa
