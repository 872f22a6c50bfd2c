/- Open of package journal: the loop over the records. -/
import Derived.Test.YthfnpakddnnccaaCut
import Derived.Test.YthfnpakddnnccaaScan
import Derived.Test.YthfnpakddnnccaaRound
namespace Go.Proofs.Ythfnpakddnnccaa
open Go.RowKit Go.Shelf
set_option linter.unusedVariables false

attribute [local go_sem] Oper.semAt_some

def jsOf (pre : List (Nat × ByteArray)) : JS := ⟨pre.map (·.2), pre.map (·.1), false⟩
/-- Between two rounds of Open's loop: H is the first new block (the journal), f the file. -/
structure OpnI (w : World) (H f : Nat) (s : ByteArray) (pre : List (Nat × ByteArray)) (W : World) (v1 v2 : Value) : Prop where
  jb : W.heap[H]? = some (.cells #[.pointer (some ⟨f, 0, none⟩), v1, v2, .bool false] JTY (0, 0))
  row1 : W.ownsRow (H + 4) STR 1 v1 (jsOf pre).recs.length (recsV (jsOf pre).recs)
  row2 : W.ownsRow (H + 4) INT 1 v2 (jsOf pre).ends.length (endsV (jsOf pre).ends)
  pb : Boxed W (H + 1) PJ (.pointer (some ⟨H, 0, none⟩))
  en : Boxed W (H + 2) INT (.int .i64 (endOf pre : Int))
  st : Boxed W (H + 3) STR (.string s)
  below : Below w.heap.size w W
  size : w.heap.size = H
theorem obj_from {W W' : World} {row : Option Nat} {k : Nat} {o : Obj} (h : W.heap[k]? = some o) (ho : o.isCells = true) (hg : W.grownBy W' row) (hr : ∀ r, row = some r → ∃ o : Obj, W.heap[r]? = some o ∧ o.isCells = false) : W'.heap[k]? = some o := by
  refine (hg.block k (Array.getElem?_eq_some_iff.1 h).1 fun e => ?_).trans h
  obtain ⟨o', h1, h2⟩ := hr k e.symm
  rw [h] at h1
  cases h1
  rw [ho] at h2
  cases h2
theorem opnI_own (w : World) (H f : Nat) (s : ByteArray) (B : Nat) (hB : w.heap.size ≤ B) : OwnFrom B (fun pre W => ∃ v1 v2, OpnI w H f s pre W v1 v2) := by
  rintro pre W W' row ⟨v1, v2, h⟩ hg hr
  have hr' := fun r e => (hr r e).2
  exact ⟨v1, v2, obj_from h.jb rfl hg hr', row_from h.row1 hg hr', row_from h.row2 hg hr', boxed_from h.pb hg hr', boxed_from h.en hg hr', boxed_from h.st hg hr', h.below.grown hg h.below.size (fun k e => Nat.le_trans hB (hr k e).1), h.size⟩

-- lemmas of the region (printed)
/-- What each operation of the loop's statement leaves in its slot. -/
def opVal (H : Nat) (x : Nat × ByteArray) (v1 v2 : Value) (g : G4) (j : Nat) : Value :=
  match j with
  | 0 | 1 | 2 | 3 | 9 | 10 | 17 | 20 => .pointer (some ⟨H, 0, none⟩)
  | 4 | 18 => .pointer (some ⟨H, 1, none⟩)
  | 11 | 21 => .pointer (some ⟨H, 2, none⟩)
  | 5 => v1
  | 6 => .string x.2
  | 7 => g.x1
  | 8 => g.y1
  | 12 => v2
  | 13 | 16 => .int .i64 (x.1 : Int)
  | 14 => g.x2
  | 15 => g.y2
  | _ => undef
def opFl (l : Array Bool) : Fl := ⟨l.getD 7 false, l.getD 8 false, l.getD 19 false, l.getD 14 false, l.getD 15 false, l.getD 22 false⟩
theorem opFl_ne (l : Array Bool) (i : Nat) (h : i ≠ 7 ∧ i ≠ 8 ∧ i ≠ 19 ∧ i ≠ 14 ∧ i ≠ 15 ∧ i ≠ 22) : opFl (l.setIfInBounds i true) = opFl l := by
  unfold opFl
  rw [getD_set_ne false h.1, getD_set_ne false h.2.1, getD_set_ne false h.2.2.1, getD_set_ne false h.2.2.2.1, getD_set_ne false h.2.2.2.2.1, getD_set_ne false h.2.2.2.2.2]
theorem opFl_7 (l : Array Bool) (h : 7 < l.size) : opFl (l.setIfInBounds 7 true) = { opFl l with b1 := true } := by
  unfold opFl
  rw [getD_set_self h, getD_set_ne (i := 7) (j := 8) false (by decide), getD_set_ne (i := 7) (j := 19) false (by decide), getD_set_ne (i := 7) (j := 14) false (by decide), getD_set_ne (i := 7) (j := 15) false (by decide), getD_set_ne (i := 7) (j := 22) false (by decide)]
theorem opFl_8 (l : Array Bool) (h : 8 < l.size) : opFl (l.setIfInBounds 8 true) = { opFl l with a1 := true } := by
  unfold opFl
  rw [getD_set_self h, getD_set_ne (i := 8) (j := 7) false (by decide), getD_set_ne (i := 8) (j := 19) false (by decide), getD_set_ne (i := 8) (j := 14) false (by decide), getD_set_ne (i := 8) (j := 15) false (by decide), getD_set_ne (i := 8) (j := 22) false (by decide)]
theorem opFl_19 (l : Array Bool) (h : 19 < l.size) : opFl (l.setIfInBounds 19 true) = { opFl l with s1 := true } := by
  unfold opFl
  rw [getD_set_self h, getD_set_ne (i := 19) (j := 7) false (by decide), getD_set_ne (i := 19) (j := 8) false (by decide), getD_set_ne (i := 19) (j := 14) false (by decide), getD_set_ne (i := 19) (j := 15) false (by decide), getD_set_ne (i := 19) (j := 22) false (by decide)]
theorem opFl_14 (l : Array Bool) (h : 14 < l.size) : opFl (l.setIfInBounds 14 true) = { opFl l with b2 := true } := by
  unfold opFl
  rw [getD_set_self h, getD_set_ne (i := 14) (j := 7) false (by decide), getD_set_ne (i := 14) (j := 8) false (by decide), getD_set_ne (i := 14) (j := 19) false (by decide), getD_set_ne (i := 14) (j := 15) false (by decide), getD_set_ne (i := 14) (j := 22) false (by decide)]
theorem opFl_15 (l : Array Bool) (h : 15 < l.size) : opFl (l.setIfInBounds 15 true) = { opFl l with a2 := true } := by
  unfold opFl
  rw [getD_set_self h, getD_set_ne (i := 15) (j := 7) false (by decide), getD_set_ne (i := 15) (j := 8) false (by decide), getD_set_ne (i := 15) (j := 19) false (by decide), getD_set_ne (i := 15) (j := 14) false (by decide), getD_set_ne (i := 15) (j := 22) false (by decide)]
theorem opFl_22 (l : Array Bool) (h : 22 < l.size) : opFl (l.setIfInBounds 22 true) = { opFl l with s2 := true } := by
  unfold opFl
  rw [getD_set_self h, getD_set_ne (i := 22) (j := 7) false (by decide), getD_set_ne (i := 22) (j := 8) false (by decide), getD_set_ne (i := 22) (j := 19) false (by decide), getD_set_ne (i := 22) (j := 14) false (by decide), getD_set_ne (i := 22) (j := 15) false (by decide)]
theorem opVal_x1 (H : Nat) (x : Nat × ByteArray) (v1 v2 : Value) (g : G4) (u : Value) (j : Nat) (h : j ≠ 7) : opVal H x v1 v2 { g with x1 := u } j = opVal H x v1 v2 g j := by
  unfold opVal
  split <;> first | rfl | exact absurd rfl h
theorem opVal_y1 (H : Nat) (x : Nat × ByteArray) (v1 v2 : Value) (g : G4) (u : Value) (j : Nat) (h : j ≠ 8) : opVal H x v1 v2 { g with y1 := u } j = opVal H x v1 v2 g j := by
  unfold opVal
  split <;> first | rfl | exact absurd rfl h
theorem opVal_x2 (H : Nat) (x : Nat × ByteArray) (v1 v2 : Value) (g : G4) (u : Value) (j : Nat) (h : j ≠ 14) : opVal H x v1 v2 { g with x2 := u } j = opVal H x v1 v2 g j := by
  unfold opVal
  split <;> first | rfl | exact absurd rfl h
theorem opVal_y2 (H : Nat) (x : Nat × ByteArray) (v1 v2 : Value) (g : G4) (u : Value) (j : Nat) (h : j ≠ 15) : opVal H x v1 v2 { g with y2 := u } j = opVal H x v1 v2 g j := by
  unfold opVal
  split <;> first | rfl | exact absurd rfl h
abbrev noEx : Nat → Prop := fun _ => False
/-- The world while the statement's operations come up: the end's box is stored last. -/
def OpW (T : Two) (E e : Nat) (g : G4) (listed : Array Bool) (W : World) : Prop :=
  if listed.getD 23 false = true then ∃ w0, TwoW T noEx g ⟨true, true, true, true, true, true⟩ w0 ∧ W = w0.setCell ⟨E, 0, none⟩ (.int .i64 (e : Int)) else TwoW T noEx g (opFl listed) W
theorem OpW.two {T : Two} {E e : Nat} {g : G4} {listed : Array Bool} {W : World} (h : OpW T E e g listed W) (h23 : listed.getD 23 false = false) : TwoW T noEx g (opFl listed) W := by
  unfold OpW at h; rw [h23] at h; exact h
theorem OpW.of {T : Two} {E e : Nat} {g : G4} {listed : Array Bool} {W : World} (h23 : listed.getD 23 false = false) (h : TwoW T noEx g (opFl listed) W) : OpW T E e g listed W := by
  unfold OpW; rw [h23]; exact h
theorem OpW.last {T : Two} {E e : Nat} {g : G4} {listed : Array Bool} {W : World} (h : OpW T E e g listed W) (h23 : listed.getD 23 false = true) : ∃ w0, TwoW T noEx g ⟨true, true, true, true, true, true⟩ w0 ∧ W = w0.setCell ⟨E, 0, none⟩ (.int .i64 (e : Int)) := by
  unfold OpW at h; rw [if_pos h23] at h; exact h
theorem OpW.toLast {T : Two} {E e : Nat} {g : G4} {listed : Array Bool} {w0 : World} (h23 : listed.getD 23 false = true) (h : TwoW T noEx g ⟨true, true, true, true, true, true⟩ w0) : OpW T E e g listed (w0.setCell ⟨E, 0, none⟩ (.int .i64 (e : Int))) := by
  unfold OpW; rw [if_pos h23]; exact ⟨w0, h, rfl⟩
abbrev opTwo (H f : Nat) (x : Nat × ByteArray) (v1 v2 : Value) (pre : List (Nat × ByteArray)) (W : World) : Two := appTwo (H + 4) H f 0 x.2 v1 v2 (jsOf pre) x.1 W
-- end of the lemmas (printed)
theorem opn_step {w W w0 : World} {H f : Nat} {s : ByteArray} {pre : List (Nat × ByteArray)} {x : Nat × ByteArray} {v1 v2 : Value} {g : G4} (h : OpnI w H f s pre W v1 v2) (hT : TwoW (opTwo H f x v1 v2 pre W) noEx g ⟨true, true, true, true, true, true⟩ w0) :
    OpnI w H f s (pre ++ [x]) (w0.setCell ⟨H + 2, 0, none⟩ (.int .i64 (x.1 : Int))) g.y1 g.y2 ∧ KeepsOthers W (w0.setCell ⟨H + 2, 0, none⟩ (.int .i64 (x.1 : Int))) := by
  have hr1 := hT.row1
  have hr2 := hT.row2
  have hj2 := hT.jb
  have ltS := h.st.lt
  have keep : ∀ (k : Nat) (o : Obj), W.heap[k]? = some o → k < H + 4 → k ≠ H → w0.heap[k]? = some o := fun k o ho hlt hne => (hT.keep k (Array.getElem?_eq_some_iff.1 ho).1 hne (fun h => h) (row_not_below h.row1 hlt) (row_not_below h.row2 hlt)).trans ho
  have k1 : Boxed w0 (H + 1) PJ (.pointer (some ⟨H, 0, none⟩)) := keep _ _ h.pb (by omega) (by omega)
  have k2 : Boxed w0 (H + 2) INT (.int .i64 (endOf pre : Int)) := keep _ _ h.en (by omega) (by omega)
  have k3 : Boxed w0 (H + 3) STR (.string s) := keep _ _ h.st (by omega) (by omega)
  have hsz := h.size
  have eR : (jsOf (pre ++ [x])).recs = (jsOf pre).recs ++ [x.2] := by simp [jsOf]
  have eE : (jsOf (pre ++ [x])).ends = (jsOf pre).ends ++ [x.1] := by simp [jsOf]
  have r1 : w0.ownsRow (H + 4) STR 1 g.y1 (jsOf (pre ++ [x])).recs.length (recsV (jsOf (pre ++ [x])).recs) := by
    rw [eR, List.length_append, recsV, List.map_append]
    exact hr1
  have r2 : w0.ownsRow (H + 4) INT 1 g.y2 (jsOf (pre ++ [x])).ends.length (endsV (jsOf (pre ++ [x])).ends) := by
    rw [eE, List.length_append, endsV, List.map_append]
    exact hr2
  have hj3 : w0.heap[H]? = some (.cells #[.pointer (some ⟨f, 0, none⟩), g.y1, g.y2, .bool false] JTY (0, 0)) := hj2
  have b0 : Below w.heap.size w w0 := h.below.trans ⟨hT.os, hT.tape, hT.output, hT.size, fun k hk => by
    rw [hsz] at hk
    exact hT.keep k (by show k < W.heap.size; omega) (by show k ≠ H; omega) (fun h => h) (row_not_below h.row1 (by omega)) (row_not_below h.row2 (by omega))⟩
  refine ⟨⟨?_, ?_, ?_, boxed_other k1 (by omega) _, ?_, boxed_other k3 (by omega) _, b0.setCell (p := ⟨H + 2, 0, none⟩) (by rw [hsz]; show H ≤ H + 2; omega) _, h.size⟩, ?_⟩
  · exact (setCell_far w0 (H + 2) 0 H _ (by omega)).trans hj3
  · exact r1.kept (grownBy_setCell' w0 _ _) (.inr (row_not_below r1 (by omega)).symm)
  · exact r2.kept (grownBy_setCell' w0 _ _) (.inr (row_not_below r2 (by omega)).symm)
  · rw [endOf_snoc]; exact k2.set _
  · refine KeepsOthers.trans ⟨hT.size, fun k o ho hc => ?_⟩ (KeepsOthers.setCell _ _ _)
    refine (hT.keep k (Array.getElem?_eq_some_iff.1 ho).1 ?_ (fun h => h) ?_ ?_).trans ho
    · intro e; have e : k = H := e; rw [e, show W.heap[H]? = _ from h.jb] at ho; cases ho; cases hc
    · intro e; have := row_isCells h.row1 k o e.symm ho; rw [hc] at this; cases this
    · intro e; have := row_isCells h.row2 k o e.symm ho; rw [hc] at this; cases this
/-- Behind the loop. -/
structure OpnD (B : Nat) (w : World) (H f D : Nat) (v1 v2 v : Value) (s : JS) (t : FS) (en : Nat) (W : World) : Prop where
  jour : JourAt B W H f v1 v2 s
  file : FileAt B W f v t
  pb : Boxed W (H + 1) PJ (.pointer (some ⟨H, 0, none⟩))
  en : Boxed W (H + 2) INT (.int .i64 (en : Int))
  dd : W.heap[D]? = some (.deferred (some []))
  below : Below B w W
  hB : B ≤ W.heap.size
  touch : Touch f none w W
theorem OpnD.later {B : Nat} {w : World} {H f D : Nat} {v1 v2 v : Value} {s : JS} {t : FS} {en : Nat} {W W' : World} (h : OpnD B w H f D v1 v2 v s t en W) (hb : Below W.heap.size W W') : OpnD B w H f D v1 v2 v s t en W' :=
  ⟨h.jour.below hb, h.file.below hb, boxed_below h.pb hb, boxed_below h.en hb, (hb.block D (Array.getElem?_eq_some_iff.1 h.dd).1).trans h.dd, h.below.trans (hb.mono h.hB), Nat.le_trans h.hB hb.size, h.touch.trans (Touch.ofBelow hb)⟩
theorem OpnD.step {B : Nat} {w : World} {H f D : Nat} {v1 v2 v v' : Value} {s : JS} {t t' : FS} {en : Nat} {W W' : World} (h : OpnD B w H f D v1 v2 v s t en W) (hF : FileAt B W' f v' t') (ht : Touch f none W W') : OpnD B w H f D v1 v2 v' s t' en W' := by
  have key : ∀ (k : Nat) (o : Obj), W.heap[k]? = some o → k ≠ f → W'.heap[k]? = some o := fun k o hk hne => (ht.block k (Array.getElem?_eq_some_iff.1 hk).1 hne (by simp)).trans hk
  refine ⟨h.jour.touch h.file ht (.inl rfl), hF, key _ _ h.pb (ty_ne h.file.blk h.pb (by decide)), key _ _ h.en (ty_ne h.file.blk h.en (by decide)), key _ _ h.dd ?_, h.below.trans (touch_below ht h.hB h.file.ge (fun k e => by cases e)), Nat.le_trans h.hB ht.size, h.touch.trans ht⟩
  rintro rfl
  have := h.dd
  rw [h.file.blk] at this
  cases this
theorem OpnD.fin {B : Nat} {w : World} {H f D : Nat} {v1 v2 v : Value} {s : JS} {t : FS} {en : Nat} {W : World} (h : OpnD B w H f D v1 v2 v s t en W) (hD : B ≤ D) (hDw : w.heap.size ≤ D) :
    JourAt B (W.putObj D (.deferred none)) H f v1 v2 s ∧ FileAt B (W.putObj D (.deferred none)) f v t ∧ Below B w (W.putObj D (.deferred none)) ∧ Touch f none w (W.putObj D (.deferred none)) := by
  have hr : ∀ r, some D = some r → ∃ o : Obj, W.heap[r]? = some o ∧ o.isCells = false := fun r e => by cases e; exact ⟨_, h.dd, rfl⟩
  have hg := grownBy_putObj' W D (.deferred none)
  refine ⟨⟨obj_from h.jour.jb rfl hg hr, row_from h.jour.row1 hg hr, row_from h.jour.row2 hg hr, h.jour.ge⟩, ⟨row_from h.file.row hg hr, obj_from h.file.blk rfl hg hr, h.file.ge⟩, h.below.grown hg h.hB (fun k e => by cases e; exact hD), ⟨hg.os.trans h.touch.os, hg.tape.trans h.touch.tape, hg.output.trans h.touch.output, Nat.le_trans h.touch.size hg.size, fun k hk h1 h2 => (hg.block k (Nat.lt_of_lt_of_le hk h.touch.size) (fun e => by cases e; omega)).trans (h.touch.block k hk h1 h2)⟩⟩
theorem trunc_open (t : FS) (e : Nat) (hd : t.down = false) (hl : t.lim = -1) (he : e ≤ t.bytes.size) : fTrunc (e : Int) t = (⟨t.bytes.extract 0 e, min t.syn e, -1, false⟩, 0) := by
  unfold fTrunc
  rw [if_neg (by rw [hd]; decide), if_neg (by omega), if_neg (by rw [hl]; decide), hl, hd, Int.toNat_natCast]
  rfl
theorem sync_open (t : FS) (hd : t.down = false) (hl : t.lim = -1) : fSync t = (⟨t.bytes, t.bytes.size, -1, false⟩, 0) := by
  unfold fSync
  rw [if_neg (by rw [hd]; decide), if_neg (by rw [hl]; decide), hl, hd]
  rfl
set_option maxRecDepth 100000 in
set_option maxHeartbeats 4000000 in
theorem open_any (B f : Nat) (v : Value) (t : FS) (w : World) (hF : FileAt B w f v t) (hB : B ≤ w.heap.size) (hd : t.down = false) (hl : t.lim = -1) (hsz : t.bytes.size ≤ 1048576) :
    Calls Try.prog 24 #[.pointer (some ⟨f, 0, none⟩)] w fun e w' => e = .returned (.tuple #[.pointer (some ⟨w.heap.size, 0, none⟩), .int .i64 0]) ∧
      ∃ v1 v2 v', JourAt B w' w.heap.size f v1 v2 (jsOf (scanL t.bytes)) ∧ FileAt B w' f v' ⟨t.bytes.extract 0 (endOf (scanL t.bytes)), endOf (scanL t.bytes), -1, false⟩ ∧ Below B w w' ∧ Touch f none w w' := by
  have cr := ready_any B f v t w hF
  rw [hd] at cr
  simp only [Bool.false_eq_true, if_false] at cr
  have hlen := scanL_len t.bytes
  refine (callsIn_wide (n := 3)).1 ?_
  refine callsIn_of_wp_marks Try.func24 rfl trivial ?_ rfl
  simp only [Try.ntmps24, List.size_toArray, List.length_cons, List.length_nil, Nat.reduceAdd, Nat.reduceSub, Array.replicate_succ, Array.replicate_zero, List.push_toArray, List.append_toArray, List.nil_append, List.cons_append]
  have hb0 : Below w.heap.size w (((w.alloc (.cells #[.pointer (some ⟨f, 0, none⟩), .slice none 0 0, .slice none 0 0, .bool false] JTY)).alloc (.cells #[.pointer (some ⟨w.heap.size, 0, none⟩)] PJ)).alloc (.cells #[.int .i64 0] INT)) := (((Below.refl _ w).alloc (Nat.le_refl _) _).alloc (by simp) _).alloc (by simp; omega) _
  have cb := bytes_any B f v t _ (hF.below hb0)
  have hj := heap_alloc_last w (.cells #[.pointer (some ⟨f, 0, none⟩), .slice none 0 0, .slice none 0 0, .bool false] JTY)
  have b0 := Boxed.new (w.alloc (.cells #[.pointer (some ⟨f, 0, none⟩), .slice none 0 0, .slice none 0 0, .bool false] JTY)) PJ (.pointer (some ⟨w.heap.size, 0, none⟩))
  have b1 := Boxed.new ((w.alloc (.cells #[.pointer (some ⟨f, 0, none⟩), .slice none 0 0, .slice none 0 0, .bool false] JTY)).alloc (.cells #[.pointer (some ⟨w.heap.size, 0, none⟩)] PJ)) INT (.int .i64 0)
  have b2 := Boxed.new (((w.alloc (.cells #[.pointer (some ⟨f, 0, none⟩), .slice none 0 0, .slice none 0 0, .bool false] JTY)).alloc (.cells #[.pointer (some ⟨w.heap.size, 0, none⟩)] PJ)).alloc (.cells #[.int .i64 0] INT)) STR (.string t.bytes)
  rw [World.size_alloc] at b0 b1 b2
  rw [World.size_alloc] at b1 b2
  rw [World.size_alloc] at b2
  have I0 : OpnI w w.heap.size f t.bytes [] ((((w.alloc (.cells #[.pointer (some ⟨f, 0, none⟩), .slice none 0 0, .slice none 0 0, .bool false] JTY)).alloc (.cells #[.pointer (some ⟨w.heap.size, 0, none⟩)] PJ)).alloc (.cells #[.int .i64 0] INT)).alloc (.cells #[.string t.bytes] STR)) (.slice none 0 0) (.slice none 0 0) :=
    ⟨heap_alloc_old (heap_alloc_old (heap_alloc_old hj)), World.ownsRow_nil _ _ _ _, World.ownsRow_nil _ _ _ _, (b0.alloc _).alloc _, b1.alloc _, b2, hb0.alloc hb0.size _, rfl⟩
  have HI0 := Lib.hid I0
  have HF := Lib.hid hF
  have hs3 : Hid (((((w.alloc (.cells #[.pointer (some ⟨f, 0, none⟩), .slice none 0 0, .slice none 0 0, .bool false] JTY)).alloc (.cells #[.pointer (some ⟨w.heap.size, 0, none⟩)] PJ)).alloc (.cells #[.int .i64 0] INT)).alloc (.cells #[.string t.bytes] STR)).heap.size = w.heap.size + 4) := Lib.hid (by simp)
  clear b0 b1 b2 hj I0 hF hb0
  gi_wp2_with (first
    | (refine ⟨trivial, ?_⟩; gi_at_call 48; refine (callsIn_wide.2 cr).mono ?_; rintro e w1 ⟨rfl, hw⟩; subst hw)
    | (refine ⟨trivial, ?_⟩; gi_at_call 41; refine (callsIn_wide.2 cb).mono ?_; rintro e w1 ⟨rfl, hw⟩; subst hw)
    | (refine ⟨trivial, ?_⟩; gi_at_call 47; refine (callsIn_wide.2 (found_any _ _)).mono ?_; rintro e w1 ⟨rfl, rfl⟩))
  have hH : ∃ H, w1.heap.size = H := ⟨_, rfl⟩
  obtain ⟨H, hH⟩ := hH
  rw [hH] at HI0 hs3 ⊢
  clear cb cr
  generalize hW1 : ((((w1.alloc (.cells #[.pointer (some ⟨f, 0, none⟩), .slice none 0 0, .slice none 0 0, .bool false] JTY)).alloc (.cells #[.pointer (some ⟨H, 0, none⟩)] PJ)).alloc (.cells #[.int .i64 0] INT)).alloc (.cells #[.string t.bytes] STR)) = W1 at *
  have hle : w1.heap.size ≤ W1.heap.size := by have := hs3.out; omega
  have hst := HI0.out.st
  clear hW1
  refine wpIn_rangeFunc_ownG rfl (by omega) (gf := 60) (lb := #[.pointer (some ⟨H + 3, 0, none⟩)]) rfl trivial (enters_of Try.func60 (by kernel_rfl) rfl)
    (found_stops 2 (by omega) (H + 3) t.bytes (by unfold maxLen; omega) W1 hst) (fun h k hb => k (h hb)) (fun W l o o' hl ho hc _ hb => hb.kept (grownBy_putObj' W l o') (fun e => by cases e; rw [show W.heap[H + 3]? = _ from hb] at ho; cases ho; cases hc)) (Below.refl _ _) (fun _ => rfl)
    (fun pre W => ∃ v1 v2, OpnI w1 H f t.bytes pre W v1 v2)
    (fun _ _ _ => False)
    (opnI_own w1 H f _ _ hle)
    (fun _ _ _ _ _ hs _ _ => hs)
    ⟨_, _, HI0.out⟩
    (fun x => { tmps := #[.pointer (some ⟨f, 0, none⟩), undef, .pointer none, .int .i64 0, .int .i64 0, .pointer (some ⟨H + 1, 0, none⟩), .pointer (some ⟨H + 1 + 1, 0, none⟩), .int .i64 (x.1 : Int), .string x.2, undef, undef,
      .pointer (some ⟨f, 0, none⟩), .int .i64 0, .int .i64 0, .bool false, undef, .pointer (some ⟨f, 0, none⟩), .agg #[.pointer (some ⟨f, 0, none⟩), .slice none 0 0, .slice none 0 0, .bool false], .pointer (some ⟨H, 0, none⟩), .pointer (some ⟨f, 0, none⟩), .string t.bytes, .func (.func 60) #[] #[.pointer (some ⟨H + 1 + 1 + 1, 0, none⟩)], .int .i64 (x.1 : Int), .string x.2,
      undef, undef, undef, undef, undef, undef, undef, undef, undef, undef, undef, undef, undef, undef, undef, undef, undef, undef, undef, undef, undef, undef, undef, undef, undef, undef, undef, undef, undef, undef, undef, undef, undef, undef, undef, undef, undef, undef, undef, undef], defers := [] }) ?assign ?body ?done ?stop
  case assign =>
    intro l x W K hK
    unfold encsR
    gi_wp2
    exact hK
  case body =>
    rintro l pre x W ⟨v1, v2, hI⟩ hlt
    have HI := Lib.hid hI
    clear hI HI0 hst
    gi_wp2_with fail
    refine wpIn_region_any (by kernel_rfl) (anyIn_of_any (noDefer (by kernel_rfl)) (by rintro ⟨a, w', h⟩; exact h) _ _ _ _ ?_)
    -- region 9 (printed)
    have hjb := HI.out.jb
    have hrow1 := HI.out.row1
    have hrow2 := HI.out.row2
    have hpb := HI.out.pb
    have hen := HI.out.en
    have hst := HI.out.st
    obtain ⟨A1, c1, rfl⟩ := row_form hrow1
    obtain ⟨A2, c2, rfl⟩ := row_form hrow2
    have nP1 := row_not_below hrow1 (B := H + 1) (by omega)
    have nP2 := row_not_below hrow2 (B := H + 1) (by omega)
    have nE1 := row_not_below hrow1 (B := H + 2) (by omega)
    have nE2 := row_not_below hrow2 (B := H + 2) (by omega)
    have cP5 := hpb.cell
    have hBH : H + 4 ≤ W.heap.size := by have := hst.lt; omega
    have hn1 : (jsOf pre).recs.length = pre.length := by simp [jsOf]
    have hn2 : (jsOf pre).ends.length = pre.length := by simp [jsOf]
    have ltP := hpb.lt
    have ltE := hen.lt
    refine any_laid (by kernel_rfl) (opVal H x (.slice A1 (jsOf pre).recs.length c1) (.slice A2 (jsOf pre).ends.length c2)) (fun g listed w' => OpW (opTwo H f x (.slice A1 (jsOf pre).recs.length c1) (.slice A2 (jsOf pre).ends.length c2) pre W) (H + 2) x.1 g listed w')
      ⟨undef, undef, undef, undef⟩ ?start ?step ?fin
    case start => exact OpW.of rfl (TwoW.drew (T := opTwo H f x (.slice A1 (jsOf pre).recs.length c1) (.slice A2 (jsOf pre).ends.length c2) pre W) ⟨hrow1, hrow2, (by intro h; cases h), (by intro h; cases h), hjb, fun _ _ _ _ _ _ => rfl, Nat.le_refl _, rfl, rfl, rfl, (by intro h; cases h), (by intro h; cases h)⟩)
    case fin =>
      intro g listed a W' hL hall
      obtain ⟨w0, hT, rfl⟩ := hL.world.last (hall 23 (by decide))
      obtain ⟨q1, q2⟩ := opn_step HI.out hT
      exact ⟨q2.from _, fun _ => q1.st, ⟨_, _, q1⟩⟩
    case step =>
      intro g listed a W' i o hL hs hi hl hall hcl
      have hs24 : listed.size = 24 := hs
      have hi24 : i < 24 := (Array.getElem?_eq_some_iff.1 hi).1
      clear HI hst HF hs3 hle
      rcases (show i = 0 ∨ i = 1 ∨ i = 2 ∨ i = 3 ∨ i = 4 ∨ i = 5 ∨ i = 6 ∨ i = 7 ∨ i = 8 ∨ i = 9 ∨ i = 10 ∨ i = 11 ∨ i = 12 ∨ i = 13 ∨ i = 14 ∨ i = 15 ∨ i = 16 ∨ i = 17 ∨ i = 18 ∨ i = 19 ∨ i = 20 ∨ i = 21 ∨ i = 22 ∨ i = 23 by omega) with rfl | rfl | rfl | rfl | rfl | rfl | rfl | rfl | rfl | rfl | rfl | rfl | rfl | rfl | rfl | rfl | rfl | rfl | rfl | rfl | rfl | rfl | rfl | rfl
      · simp only [List.getElem?_toArray, List.getElem?_cons_zero] at hi
        cases hi
        have h23 : listed.getD 23 false = false := by
          cases hh : listed.getD 23 false with
          | false => rfl
          | true => have := hcl 23 _ rfl hh ⟨0, .phase⟩ (by simp) rfl; rw [hl] at this; cases this
        have hTw := hL.world.two h23
        have h23n : (listed.setIfInBounds 0 true).getD 23 false = false := by rw [getD_set_ne false (by decide)]; exact h23
        have hjW := hTw.jb
        have q5 : a.tmps.getD 5 undef = .pointer (some ⟨H + 1, 0, none⟩) := hL.at 5 (by kernel_rfl)
        have cP : W'.cell? ⟨H + 1, 0, none⟩ = some (.pointer (some ⟨H, 0, none⟩)) := (World.cell?_of_block (hTw.keep (H + 1) ltP (by show H + 1 ≠ H; omega) (fun h => h) nP1 nP2)).trans cP5
        refine hL.pure (by kernel_rfl) rfl rfl (by intro d hd; cases hd; show (24 : Nat) < 64; decide) ?_ ?_
        · clear hL hall hcl hTw hjW
          go_simp
          rfl
        · refine OpW.of h23n ?_
          rw [opFl_ne listed 0 (by decide)]
          exact hTw
      · simp only [List.getElem?_toArray, List.getElem?_cons_zero, List.getElem?_cons_succ] at hi
        cases hi
        have h23 : listed.getD 23 false = false := by
          cases hh : listed.getD 23 false with
          | false => rfl
          | true => have := hcl 23 _ rfl hh ⟨1, .phase⟩ (by simp) rfl; rw [hl] at this; cases this
        have hTw := hL.world.two h23
        have h23n : (listed.setIfInBounds 1 true).getD 23 false = false := by rw [getD_set_ne false (by decide)]; exact h23
        have hjW := hTw.jb
        have q5 : a.tmps.getD 5 undef = .pointer (some ⟨H + 1, 0, none⟩) := hL.at 5 (by kernel_rfl)
        have cP : W'.cell? ⟨H + 1, 0, none⟩ = some (.pointer (some ⟨H, 0, none⟩)) := (World.cell?_of_block (hTw.keep (H + 1) ltP (by show H + 1 ≠ H; omega) (fun h => h) nP1 nP2)).trans cP5
        refine hL.pure (by kernel_rfl) rfl rfl (by intro d hd; cases hd; show (25 : Nat) < 64; decide) ?_ ?_
        · clear hL hall hcl hTw hjW
          go_simp
          rfl
        · refine OpW.of h23n ?_
          rw [opFl_ne listed 1 (by decide)]
          exact hTw
      · simp only [List.getElem?_toArray, List.getElem?_cons_zero, List.getElem?_cons_succ] at hi
        cases hi
        have h23 : listed.getD 23 false = false := by
          cases hh : listed.getD 23 false with
          | false => rfl
          | true => have := hcl 23 _ rfl hh ⟨2, .phase⟩ (by simp) rfl; rw [hl] at this; cases this
        have hTw := hL.world.two h23
        have h23n : (listed.setIfInBounds 2 true).getD 23 false = false := by rw [getD_set_ne false (by decide)]; exact h23
        have hjW := hTw.jb
        have q5 : a.tmps.getD 5 undef = .pointer (some ⟨H + 1, 0, none⟩) := hL.at 5 (by kernel_rfl)
        have cP : W'.cell? ⟨H + 1, 0, none⟩ = some (.pointer (some ⟨H, 0, none⟩)) := (World.cell?_of_block (hTw.keep (H + 1) ltP (by show H + 1 ≠ H; omega) (fun h => h) nP1 nP2)).trans cP5
        refine hL.pure (by kernel_rfl) rfl rfl (by intro d hd; cases hd; show (26 : Nat) < 64; decide) ?_ ?_
        · clear hL hall hcl hTw hjW
          go_simp
          rfl
        · refine OpW.of h23n ?_
          rw [opFl_ne listed 2 (by decide)]
          exact hTw
      · simp only [List.getElem?_toArray, List.getElem?_cons_zero, List.getElem?_cons_succ] at hi
        cases hi
        have h23 : listed.getD 23 false = false := by
          cases hh : listed.getD 23 false with
          | false => rfl
          | true => have := hcl 23 _ rfl hh ⟨3, .phase⟩ (by simp) rfl; rw [hl] at this; cases this
        have hTw := hL.world.two h23
        have h23n : (listed.setIfInBounds 3 true).getD 23 false = false := by rw [getD_set_ne false (by decide)]; exact h23
        have hjW := hTw.jb
        have q26 : a.tmps.getD 26 undef = .pointer (some ⟨H, 0, none⟩) := hL.new 2 26 (hall ⟨2, .data⟩ (by simp) rfl) rfl
        refine hL.pure (by kernel_rfl) rfl rfl (by intro d hd; cases hd; show (27 : Nat) < 64; decide) ?_ ?_
        · clear hL hall hcl hTw hjW
          go_simp
          rfl
        · refine OpW.of h23n ?_
          rw [opFl_ne listed 3 (by decide)]
          exact hTw
      · simp only [List.getElem?_toArray, List.getElem?_cons_zero, List.getElem?_cons_succ] at hi
        cases hi
        have h23 : listed.getD 23 false = false := by
          cases hh : listed.getD 23 false with
          | false => rfl
          | true => have := hcl 23 _ rfl hh ⟨4, .phase⟩ (by simp) rfl; rw [hl] at this; cases this
        have hTw := hL.world.two h23
        have h23n : (listed.setIfInBounds 4 true).getD 23 false = false := by rw [getD_set_ne false (by decide)]; exact h23
        have hjW := hTw.jb
        have q27 : a.tmps.getD 27 undef = .pointer (some ⟨H, 0, none⟩) := hL.new 3 27 (hall ⟨3, .data⟩ (by simp) rfl) rfl
        refine hL.pure (by kernel_rfl) rfl rfl (by intro d hd; cases hd; show (28 : Nat) < 64; decide) ?_ ?_
        · clear hL hall hcl hTw hjW
          go_simp
          rfl
        · refine OpW.of h23n ?_
          rw [opFl_ne listed 4 (by decide)]
          exact hTw
      · simp only [List.getElem?_toArray, List.getElem?_cons_zero, List.getElem?_cons_succ] at hi
        cases hi
        have h23 : listed.getD 23 false = false := by
          cases hh : listed.getD 23 false with
          | false => rfl
          | true => have := hcl 23 _ rfl hh ⟨5, .phase⟩ (by simp) rfl; rw [hl] at this; cases this
        have hTw := hL.world.two h23
        have h23n : (listed.setIfInBounds 5 true).getD 23 false = false := by rw [getD_set_ne false (by decide)]; exact h23
        have hjW := hTw.jb
        have q28 : a.tmps.getD 28 undef = .pointer (some ⟨H, 1, none⟩) := hL.new 4 28 (hall ⟨4, .data⟩ (by simp) rfl) rfl
        have hs1 : listed.getD 19 false = false := by
          cases hh : listed.getD 19 false with
          | false => rfl
          | true => have := hcl 19 _ rfl hh ⟨5, .phase⟩ (by simp) rfl; rw [hl] at this; cases this
        have cJ : W'.cell? ⟨H, 1, none⟩ = some (.slice A1 (jsOf pre).recs.length c1) := by
          rw [show (opFl listed).s1 = false from hs1] at hjW
          exact cell_of_row W' H 1 _ _ _ hjW
        refine hL.pure (by kernel_rfl) rfl rfl (by intro d hd; cases hd; show (29 : Nat) < 64; decide) ?_ ?_
        · clear hL hall hcl hTw hjW
          go_simp
          rfl
        · refine OpW.of h23n ?_
          rw [opFl_ne listed 5 (by decide)]
          exact hTw
      · simp only [List.getElem?_toArray, List.getElem?_cons_zero, List.getElem?_cons_succ] at hi
        cases hi
        have h23 : listed.getD 23 false = false := by
          cases hh : listed.getD 23 false with
          | false => rfl
          | true => have := hcl 23 _ rfl hh ⟨6, .phase⟩ (by simp) rfl; rw [hl] at this; cases this
        have hTw := hL.world.two h23
        have h23n : (listed.setIfInBounds 6 true).getD 23 false = false := by rw [getD_set_ne false (by decide)]; exact h23
        have hjW := hTw.jb
        have q8 : a.tmps.getD 8 undef = .string x.2 := hL.at 8 (by kernel_rfl)
        refine hL.pure (by kernel_rfl) rfl rfl (by intro d hd; cases hd; show (30 : Nat) < 64; decide) ?_ ?_
        · clear hL hall hcl hTw hjW
          go_simp
          rfl
        · refine OpW.of h23n ?_
          rw [opFl_ne listed 6 (by decide)]
          exact hTw
      · simp only [List.getElem?_toArray, List.getElem?_cons_zero, List.getElem?_cons_succ] at hi
        cases hi
        have h23 : listed.getD 23 false = false := by
          cases hh : listed.getD 23 false with
          | false => rfl
          | true => have := hcl 23 _ rfl hh ⟨7, .phase⟩ (by simp) rfl; rw [hl] at this; cases this
        have hTw := hL.world.two h23
        have h23n : (listed.setIfInBounds 7 true).getD 23 false = false := by rw [getD_set_ne false (by decide)]; exact h23
        have hjW := hTw.jb
        have q30 : a.tmps.getD 30 undef = .string x.2 := hL.new 6 30 (hall ⟨6, .data⟩ (by simp) rfl) rfl
        have hap : listed.getD 8 false = false := by
          cases hh : listed.getD 8 false with
          | false => rfl
          | true => have := hcl 8 _ rfl hh ⟨7, .data⟩ (by simp) rfl; rw [hl] at this; cases this
        have hT2 := hTw.build1 hl hap
        have hL2 := hL.put (by kernel_rfl) (i := 7) rfl (by intro d hd; cases hd; show (31 : Nat) < 64; decide) (x' := { g with x1 := .slice (some ⟨W'.heap.size, 0, none⟩) 1 1 }) (v := .slice (some ⟨W'.heap.size, 0, none⟩) 1 1) (fun _ _ => rfl) (fun j hj hne => opVal_x1 _ _ _ _ _ _ j hne) (OpW.of h23n (by rw [opFl_7 listed (by omega)]; exact hT2))
        have p30 : a.tmps[30]?.getD undef = .string x.2 := by rw [← Array.getD_eq_getD_getElem?]; exact q30
        refine step_op (i := 7) rfl rfl ?_
        generalize hK : (fun a' w' => ∃ x, Laid _ _ _ _ x (listed.setIfInBounds 7 true) a' w') = K
        have hKK := congrFun (congrFun hK _) _ ▸ (⟨_, hL2⟩ : ∃ x, Laid _ _ _ _ x (listed.setIfInBounds 7 true) _ _)
        clear hL hall hcl hTw hjW hL2 hT2 hK hn1 hn2
        unfold Oper.wp
        go_simp
        exact hKK
      · simp only [List.getElem?_toArray, List.getElem?_cons_zero, List.getElem?_cons_succ] at hi
        cases hi
        have h23 : listed.getD 23 false = false := by
          cases hh : listed.getD 23 false with
          | false => rfl
          | true => have := hcl 23 _ rfl hh ⟨8, .phase⟩ (by simp) rfl; rw [hl] at this; cases this
        have hTw := hL.world.two h23
        have h23n : (listed.setIfInBounds 8 true).getD 23 false = false := by rw [getD_set_ne false (by decide)]; exact h23
        have hjW := hTw.jb
        have hst : listed.getD 19 false = false := by
          cases hh : listed.getD 19 false with
          | false => rfl
          | true => have := hcl 19 _ rfl hh ⟨8, .data⟩ (by simp) rfl; rw [hl] at this; cases this
        refine step_op (i := 8) rfl rfl ?_
        refine hTw.opAppend1 (hall ⟨7, .data⟩ (by simp) rfl) hl hst (.tmp 29) (.tmp 31) rfl (hL.new 5 29 (hall ⟨5, .data⟩ (by simp) rfl) rfl) (hL.new 7 31 (hall ⟨7, .data⟩ (by simp) rfl) rfl) rfl (by first | (show (jsOf pre).recs.length + 1 ≤ 1000000; omega) | (show (jsOf pre).ends.length + 1 ≤ 1000000; omega)) hBH ?_
        intro k c w1 hT2
        exact ⟨_, hL.put (by kernel_rfl) (i := 8) rfl (by intro d hd; cases hd; show (32 : Nat) < 64; decide) (fun _ _ => rfl) (fun j hj hne => opVal_y1 _ _ _ _ _ _ j hne) (OpW.of h23n (by rw [opFl_8 listed (by omega)]; exact hT2))⟩
      · simp only [List.getElem?_toArray, List.getElem?_cons_zero, List.getElem?_cons_succ] at hi
        cases hi
        have h23 : listed.getD 23 false = false := by
          cases hh : listed.getD 23 false with
          | false => rfl
          | true => have := hcl 23 _ rfl hh ⟨9, .phase⟩ (by simp) rfl; rw [hl] at this; cases this
        have hTw := hL.world.two h23
        have h23n : (listed.setIfInBounds 9 true).getD 23 false = false := by rw [getD_set_ne false (by decide)]; exact h23
        have hjW := hTw.jb
        have q5 : a.tmps.getD 5 undef = .pointer (some ⟨H + 1, 0, none⟩) := hL.at 5 (by kernel_rfl)
        have cP : W'.cell? ⟨H + 1, 0, none⟩ = some (.pointer (some ⟨H, 0, none⟩)) := (World.cell?_of_block (hTw.keep (H + 1) ltP (by show H + 1 ≠ H; omega) (fun h => h) nP1 nP2)).trans cP5
        refine hL.pure (by kernel_rfl) rfl rfl (by intro d hd; cases hd; show (33 : Nat) < 64; decide) ?_ ?_
        · clear hL hall hcl hTw hjW
          go_simp
          rfl
        · refine OpW.of h23n ?_
          rw [opFl_ne listed 9 (by decide)]
          exact hTw
      · simp only [List.getElem?_toArray, List.getElem?_cons_zero, List.getElem?_cons_succ] at hi
        cases hi
        have h23 : listed.getD 23 false = false := by
          cases hh : listed.getD 23 false with
          | false => rfl
          | true => have := hcl 23 _ rfl hh ⟨10, .phase⟩ (by simp) rfl; rw [hl] at this; cases this
        have hTw := hL.world.two h23
        have h23n : (listed.setIfInBounds 10 true).getD 23 false = false := by rw [getD_set_ne false (by decide)]; exact h23
        have hjW := hTw.jb
        have q33 : a.tmps.getD 33 undef = .pointer (some ⟨H, 0, none⟩) := hL.new 9 33 (hall ⟨9, .data⟩ (by simp) rfl) rfl
        refine hL.pure (by kernel_rfl) rfl rfl (by intro d hd; cases hd; show (34 : Nat) < 64; decide) ?_ ?_
        · clear hL hall hcl hTw hjW
          go_simp
          rfl
        · refine OpW.of h23n ?_
          rw [opFl_ne listed 10 (by decide)]
          exact hTw
      · simp only [List.getElem?_toArray, List.getElem?_cons_zero, List.getElem?_cons_succ] at hi
        cases hi
        have h23 : listed.getD 23 false = false := by
          cases hh : listed.getD 23 false with
          | false => rfl
          | true => have := hcl 23 _ rfl hh ⟨11, .phase⟩ (by simp) rfl; rw [hl] at this; cases this
        have hTw := hL.world.two h23
        have h23n : (listed.setIfInBounds 11 true).getD 23 false = false := by rw [getD_set_ne false (by decide)]; exact h23
        have hjW := hTw.jb
        have q34 : a.tmps.getD 34 undef = .pointer (some ⟨H, 0, none⟩) := hL.new 10 34 (hall ⟨10, .data⟩ (by simp) rfl) rfl
        refine hL.pure (by kernel_rfl) rfl rfl (by intro d hd; cases hd; show (35 : Nat) < 64; decide) ?_ ?_
        · clear hL hall hcl hTw hjW
          go_simp
          rfl
        · refine OpW.of h23n ?_
          rw [opFl_ne listed 11 (by decide)]
          exact hTw
      · simp only [List.getElem?_toArray, List.getElem?_cons_zero, List.getElem?_cons_succ] at hi
        cases hi
        have h23 : listed.getD 23 false = false := by
          cases hh : listed.getD 23 false with
          | false => rfl
          | true => have := hcl 23 _ rfl hh ⟨12, .phase⟩ (by simp) rfl; rw [hl] at this; cases this
        have hTw := hL.world.two h23
        have h23n : (listed.setIfInBounds 12 true).getD 23 false = false := by rw [getD_set_ne false (by decide)]; exact h23
        have hjW := hTw.jb
        have q35 : a.tmps.getD 35 undef = .pointer (some ⟨H, 2, none⟩) := hL.new 11 35 (hall ⟨11, .data⟩ (by simp) rfl) rfl
        have hs2 : listed.getD 22 false = false := by
          cases hh : listed.getD 22 false with
          | false => rfl
          | true => have := hcl 22 _ rfl hh ⟨12, .phase⟩ (by simp) rfl; rw [hl] at this; cases this
        have cJ : W'.cell? ⟨H, 2, none⟩ = some (.slice A2 (jsOf pre).ends.length c2) := by
          rw [show (opFl listed).s2 = false from hs2] at hjW
          exact cell_of_row W' H 2 _ _ _ hjW
        refine hL.pure (by kernel_rfl) rfl rfl (by intro d hd; cases hd; show (36 : Nat) < 64; decide) ?_ ?_
        · clear hL hall hcl hTw hjW
          go_simp
          rfl
        · refine OpW.of h23n ?_
          rw [opFl_ne listed 12 (by decide)]
          exact hTw
      · simp only [List.getElem?_toArray, List.getElem?_cons_zero, List.getElem?_cons_succ] at hi
        cases hi
        have h23 : listed.getD 23 false = false := by
          cases hh : listed.getD 23 false with
          | false => rfl
          | true => have := hcl 23 _ rfl hh ⟨13, .phase⟩ (by simp) rfl; rw [hl] at this; cases this
        have hTw := hL.world.two h23
        have h23n : (listed.setIfInBounds 13 true).getD 23 false = false := by rw [getD_set_ne false (by decide)]; exact h23
        have hjW := hTw.jb
        have q7 : a.tmps.getD 7 undef = .int .i64 (x.1 : Int) := hL.at 7 (by kernel_rfl)
        refine hL.pure (by kernel_rfl) rfl rfl (by intro d hd; cases hd; show (37 : Nat) < 64; decide) ?_ ?_
        · clear hL hall hcl hTw hjW
          go_simp
          rfl
        · refine OpW.of h23n ?_
          rw [opFl_ne listed 13 (by decide)]
          exact hTw
      · simp only [List.getElem?_toArray, List.getElem?_cons_zero, List.getElem?_cons_succ] at hi
        cases hi
        have h23 : listed.getD 23 false = false := by
          cases hh : listed.getD 23 false with
          | false => rfl
          | true => have := hcl 23 _ rfl hh ⟨14, .phase⟩ (by simp) rfl; rw [hl] at this; cases this
        have hTw := hL.world.two h23
        have h23n : (listed.setIfInBounds 14 true).getD 23 false = false := by rw [getD_set_ne false (by decide)]; exact h23
        have hjW := hTw.jb
        have q37 : a.tmps.getD 37 undef = .int .i64 (x.1 : Int) := hL.new 13 37 (hall ⟨13, .data⟩ (by simp) rfl) rfl
        have hap : listed.getD 15 false = false := by
          cases hh : listed.getD 15 false with
          | false => rfl
          | true => have := hcl 15 _ rfl hh ⟨14, .data⟩ (by simp) rfl; rw [hl] at this; cases this
        have hT2 := hTw.build2 hl hap
        have hL2 := hL.put (by kernel_rfl) (i := 14) rfl (by intro d hd; cases hd; show (38 : Nat) < 64; decide) (x' := { g with x2 := .slice (some ⟨W'.heap.size, 0, none⟩) 1 1 }) (v := .slice (some ⟨W'.heap.size, 0, none⟩) 1 1) (fun _ _ => rfl) (fun j hj hne => opVal_x2 _ _ _ _ _ _ j hne) (OpW.of h23n (by rw [opFl_14 listed (by omega)]; exact hT2))
        have p37 : a.tmps[37]?.getD undef = .int .i64 (x.1 : Int) := by rw [← Array.getD_eq_getD_getElem?]; exact q37
        refine step_op (i := 14) rfl rfl ?_
        generalize hK : (fun a' w' => ∃ x, Laid _ _ _ _ x (listed.setIfInBounds 14 true) a' w') = K
        have hKK := congrFun (congrFun hK _) _ ▸ (⟨_, hL2⟩ : ∃ x, Laid _ _ _ _ x (listed.setIfInBounds 14 true) _ _)
        clear hL hall hcl hTw hjW hL2 hT2 hK hn1 hn2
        unfold Oper.wp
        go_simp
        exact hKK
      · simp only [List.getElem?_toArray, List.getElem?_cons_zero, List.getElem?_cons_succ] at hi
        cases hi
        have h23 : listed.getD 23 false = false := by
          cases hh : listed.getD 23 false with
          | false => rfl
          | true => have := hcl 23 _ rfl hh ⟨15, .phase⟩ (by simp) rfl; rw [hl] at this; cases this
        have hTw := hL.world.two h23
        have h23n : (listed.setIfInBounds 15 true).getD 23 false = false := by rw [getD_set_ne false (by decide)]; exact h23
        have hjW := hTw.jb
        have hst : listed.getD 22 false = false := by
          cases hh : listed.getD 22 false with
          | false => rfl
          | true => have := hcl 22 _ rfl hh ⟨15, .data⟩ (by simp) rfl; rw [hl] at this; cases this
        refine step_op (i := 15) rfl rfl ?_
        refine hTw.opAppend2 (hall ⟨14, .data⟩ (by simp) rfl) hl hst (.tmp 36) (.tmp 38) rfl (hL.new 12 36 (hall ⟨12, .data⟩ (by simp) rfl) rfl) (hL.new 14 38 (hall ⟨14, .data⟩ (by simp) rfl) rfl) rfl (by first | (show (jsOf pre).recs.length + 1 ≤ 1000000; omega) | (show (jsOf pre).ends.length + 1 ≤ 1000000; omega)) hBH ?_
        intro k c w1 hT2
        exact ⟨_, hL.put (by kernel_rfl) (i := 15) rfl (by intro d hd; cases hd; show (39 : Nat) < 64; decide) (fun _ _ => rfl) (fun j hj hne => opVal_y2 _ _ _ _ _ _ j hne) (OpW.of h23n (by rw [opFl_15 listed (by omega)]; exact hT2))⟩
      · simp only [List.getElem?_toArray, List.getElem?_cons_zero, List.getElem?_cons_succ] at hi
        cases hi
        have h23 : listed.getD 23 false = false := by
          cases hh : listed.getD 23 false with
          | false => rfl
          | true => have := hcl 23 _ rfl hh ⟨16, .phase⟩ (by simp) rfl; rw [hl] at this; cases this
        have hTw := hL.world.two h23
        have h23n : (listed.setIfInBounds 16 true).getD 23 false = false := by rw [getD_set_ne false (by decide)]; exact h23
        have hjW := hTw.jb
        have q7 : a.tmps.getD 7 undef = .int .i64 (x.1 : Int) := hL.at 7 (by kernel_rfl)
        refine hL.pure (by kernel_rfl) rfl rfl (by intro d hd; cases hd; show (40 : Nat) < 64; decide) ?_ ?_
        · clear hL hall hcl hTw hjW
          go_simp
          rfl
        · refine OpW.of h23n ?_
          rw [opFl_ne listed 16 (by decide)]
          exact hTw
      · simp only [List.getElem?_toArray, List.getElem?_cons_zero, List.getElem?_cons_succ] at hi
        cases hi
        have h23 : listed.getD 23 false = false := by
          cases hh : listed.getD 23 false with
          | false => rfl
          | true => have := hcl 23 _ rfl hh ⟨17, .phase⟩ (by simp) rfl; rw [hl] at this; cases this
        have hTw := hL.world.two h23
        have h23n : (listed.setIfInBounds 17 true).getD 23 false = false := by rw [getD_set_ne false (by decide)]; exact h23
        have hjW := hTw.jb
        have q24 : a.tmps.getD 24 undef = .pointer (some ⟨H, 0, none⟩) := hL.new 0 24 (hall ⟨0, .data⟩ (by simp) rfl) rfl
        refine hL.pure (by kernel_rfl) rfl rfl (by intro d hd; cases hd; show (41 : Nat) < 64; decide) ?_ ?_
        · clear hL hall hcl hTw hjW
          go_simp
          rfl
        · refine OpW.of h23n ?_
          rw [opFl_ne listed 17 (by decide)]
          exact hTw
      · simp only [List.getElem?_toArray, List.getElem?_cons_zero, List.getElem?_cons_succ] at hi
        cases hi
        have h23 : listed.getD 23 false = false := by
          cases hh : listed.getD 23 false with
          | false => rfl
          | true => have := hcl 23 _ rfl hh ⟨18, .phase⟩ (by simp) rfl; rw [hl] at this; cases this
        have hTw := hL.world.two h23
        have h23n : (listed.setIfInBounds 18 true).getD 23 false = false := by rw [getD_set_ne false (by decide)]; exact h23
        have hjW := hTw.jb
        have q41 : a.tmps.getD 41 undef = .pointer (some ⟨H, 0, none⟩) := hL.new 17 41 (hall ⟨17, .data⟩ (by simp) rfl) rfl
        refine hL.pure (by kernel_rfl) rfl rfl (by intro d hd; cases hd; show (42 : Nat) < 64; decide) ?_ ?_
        · clear hL hall hcl hTw hjW
          go_simp
          rfl
        · refine OpW.of h23n ?_
          rw [opFl_ne listed 18 (by decide)]
          exact hTw
      · simp only [List.getElem?_toArray, List.getElem?_cons_zero, List.getElem?_cons_succ] at hi
        cases hi
        have h23 : listed.getD 23 false = false := by
          cases hh : listed.getD 23 false with
          | false => rfl
          | true => have := hcl 23 _ rfl hh ⟨19, .phase⟩ (by simp) rfl; rw [hl] at this; cases this
        have hTw := hL.world.two h23
        have h23n : (listed.setIfInBounds 19 true).getD 23 false = false := by rw [getD_set_ne false (by decide)]; exact h23
        have hjW := hTw.jb
        have hap := hall ⟨8, .data⟩ (by simp) rfl
        have qa : a.tmps.getD 42 undef = .pointer (some ⟨H, 1, none⟩) := hL.new 18 42 (hall ⟨18, .data⟩ (by simp) rfl) rfl
        have qv : a.tmps.getD 32 undef = g.y1 := hL.new 8 32 hap rfl
        have hT2 := hTw.store1 hap
        obtain ⟨gk, gc, hy⟩ : ∃ k c, g.y1 = .slice (some ⟨k, 0, none⟩) ((jsOf pre).recs.length + 1) c := by
          have hr := hTw.row1
          simp only [show (opFl listed).a1 = true from hap, if_true] at hr
          exact ownsRow_succ hr
        rw [hy] at qv hT2
        have cJ := cell_of_row W' H 1 _ _ _ hjW
        have fJ : W'.frozen? ⟨H, 1, none⟩ = false := by simp [World.frozen?, show W'.heap[H]? = _ from hjW]
        refine step_op (i := 19) rfl rfl ?_
        have hL2 := hL.put (by kernel_rfl) (i := 19) rfl (by intro d hd; cases hd) (x' := g) (v := undef) (by intro d hd; cases hd) (fun _ _ _ => rfl) (OpW.of h23n (by rw [opFl_19 listed (by omega)]; exact hT2))
        generalize hK : (fun a' w' => ∃ x, Laid _ _ _ _ x (listed.setIfInBounds 19 true) a' w') = K
        have hKK := congrFun (congrFun hK _) _ ▸ (⟨_, hL2⟩ : ∃ x, Laid _ _ _ _ x (listed.setIfInBounds 19 true) _ _)
        clear hL hall hcl hTw hjW hL2 hT2 hK hn1 hn2
        unfold Oper.wp
        go_simp
        exact hKK
      · simp only [List.getElem?_toArray, List.getElem?_cons_zero, List.getElem?_cons_succ] at hi
        cases hi
        have h23 : listed.getD 23 false = false := by
          cases hh : listed.getD 23 false with
          | false => rfl
          | true => have := hcl 23 _ rfl hh ⟨20, .phase⟩ (by simp) rfl; rw [hl] at this; cases this
        have hTw := hL.world.two h23
        have h23n : (listed.setIfInBounds 20 true).getD 23 false = false := by rw [getD_set_ne false (by decide)]; exact h23
        have hjW := hTw.jb
        have q25 : a.tmps.getD 25 undef = .pointer (some ⟨H, 0, none⟩) := hL.new 1 25 (hall ⟨1, .data⟩ (by simp) rfl) rfl
        refine hL.pure (by kernel_rfl) rfl rfl (by intro d hd; cases hd; show (43 : Nat) < 64; decide) ?_ ?_
        · clear hL hall hcl hTw hjW
          go_simp
          rfl
        · refine OpW.of h23n ?_
          rw [opFl_ne listed 20 (by decide)]
          exact hTw
      · simp only [List.getElem?_toArray, List.getElem?_cons_zero, List.getElem?_cons_succ] at hi
        cases hi
        have h23 : listed.getD 23 false = false := by
          cases hh : listed.getD 23 false with
          | false => rfl
          | true => have := hcl 23 _ rfl hh ⟨21, .phase⟩ (by simp) rfl; rw [hl] at this; cases this
        have hTw := hL.world.two h23
        have h23n : (listed.setIfInBounds 21 true).getD 23 false = false := by rw [getD_set_ne false (by decide)]; exact h23
        have hjW := hTw.jb
        have q43 : a.tmps.getD 43 undef = .pointer (some ⟨H, 0, none⟩) := hL.new 20 43 (hall ⟨20, .data⟩ (by simp) rfl) rfl
        refine hL.pure (by kernel_rfl) rfl rfl (by intro d hd; cases hd; show (44 : Nat) < 64; decide) ?_ ?_
        · clear hL hall hcl hTw hjW
          go_simp
          rfl
        · refine OpW.of h23n ?_
          rw [opFl_ne listed 21 (by decide)]
          exact hTw
      · simp only [List.getElem?_toArray, List.getElem?_cons_zero, List.getElem?_cons_succ] at hi
        cases hi
        have h23 : listed.getD 23 false = false := by
          cases hh : listed.getD 23 false with
          | false => rfl
          | true => have := hcl 23 _ rfl hh ⟨22, .phase⟩ (by simp) rfl; rw [hl] at this; cases this
        have hTw := hL.world.two h23
        have h23n : (listed.setIfInBounds 22 true).getD 23 false = false := by rw [getD_set_ne false (by decide)]; exact h23
        have hjW := hTw.jb
        have hap := hall ⟨15, .data⟩ (by simp) rfl
        have qa : a.tmps.getD 44 undef = .pointer (some ⟨H, 2, none⟩) := hL.new 21 44 (hall ⟨21, .data⟩ (by simp) rfl) rfl
        have qv : a.tmps.getD 39 undef = g.y2 := hL.new 15 39 hap rfl
        have hT2 := hTw.store2 hap
        obtain ⟨gk, gc, hy⟩ : ∃ k c, g.y2 = .slice (some ⟨k, 0, none⟩) ((jsOf pre).ends.length + 1) c := by
          have hr := hTw.row2
          simp only [show (opFl listed).a2 = true from hap, if_true] at hr
          exact ownsRow_succ hr
        rw [hy] at qv hT2
        have cJ := cell_of_row W' H 2 _ _ _ hjW
        have fJ : W'.frozen? ⟨H, 2, none⟩ = false := by simp [World.frozen?, show W'.heap[H]? = _ from hjW]
        refine step_op (i := 22) rfl rfl ?_
        have hL2 := hL.put (by kernel_rfl) (i := 22) rfl (by intro d hd; cases hd) (x' := g) (v := undef) (by intro d hd; cases hd) (fun _ _ _ => rfl) (OpW.of h23n (by rw [opFl_22 listed (by omega)]; exact hT2))
        generalize hK : (fun a' w' => ∃ x, Laid _ _ _ _ x (listed.setIfInBounds 22 true) a' w') = K
        have hKK := congrFun (congrFun hK _) _ ▸ (⟨_, hL2⟩ : ∃ x, Laid _ _ _ _ x (listed.setIfInBounds 22 true) _ _)
        clear hL hall hcl hTw hjW hL2 hT2 hK hn1 hn2
        unfold Oper.wp
        go_simp
        exact hKK
      · simp only [List.getElem?_toArray, List.getElem?_cons_zero, List.getElem?_cons_succ] at hi
        cases hi
        have hTw := hL.world.two hl
        have hfl : opFl listed = ⟨true, true, true, true, true, true⟩ := by
          unfold opFl
          rw [hall ⟨7, .phase⟩ (by simp) rfl, hall ⟨8, .phase⟩ (by simp) rfl, hall ⟨19, .phase⟩ (by simp) rfl, hall ⟨14, .phase⟩ (by simp) rfl, hall ⟨15, .phase⟩ (by simp) rfl, hall ⟨22, .phase⟩ (by simp) rfl]
        rw [hfl] at hTw
        have q6 : a.tmps.getD 6 undef = .pointer (some ⟨H + 2, 0, none⟩) := hL.at 6 (by kernel_rfl)
        have q40 : a.tmps.getD 40 undef = .int .i64 (x.1 : Int) := hL.new 16 40 (hall ⟨16, .data⟩ (by simp) rfl) rfl
        have bE : Boxed W' (H + 2) INT (.int .i64 (endOf pre : Int)) := (hTw.keep (H + 2) ltE (by show H + 2 ≠ H; omega) (fun h => h) nE1 nE2).trans hen
        have cE := bE.cell
        have fE := bE.frozen
        refine step_op (i := 23) rfl rfl ?_
        have hL2 := hL.put (by kernel_rfl) (i := 23) rfl (by intro d hd; cases hd) (x' := g) (v := undef) (by intro d hd; cases hd) (fun _ _ _ => rfl) (OpW.toLast (getD_set_self (by omega)) hTw)
        generalize hK : (fun a' w' => ∃ x, Laid _ _ _ _ x (listed.setIfInBounds 23 true) a' w') = K
        have hKK := congrFun (congrFun hK _) _ ▸ (⟨_, hL2⟩ : ∃ x, Laid _ _ _ _ x (listed.setIfInBounds 23 true) _ _)
        clear hL hall hcl hTw hL2 hK
        unfold Oper.wp
        go_simp
        exact hKK
    -- end of region 9 (printed)
  case done =>
    rintro D ys W hD rfl ⟨v1, v2, hI⟩ hK
    have hee := scanL_end t.bytes
    have hDw : B ≤ D := Nat.le_trans hB (Nat.le_trans hle hD)
    have I1 : OpnD B w1 H f D v1 v2 v (jsOf (scanL t.bytes)) t (endOf (scanL t.bytes)) W :=
      ⟨⟨hI.jb, row_base hI.row1 (by omega), row_base hI.row2 (by omega), by omega⟩, HF.out.below hI.below, hI.pb, hI.en, hK, hI.below.mono hB, Nat.le_trans hB hI.below.size, Touch.ofBelow hI.below⟩
    have HI1 := Lib.hid I1
    obtain ⟨A, c, rfl, hc, hcm, hnil, hrd⟩ := I1.file.reads
    obtain ⟨c0, c1, c2, c3, fr, hlt⟩ := I1.file.cells
    have ltE := I1.en.lt
    have cE := I1.en.cell
    clear I1 hI hK HI0 hst hs3 hrd hnil fr hlen
    by_cases hend : endOf (scanL t.bytes) < t.bytes.size
    · gi_wp2_with fail
      refine wpIn_wide.2 ?_
      have l0 := later_cell (B := W.heap.size) c0 hlt
      have l1 := later_cell (B := W.heap.size) cE ltE
      have hend' : (endOf (scanL t.bytes) : Int) < (t.bytes.size : Int) := by omega
      refine wp_region_later (by kernel_rfl) (by kernel_rfl) ?_
      repeat (go_big_quiet_step (fail))
      refine wpQuiet_nil ?_
      intro w3 hb3
      have HI3 := Lib.hid (HI1.out.later hb3)
      clear l0 l1 c0 c1 c2 c3 cE ltE hlt HI1 hb3
      have cE := HI3.out.en.cell
      have ct := truncate_any B f _ t (endOf (scanL t.bytes)) w3 HI3.out.file (by omega) (by omega) (by omega) HI3.out.hB
      rw [trunc_open t _ hd hl hee] at ct
      dsimp only at ct
      have cp := HI3.out.pb.cell
      have hx : (t.bytes.extract 0 (endOf (scanL t.bytes))).size = endOf (scanL t.bytes) := by rw [ByteArray.size_extract]; omega
      have hsy := sync_open ⟨t.bytes.extract 0 (endOf (scanL t.bytes)), min t.syn (endOf (scanL t.bytes)), -1, false⟩ rfl rfl
      rw [hx] at hsy
      have HS := Lib.hid hsy
      have hl1 : (-1 : Int) ≤ -1 := by decide
      have hl2 : (-1 : Int) < 9223372036854775808 := by decide
      clear hx hsy
      gi_wp2_with (first
        | (refine ⟨trivial, ?_⟩; gi_at_call 49; refine (callsIn_wide.2 ct).mono ?_; rintro e w4 ⟨rfl, v', hF4, t4⟩; have HI4 := Lib.hid (HI3.out.step hF4 t4); clear hF4 t4)
        | (refine ⟨trivial, ?_⟩; gi_at_call 50; refine (callsIn_wide.2 (fileSync_any B f _ _ _ HI4.out.file hl1 hl2)).mono ?_; rw [HS.out]; rintro e w5 ⟨rfl, hF5, t5⟩; have HI5 := Lib.hid (HI4.out.step hF5 t5); clear hF5 t5; have cp5 := HI5.out.pb.cell))
      obtain ⟨a1, a2, a3, a4⟩ := HI5.out.fin hDw (Nat.le_trans hle hD)
      refine ⟨by simp, .inl ⟨_, _, rfl, run_takeDeferred HI5.out.dd, ?_⟩⟩
      exact ⟨_, by simp [results, Try.results24, go_sem]; rfl, by rw [hH], _, _, _, hH ▸ a1, a2, a3, a4⟩
    · have e1 : endOf (scanL t.bytes) = t.bytes.size := by omega
      have hsy := sync_open t hd hl
      have hx : t.bytes.extract 0 t.bytes.size = t.bytes := ByteArray.extract_zero_size
      rw [e1] at HI1 cE
      have HE : Hid (t.bytes.extract 0 (endOf (scanL t.bytes)) = t.bytes ∧ endOf (scanL t.bytes) = t.bytes.size) := Lib.hid ⟨by rw [e1]; exact hx, e1⟩
      have HS := Lib.hid hsy
      gi_wp2_with fail
      refine wpIn_wide.2 ?_
      have l0 := later_cell (B := W.heap.size) c0 hlt
      have l1 := later_cell (B := W.heap.size) cE ltE
      clear hsy hx e1 hend hee
      refine wp_region_later (by kernel_rfl) (by kernel_rfl) ?_
      repeat (go_big_quiet_step (fail))
      refine wpQuiet_nil ?_
      intro w3 hb3
      have HI3 := Lib.hid (HI1.out.later hb3)
      clear l0 l1 c0 c1 c2 c3 cE ltE hlt HI1 hb3
      gi_wp2_with (first
        | (refine ⟨trivial, ?_⟩; gi_at_call 50; refine (callsIn_wide.2 (fileSync_any B f _ _ _ HI3.out.file (by omega) (by omega))).mono ?_; rw [HS.out]; rintro e w5 ⟨rfl, hF5, t5⟩; have HI5 := Lib.hid (HI3.out.step hF5 t5); clear hF5 t5; have cp5 := HI5.out.pb.cell))
      obtain ⟨a1, a2, a3, a4⟩ := HI5.out.fin hDw (Nat.le_trans hle hD)
      refine ⟨by simp, .inl ⟨_, _, rfl, run_takeDeferred HI5.out.dd, ?_⟩⟩
      exact ⟨_, by simp [results, Try.results24, go_sem]; rfl, by rw [hH], _, _, _, hH ▸ a1, by rw [HE.out.1, HE.out.2]; exact a2, a3, a4⟩
  case stop =>
    rintro D c pre W _ _ h _
    exact h.elim
end Go.Proofs.Ythfnpakddnnccaa
