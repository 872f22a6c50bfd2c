/- Scan of package journal: contract. -/
import Derived.Test.YthfnpakddnnccaaFound
namespace Go.Proofs.Ythfnpakddnnccaa
open Go.RowKit Go.Shelf
set_option linter.unusedVariables false

attribute [local go_sem] Oper.semAt_some

def endOf (l : List (Nat × ByteArray)) : Nat := (l.getLast?.map (·.1)).getD 0
theorem endOf_snoc (l : List (Nat × ByteArray)) (x : Nat × ByteArray) : endOf (l ++ [x]) = x.1 := by simp [endOf]
def recV (x : Nat × ByteArray) : Value := .string x.2

/-- What comes is what the bytes say, record behind record. -/
theorem scanFrom_spec (s : ByteArray) : ∀ (fuel a k : Nat), a ≤ s.size → s.size ≤ a + fuel →
    (scanFrom s fuel a k).length * 12 + a ≤ s.size ∧ ((scanFrom s fuel a k = [] ∨ endOf (scanFrom s fuel a k) ≤ s.size) ∧
    ((if scanFrom s fuel a k = [] then a else endOf (scanFrom s fuel a k)) < s.size → (dec (s.extract (if scanFrom s fuel a k = [] then a else endOf (scanFrom s fuel a k)) s.size) ((k + (scanFrom s fuel a k).length : Nat) : Int)).2.2 ≠ 0)) := by
  intro fuel
  induction fuel with
  | zero => intro a k h0 h1; simp [scanFrom]; omega
  | succ f ih =>
    intro a k h0 h1
    rw [scanFrom]
    by_cases hlt : a < s.size
    · rw [if_pos hlt]
      by_cases hd : (dec (s.extract a s.size) k).2.2 = 0
      · rw [if_pos hd]
        have ds := dec_size _ _ hd
        rw [size_from] at ds
        obtain ⟨i1, i2, i3⟩ := ih (a + (dec (s.extract a s.size) k).2.1) (k + 1) (by omega) (by omega)
        generalize (dec (s.extract a s.size) k).2.1 = m at *
        generalize (dec (s.extract a s.size) k).1 = r at *
        generalize scanFrom s f (a + m) (k + 1) = t at *
        rw [if_neg (by simp)]
        have he : endOf ((a + m, r) :: t) = if t = [] then a + m else endOf t := by
          cases t with
          | nil => rfl
          | cons y t => rw [if_neg (by simp)]; simp [endOf]
        rw [he]
        refine ⟨by simp; omega, .inr ?_, ?_⟩
        · split
          · omega
          · rcases i2 with i2 | i2
            · contradiction
            · exact i2
        · rw [show k + ((a + m, r) :: t).length = k + 1 + t.length from by simp; omega]
          exact i3
      · rw [if_neg hd]
        exact ⟨by simp; omega, .inl rfl, fun _ => by simpa using hd⟩
    · rw [if_neg hlt]
      exact ⟨by simp; omega, .inl rfl, fun h => by simp at h; omega⟩
theorem scanL_len (s : ByteArray) : (scanL s).length * 12 ≤ s.size := by
  have := (scanFrom_spec s s.size 0 0 (by omega) (by omega)).1
  unfold scanL; omega
theorem scanL_end (s : ByteArray) : endOf (scanL s) ≤ s.size := by
  have := (scanFrom_spec s s.size 0 0 (by omega) (by omega)).2.1
  unfold scanL
  rcases this with h | h
  · rw [h]; exact Nat.zero_le _
  · exact h
theorem scanL_stop (s : ByteArray) (h : endOf (scanL s) < s.size) : (dec (s.extract (endOf (scanL s)) s.size) ((scanL s).length : Int)).2.2 ≠ 0 := by
  have := (scanFrom_spec s s.size 0 0 (by omega) (by omega)).2.2
  unfold scanL at *
  have e : (if scanFrom s s.size 0 0 = [] then 0 else endOf (scanFrom s s.size 0 0)) = endOf (scanFrom s s.size 0 0) := by
    split
    · rename_i h; rw [h]; rfl
    · rfl
  rw [e, Nat.zero_add] at this
  exact this h

theorem infoStr : ∃ i, Try.prog.info? 9 = some i ∧ i.zero = some (.string ⟨#[]⟩) ∧ i.size = 1 ∧ i.bytes = 16 := by
  obtain ⟨i, hi, hz, h1, h2⟩ := info_parts (show (Try.prog.info? 9).map (fun i => (i.zero, i.size, i.bytes)) = some (some (.string ⟨#[]⟩), 1, 16) from by kernel_rfl)
  exact ⟨i, hi, hz, h1, h2⟩

/-- Between two rounds of Scan's loop. -/
structure ScanI (w : World) (s : ByteArray) (pre : List (Nat × ByteArray)) (W : World) (v : Value) : Prop where
  bx : Boxed W w.heap.size 35 v
  row : W.ownsRow (w.heap.size + 3) 9 1 v pre.length (pre.map recV)
  en : Boxed W (w.heap.size + 1) 3 (.int .i64 (endOf pre : Int))
  st : Boxed W (w.heap.size + 2) 9 (.string s)
  below : Below w.heap.size w W

theorem row_not_below {W : World} {base size n : Nat} {e : TypeId} {v : Value} {xs : List Value} (h : W.ownsRow base e size v n xs) {B : Nat} (hB : B < base) : some B ≠ v.ownBlock := fun e => by have := (h.lt B e.symm).1; omega
theorem row_isCells {W : World} {base size n : Nat} {e : TypeId} {v : Value} {xs : List Value} (h : W.ownsRow base e size v n xs) : ∀ (j : Nat) (o : Obj), v.ownBlock = some j → W.heap[j]? = some o → o.isCells = true := by
  intro j o ej hj
  rcases h.2 with ⟨rfl, _⟩ | ⟨g, cap, cur, rfl, _, hgb, _⟩
  · simp [Value.ownBlock] at ej
  · obtain rfl : g = j := by simpa [Value.ownBlock] using ej
    rw [hgb] at hj; cases hj; rfl
theorem boxed_from {W W' : World} {row : Option Nat} {B : Nat} {t : TypeId} {v : Value} (h : Boxed W B t v) (hg : W.grownBy W' row) (hr : ∀ r, row = some r → ∃ o : Obj, W.heap[r]? = some o ∧ o.isCells = false) : Boxed W' B t v :=
  h.kept hg fun e => by
    obtain ⟨o, ho, hc⟩ := hr B e.symm
    rw [show W.heap[B]? = _ from h] at ho; cases ho; cases hc
theorem row_from {W W' : World} {row : Option Nat} {base size n : Nat} {e : TypeId} {v : Value} {xs : List Value} (h : W.ownsRow base e size v n xs) (hg : W.grownBy W' row) (hr : ∀ r, row = some r → ∃ o : Obj, W.heap[r]? = some o ∧ o.isCells = false) : W'.ownsRow base e size v n xs := by
  refine h.kept hg ?_
  rcases h.2 with ⟨rfl, _⟩ | ⟨g, cap, cur, rfl, _, hgb, _⟩
  · exact .inl rfl
  · refine .inr fun e' => ?_
    obtain ⟨o, ho, hc⟩ := hr g (by simpa [Value.ownBlock] using e'.symm)
    rw [hgb] at ho; cases ho; cases hc
theorem scanI_own (w : World) (s : ByteArray) (B : Nat) (hB : w.heap.size ≤ B) : OwnFrom B (fun pre W => ∃ v, ScanI w s pre W v) := by
  rintro pre W W' row ⟨v, h⟩ hg hr
  have hr' := fun r e => (hr r e).2
  exact ⟨v, boxed_from h.bx hg hr', row_from h.row hg hr', boxed_from h.en hg hr', boxed_from h.st hg hr', h.below.grown hg h.below.size (fun k e => Nat.le_trans hB (hr k e).1)⟩
theorem boxed_other {W : World} {B C : Nat} {t : TypeId} {v : Value} (h : Boxed W B t v) (hne : B ≠ C) (u : Value) : Boxed (W.setCell ⟨C, 0, none⟩ u) B t v := h.kept (grownBy_setCell' W C u) (by simpa using hne)

theorem scan_step {w W w1 : World} {s : ByteArray} {pre : List (Nat × ByteArray)} {x : Nat × ByteArray} {v v' : Value} {tmp : Obj} (h : ScanI w s pre W v)
    (hown : w1.ownsRow (w.heap.size + 3) 9 1 v' (pre.length + 1) (pre.map recV ++ [recV x])) (hgrow : (W.alloc tmp).grownBy w1 v.ownBlock) :
    Boxed w1 w.heap.size 35 v ∧ Boxed w1 (w.heap.size + 1) 3 (.int .i64 (endOf pre : Int)) ∧
    KeepsOthers W ((w1.setCell ⟨w.heap.size, 0, none⟩ v').setCell ⟨w.heap.size + 1, 0, none⟩ (.int .i64 (x.1 : Int))) ∧
    ScanI w s (pre ++ [x]) ((w1.setCell ⟨w.heap.size, 0, none⟩ v').setCell ⟨w.heap.size + 1, 0, none⟩ (.int .i64 (x.1 : Int))) v' := by
  have k0 : Boxed w1 w.heap.size 35 v := (h.bx.alloc tmp).kept hgrow (row_not_below h.row (by omega))
  have k1 : Boxed w1 (w.heap.size + 1) 3 (.int .i64 (endOf pre : Int)) := (h.en.alloc tmp).kept hgrow (row_not_below h.row (by omega))
  have k2 : Boxed w1 (w.heap.size + 2) 9 (.string s) := (h.st.alloc tmp).kept hgrow (row_not_below h.row (by omega))
  refine ⟨k0, k1, ?_, ?_, ?_, ?_, ?_, ?_⟩
  · exact (((KeepsOthers.alloc W tmp).trans (KeepsOthers.of_grownBy hgrow (row_isCells (h.row.alloc tmp)))).trans (KeepsOthers.setCell _ _ _)).trans (KeepsOthers.setCell _ _ _)
  · exact boxed_other (k0.set v') (by omega) _
  · rw [List.length_append, List.map_append]
    exact (hown.kept (grownBy_setCell' w1 _ v') (.inr (row_not_below hown (by omega)).symm)).kept (grownBy_setCell' _ _ _) (.inr (row_not_below hown (by omega)).symm)
  · rw [endOf_snoc]
    exact (boxed_other k1 (by omega) v').set _
  · exact boxed_other (boxed_other k2 (by omega) _) (by omega) _
  · have b1 : Below w.heap.size w w1 := (h.below.alloc h.below.size tmp).grown hgrow (Nat.le_trans h.below.size (by simp)) (fun j ej => by have := (h.row.lt j ej).1; omega)
    exact (b1.setCell (p := ⟨w.heap.size, 0, none⟩) (Nat.le_refl _) _).setCell (p := ⟨w.heap.size + 1, 0, none⟩) (by show w.heap.size ≤ w.heap.size + 1; omega) _

theorem scan_back {w W W2 : World} {s : ByteArray} {ys : List (Nat × ByteArray)} {v : Value} {D : Nat} (h : ScanI w s ys W v) (hK : W.heap[D]? = some (.deferred (some []))) (hD : w.heap.size ≤ D)
    (hW : ((W.setCell ⟨w.heap.size, 0, none⟩ v).setCell ⟨w.heap.size + 1, 0, none⟩ (.int .i64 (endOf ys : Int))).drew = W2) :
    W2.heap[D]? = some (.deferred (some [])) ∧ (W2.putObj D (.deferred none)).cell? ⟨w.heap.size, 0, none⟩ = some v ∧ (W2.putObj D (.deferred none)).cell? ⟨w.heap.size + 1, 0, none⟩ = some (.int .i64 (endOf ys : Int)) ∧
    (W2.putObj D (.deferred none)).ownsRow w.heap.size 9 1 v ys.length (ys.map recV) ∧ Below w.heap.size w (W2.putObj D (.deferred none)) := by
  have k0 : Boxed W2 w.heap.size 35 v := by rw [← hW]; exact boxed_other (h.bx.set v) (by omega) _
  have k1 : Boxed W2 (w.heap.size + 1) 3 (.int .i64 (endOf ys : Int)) := by rw [← hW]; exact (boxed_other h.en (by omega) v).set _
  have kD : W2.heap[D]? = some (.deferred (some [])) := by
    rw [← hW]
    exact (((KeepsOthers.setCell W _ _).trans (KeepsOthers.setCell _ _ _))).same D _ hK rfl
  have hr : ∀ r, some D = some r → ∃ o : Obj, W2.heap[r]? = some o ∧ o.isCells = false := fun r e => by cases e; exact ⟨_, kD, rfl⟩
  have row : W2.ownsRow (w.heap.size + 3) 9 1 v ys.length (ys.map recV) := by
    rw [← hW]
    have hr1 := (h.row.kept (grownBy_setCell' W w.heap.size v) (.inr (row_not_below h.row (B := w.heap.size) (by omega)).symm)).kept (grownBy_setCell' _ (w.heap.size + 1) (.int .i64 (endOf ys : Int))) (.inr (row_not_below h.row (B := w.heap.size + 1) (by omega)).symm)
    exact hr1
  refine ⟨kD, (boxed_from k0 (grownBy_putObj' W2 D (.deferred none)) hr).cell, (boxed_from k1 (grownBy_putObj' W2 D (.deferred none)) hr).cell, ?_, ?_⟩
  · have := row_from row (grownBy_putObj' W2 D (.deferred none)) hr
    refine ⟨this.1, ?_⟩
    rcases this.2 with h | ⟨g, cap, cur, hv, hg, r⟩
    · exact .inl h
    · exact .inr ⟨g, cap, cur, hv, by omega, r⟩
  · have b : Below w.heap.size w W2 := by
      rw [← hW]
      exact ((h.below.setCell (p := ⟨w.heap.size, 0, none⟩) (Nat.le_refl _) _).setCell (p := ⟨w.heap.size + 1, 0, none⟩) (by show w.heap.size ≤ w.heap.size + 1; omega) _).drew
    exact b.grown (grownBy_putObj' W2 D (.deferred none)) b.size (fun k e => by cases e; exact hD)
theorem scanI_below {w W W' : World} {s : ByteArray} {ys : List (Nat × ByteArray)} {v : Value} (h : ScanI w s ys W v) (hb : Below W.heap.size W W') : ScanI w s ys W' v :=
  ⟨boxed_below h.bx hb, own_below h.row hb, boxed_below h.en hb, boxed_below h.st hb, h.below.trans (hb.mono h.below.size)⟩

set_option maxRecDepth 100000 in
set_option maxHeartbeats 4000000 in
theorem scan_any (s : ByteArray) (w : World) (hs : s.size ≤ 16777216) :
    Calls Try.prog 21 #[.string s] w fun e w' => ∃ v, e = .returned (.tuple #[v, .int .i64 (endOf (scanL s) : Int), .int .i64 (if endOf (scanL s) < s.size then (dec (s.extract (endOf (scanL s)) s.size) ((scanL s).length : Int)).2.2 else 0)]) ∧
      w'.ownsRow w.heap.size 9 1 v (scanL s).length ((scanL s).map recV) ∧ Below w.heap.size w w' := by
  have hlen := scanL_len s
  obtain ⟨i0, hi, hz0, hz1, hz2⟩ := infoStr
  refine (callsIn_wide (n := 3)).1 ?_
  refine callsIn_of_wp_marks Try.func21 rfl trivial ?_ rfl
  simp only [Try.ntmps21, List.size_toArray, List.length_cons, List.length_nil, Nat.reduceAdd, Nat.reduceSub, Array.replicate_succ, Array.replicate_zero, List.push_toArray, List.append_toArray, List.nil_append, List.cons_append]
  gi_wp2_with (refine ⟨trivial, ?_⟩; gi_at_call 47; refine (callsIn_wide.2 (found_any _ _)).mono ?_; rintro e w1 ⟨rfl, rfl⟩)
  have hB0 : Below w.heap.size w (((w.alloc (.cells #[.slice none 0 0] 35)).alloc (.cells #[.int .i64 0] 3)).alloc (.cells #[.string s] 9)) := (((Below.refl _ w).alloc (Nat.le_refl _) _).alloc (by simp) _).alloc (by simp; omega) _
  have b0 := Boxed.new w 35 (.slice none 0 0)
  have b1 := Boxed.new (w.alloc (.cells #[.slice none 0 0] 35)) 3 (.int .i64 0)
  have b2 := Boxed.new ((w.alloc (.cells #[.slice none 0 0] 35)).alloc (.cells #[.int .i64 0] 3)) 9 (.string s)
  rw [World.size_alloc] at b1 b2
  rw [World.size_alloc] at b2
  have I0 : ScanI w s [] (((w.alloc (.cells #[.slice none 0 0] 35)).alloc (.cells #[.int .i64 0] 3)).alloc (.cells #[.string s] 9)) (.slice none 0 0) :=
    ⟨(b0.alloc _).alloc _, World.ownsRow_nil _ _ _ _, b1.alloc _, b2, hB0⟩
  clear b0 b1
  generalize hW1 : ((w.alloc (.cells #[.slice none 0 0] 35)).alloc (.cells #[.int .i64 0] 3)).alloc (.cells #[.string s] 9) = W1 at *
  have hsz : W1.heap.size = w.heap.size + 3 := by rw [← hW1]; simp
  have Hsz := Lib.hid hsz
  have hle : w.heap.size ≤ W1.heap.size := by omega
  clear hsz hW1
  refine wpIn_rangeFunc_ownG rfl (by omega) (gf := 60) (lb := #[.pointer (some ⟨w.heap.size + 2, 0, none⟩)]) rfl trivial (enters_of Try.func60 (by kernel_rfl) rfl)
    (found_stops 2 (by omega) (w.heap.size + 2) s (by unfold maxLen; omega) W1 b2) (fun h k hb => k (h hb)) (fun W l o o' hl ho hc _ hb => hb.kept (grownBy_putObj' W l o') (fun e => by cases e; rw [show W.heap[w.heap.size + 2]? = _ from hb] at ho; cases ho; cases hc)) (Below.refl _ _) (fun _ => rfl)
    (fun pre W => ∃ v, ScanI w s pre W v)
    (fun _ _ _ => False)
    (scanI_own w s _ hle)
    (fun _ _ _ _ _ hs _ _ => hs)
    ⟨_, I0⟩
    (fun x => { tmps := #[.string s, undef, .pointer (some ⟨w.heap.size, 0, none⟩), .pointer (some ⟨w.heap.size + 1, 0, none⟩), .int .i64 0, .int .i64 (x.1 : Int), .string x.2, .string s, .func (.func 60) #[] #[.pointer (some ⟨w.heap.size + 2, 0, none⟩)], .int .i64 (x.1 : Int), .string x.2, undef, undef, undef, undef, undef, undef, undef, undef, undef, undef, undef, undef, undef, undef, undef, undef, undef, undef, undef, undef, undef, undef], defers := [] }) ?assign ?body ?done ?stop
  case assign =>
    intro l x W K hK
    unfold encsR
    gi_wp2
    exact hK
  case body =>
    rintro l pre x W ⟨v, hI⟩ hlt
    have hc := hI.bx.cell
    have hI' := Lib.hid hI
    have hrow := hI.row.alloc (.cells #[.string x.2] 9)
    have hz := hI.st.lt
    have hst := hI.st
    clear hI hB0 I0 b2
    gi_wp2_with (gi_at_builtin; refine wpListIn_append_own _ rfl _ _ 35 rfl (w.heap.size + 3) 9 i0 (.string ⟨#[]⟩) 1 16 Try.underlying35 hi hz0 hz1 hz2 rfl (by decide) _ _ _ rfl hrow ⟨W.heap.size, 0, none⟩ 1 1 [recV x] rfl rfl (cell_one_new _ _ _) (by simp [Value.oneCell', recV]) (by unfold maxLen; omega) (by omega) (by simp; omega) ?_; intro v' w1 hown' hgrow _; obtain ⟨g', cap', rfl⟩ := ownsRow_succ hown'; obtain ⟨hb0, hb1, hko, hI2⟩ := scan_step hI'.out hown' hgrow; have hc0 := hb0.cell; have hf0 := hb0.frozen; have hc1 := hb1.cell; have hf1 := hb1.frozen)
    exact ⟨hko.from _, fun _ => hI2.st, ⟨_, hI2⟩⟩
  case done =>
    rintro D ys W hD rfl ⟨v, hI⟩ hK
    have hc0 := hI.bx.cell
    have hf0 := hI.bx.frozen
    have hc1 := hI.en.cell
    have hf1 := hI.en.frozen
    have hI' := Lib.hid hI
    have hee := scanL_end s
    obtain ⟨A, cp, rfl⟩ : ∃ A c, v = .slice A (scanL s).length c := by
      rcases hI.row.2 with ⟨rfl, hz⟩ | ⟨g, cap, cur, rfl, _⟩
      · exact ⟨none, 0, by rw [hz]⟩
      · exact ⟨_, _, rfl⟩
    have hK' := Lib.hid hK
    clear hI hB0 I0 b2 hK
    have hDw : w.heap.size ≤ D := Nat.le_trans hle hD
    by_cases hend : endOf (scanL s) < s.size
    · have sf := str_from s (endOf (scanL s)) hee
      have hx : (s.extract (endOf (scanL s)) s.size).size = s.size - endOf (scanL s) := size_from s _
      have cd := fun w => decode_any (s.extract (endOf (scanL s)) s.size) ((scanL s).length : Int) w (by rw [hx]; unfold maxLen; omega)
      clear hx
      obtain ⟨X, HX⟩ : ∃ X, Hid (s.extract (endOf (scanL s)) s.size = X) := ⟨_, Lib.hid rfl⟩
      rw [HX.out] at sf cd
      obtain ⟨⟨r, m, e⟩, HD⟩ : ∃ d, Hid (dec X ((scanL s).length : Int) = d) := ⟨_, Lib.hid rfl⟩
      rw [HD.out] at cd
      unfold decV at cd
      dsimp only at cd
      gi_wp2_with fail
      refine wpIn_wide.2 ?_
      refine wp_region_later (by kernel_rfl) (by kernel_rfl) ?_
      have l0 := later_cell (B := W.heap.size) hc0 hI'.out.bx.lt
      have l1 := later_cell (B := W.heap.size) hc1 hI'.out.en.lt
      repeat (go_big_quiet_step ((go_at_call 18; exact later_calls (Nat.le_refl _) (cd _))))
      refine wpQuiet_nil ?_
      intro w3 hb3
      have hI3 := scanI_below hI'.out hb3
      have hK3 := (hb3.block D (Array.getElem?_eq_some_iff.1 hK'.out).1).trans hK'.out
      have HI3 := Lib.hid hI3
      have HK3 := Lib.hid hK3
      clear hc0 hf0 hc1 hf1 l0 l1
      have hc0 := hI3.bx.cell
      have hf0 := hI3.bx.frozen
      have hc1 := hI3.en.cell
      have hf1 := hI3.en.frozen
      clear hI3 hK3
      gi_wp2_with fail
      refine wpIn_wide.2 ?_
      go_region
      gi_wp2_with fail
      generalize hW2 : ((w3.setCell { block := w.heap.size, off := 0 } (Value.slice A (scanL s).length cp)).setCell { block := w.heap.size + 1, off := 0 } (Value.int IntKind.i64 (endOf (scanL s) : Int))).drew = W2
      obtain ⟨kD, k0, k1, kr, kb⟩ := scan_back HI3.out HK3.out hDw hW2
      refine ⟨by simp, .inl ⟨_, _, rfl, run_takeDeferred kD, ?_⟩⟩
      exact ⟨.tuple #[.slice A (scanL s).length cp, .int .i64 (endOf (scanL s) : Int), .int .i64 e], by simp [results, Try.results21, go_sem, k0, k1], _, by rw [HX.out, HD.out], kr, kb⟩
    · gi_wp2_with fail
      refine wpIn_wide.2 ?_
      go_region
      gi_wp2_with fail
      generalize hW2 : ((W.setCell { block := w.heap.size, off := 0 } (Value.slice A (scanL s).length cp)).setCell { block := w.heap.size + 1, off := 0 } (Value.int IntKind.i64 (endOf (scanL s) : Int))).drew = W2
      obtain ⟨kD, k0, k1, kr, kb⟩ := scan_back hI'.out hK'.out hDw hW2
      refine ⟨by simp, .inl ⟨_, _, rfl, run_takeDeferred kD, ?_⟩⟩
      exact ⟨.tuple #[.slice A (scanL s).length cp, .int .i64 (endOf (scanL s) : Int), .int .i64 0], by simp [results, Try.results21, go_sem, k0, k1], _, rfl, kr, kb⟩
  case stop =>
    rintro D c pre W _ _ h _
    exact h.elim
end Go.Proofs.Ythfnpakddnnccaa
