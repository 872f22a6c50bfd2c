/- Append of the journal: contract. -/
import Derived.Test.YthfnpakddnnccaaJour
import Derived.Test.YthfnpakddnnccaaFound
import Derived.Test.YthfnpakddnnccaaRound
namespace Go.Proofs.Ythfnpakddnnccaa
open Go.RowKit
set_option linter.unusedVariables false

abbrev PJ : TypeId := 45
abbrev ERR : TypeId := 27
/-- Between two statements of Append: the receiver's box, the error's box, the journal, the file. -/
structure AppI (B J f Tb Eb : Nat) (v1 v2 v : Value) (s : JS) (t : FS) (er : Int) (w W : World) : Prop where
  tb : Boxed W Tb PJ (.pointer (some ⟨J, 0, none⟩))
  eb : Boxed W Eb ERR (.int .i64 er)
  jour : JourAt B W J f v1 v2 s
  file : FileAt B W f v t
  below : Below B w W
  hB : B ≤ W.heap.size
  hT : B ≤ Tb
  hE : B ≤ Eb
theorem AppI.later {B J f Tb Eb : Nat} {v1 v2 v : Value} {s : JS} {t : FS} {er : Int} {w W W' : World} (h : AppI B J f Tb Eb v1 v2 v s t er w W) (hb : Below W.heap.size W W') : AppI B J f Tb Eb v1 v2 v s t er w W' :=
  ⟨boxed_below h.tb hb, boxed_below h.eb hb, h.jour.below hb, h.file.below hb, h.below.trans (hb.mono h.hB), Nat.le_trans h.hB hb.size, h.hT, h.hE⟩
theorem set_ne {W : World} {b i k : Nat} {u : Value} {o : Obj} (hk : W.heap[k]? = some o) (hne : k ≠ b) : (W.setCell ⟨b, i, none⟩ u).heap[k]? = some o := (setCell_far W b i k u hne).trans hk
theorem ty_ne {W : World} {b k : Nat} {cs cs' : Array Value} {t t' : TypeId} {fr fr' : Nat × Nat} (hb : W.heap[b]? = some (Obj.cells cs t fr)) (hk : W.heap[k]? = some (Obj.cells cs' t' fr')) (hne : t ≠ t') : k ≠ b := by
  rintro rfl
  rw [hb] at hk
  injection hk with hk
  injection hk with _ e _
  exact hne e
theorem row_set {W : World} {b i : Nat} {u : Value} {cs : Array Value} {t : TypeId} {fr : Nat × Nat} {base size n : Nat} {e : TypeId} {v : Value} {xs : List Value} (hb : W.heap[b]? = some (Obj.cells cs t fr)) (hne : t ≠ e) (h : W.ownsRow base e size v n xs) :
    (W.setCell ⟨b, i, none⟩ u).ownsRow base e size v n xs :=
  row_touch h fun k hk _ => setCell_far W b i k u (by
    obtain ⟨_, cur, hc⟩ := own_none_or h hk
    exact ty_ne hb hc hne)
/-- The error is stored. -/
theorem AppI.err {B J f Tb Eb : Nat} {v1 v2 v : Value} {s : JS} {t : FS} {er : Int} {w W : World} (h : AppI B J f Tb Eb v1 v2 v s t er w W) (er' : Int) : AppI B J f Tb Eb v1 v2 v s t er' w (W.setCell ⟨Eb, 0, none⟩ (.int .i64 er')) :=
  ⟨set_ne h.tb (ty_ne h.eb h.tb (by decide)), h.eb.set _, ⟨set_ne h.jour.jb (ty_ne h.eb h.jour.jb (by decide)), row_set h.eb (by decide) h.jour.row1, row_set h.eb (by decide) h.jour.row2, h.jour.ge⟩,
   ⟨row_set h.eb (by decide) h.file.row, set_ne h.file.blk (ty_ne h.eb h.file.blk (by decide)), h.file.ge⟩, h.below.setCell (p := ⟨Eb, 0, none⟩) h.hE _, by show B ≤ (W.heap.modify Eb _).size; rw [Array.size_modify]; exact h.hB, h.hT, h.hE⟩
/-- An operation of the file. -/
theorem AppI.step {B J f Tb Eb : Nat} {v1 v2 v v' : Value} {s : JS} {t t' : FS} {er : Int} {w W W' : World} (h : AppI B J f Tb Eb v1 v2 v s t er w W) (hF : FileAt B W' f v' t') (ht : Touch f v.ownBlock W W') : AppI B J f Tb Eb v1 v2 v' s t' er w W' := by
  have hrl := fun k (hk : v.ownBlock = some k) => (h.file.row.lt k hk).1
  have key : ∀ (k : Nat) (cs : Array Value) (ty : TypeId) (fr : Nat × Nat), W.heap[k]? = some (Obj.cells cs ty fr) → ty ≠ 81 → ty ≠ 5 → W'.heap[k]? = some (Obj.cells cs ty fr) := fun k cs ty fr hk h1 h2 =>
    (ht.block k (Array.getElem?_eq_some_iff.1 hk).1 (ty_ne h.file.blk hk (fun e => h1 e.symm)) (own_ty h.file.row hk h2)).trans hk
  exact ⟨key _ _ _ _ h.tb (by decide) (by decide), key _ _ _ _ h.eb (by decide) (by decide), h.jour.touch h.file ht (.inr rfl), hF, h.below.trans (touch_below ht h.hB h.file.ge hrl), Nat.le_trans h.hB ht.size, h.hT, h.hE⟩

/-- What each operation of Append's last statement leaves in its slot. -/
def appVal (J f : Nat) (r : ByteArray) (v1 v2 : Value) (A3 : Option Addr) (nb cb : Nat) (x : G4) (j : Nat) : Value :=
  match j with
  | 0 | 1 | 2 | 3 | 9 | 10 | 13 | 14 | 23 | 26 => .pointer (some ⟨J, 0, none⟩)
  | 4 | 24 => .pointer (some ⟨J, 1, none⟩)
  | 11 | 27 => .pointer (some ⟨J, 2, none⟩)
  | 15 => .pointer (some ⟨J, 0, none⟩)
  | 5 => v1
  | 6 => .string r
  | 7 => x.x1
  | 8 => x.y1
  | 12 => v2
  | 16 | 17 | 18 => .pointer (some ⟨f, 0, none⟩)
  | 19 => .slice A3 nb cb
  | 20 => .int .i64 (nb : Int)
  | 21 => x.x2
  | 22 => x.y2
  | _ => undef
def appFl (l : Array Bool) : Fl := ⟨l.getD 7 false, l.getD 8 false, l.getD 25 false, l.getD 21 false, l.getD 22 false, l.getD 28 false⟩
theorem getD_set_self {l : Array Bool} {i : Nat} (h : i < l.size) : (l.setIfInBounds i true).getD i false = true := by
  rw [Array.getD_eq_getD_getElem?, Array.getElem?_setIfInBounds_self_of_lt h]; rfl
theorem appFl_ne (l : Array Bool) (i : Nat) (h : i ≠ 7 ∧ i ≠ 8 ∧ i ≠ 25 ∧ i ≠ 21 ∧ i ≠ 22 ∧ i ≠ 28) : appFl (l.setIfInBounds i true) = appFl l := by
  unfold appFl
  rw [getD_set_ne false h.1, getD_set_ne false h.2.1, getD_set_ne false h.2.2.1, getD_set_ne false h.2.2.2.1, getD_set_ne false h.2.2.2.2.1, getD_set_ne false h.2.2.2.2.2]
theorem appFl_7 (l : Array Bool) (h : 7 < l.size) : appFl (l.setIfInBounds 7 true) = { appFl l with b1 := true } := by
  unfold appFl
  rw [getD_set_self h, getD_set_ne (i := 7) (j := 8) false (by decide), getD_set_ne (i := 7) (j := 25) false (by decide), getD_set_ne (i := 7) (j := 21) false (by decide), getD_set_ne (i := 7) (j := 22) false (by decide), getD_set_ne (i := 7) (j := 28) false (by decide)]
theorem appFl_8 (l : Array Bool) (h : 8 < l.size) : appFl (l.setIfInBounds 8 true) = { appFl l with a1 := true } := by
  unfold appFl
  rw [getD_set_self h, getD_set_ne (i := 8) (j := 7) false (by decide), getD_set_ne (i := 8) (j := 25) false (by decide), getD_set_ne (i := 8) (j := 21) false (by decide), getD_set_ne (i := 8) (j := 22) false (by decide), getD_set_ne (i := 8) (j := 28) false (by decide)]
theorem appFl_25 (l : Array Bool) (h : 25 < l.size) : appFl (l.setIfInBounds 25 true) = { appFl l with s1 := true } := by
  unfold appFl
  rw [getD_set_self h, getD_set_ne (i := 25) (j := 7) false (by decide), getD_set_ne (i := 25) (j := 8) false (by decide), getD_set_ne (i := 25) (j := 21) false (by decide), getD_set_ne (i := 25) (j := 22) false (by decide), getD_set_ne (i := 25) (j := 28) false (by decide)]
theorem appFl_21 (l : Array Bool) (h : 21 < l.size) : appFl (l.setIfInBounds 21 true) = { appFl l with b2 := true } := by
  unfold appFl
  rw [getD_set_self h, getD_set_ne (i := 21) (j := 7) false (by decide), getD_set_ne (i := 21) (j := 8) false (by decide), getD_set_ne (i := 21) (j := 25) false (by decide), getD_set_ne (i := 21) (j := 22) false (by decide), getD_set_ne (i := 21) (j := 28) false (by decide)]
theorem appFl_22 (l : Array Bool) (h : 22 < l.size) : appFl (l.setIfInBounds 22 true) = { appFl l with a2 := true } := by
  unfold appFl
  rw [getD_set_self h, getD_set_ne (i := 22) (j := 7) false (by decide), getD_set_ne (i := 22) (j := 8) false (by decide), getD_set_ne (i := 22) (j := 25) false (by decide), getD_set_ne (i := 22) (j := 21) false (by decide), getD_set_ne (i := 22) (j := 28) false (by decide)]
theorem appFl_28 (l : Array Bool) (h : 28 < l.size) : appFl (l.setIfInBounds 28 true) = { appFl l with s2 := true } := by
  unfold appFl
  rw [getD_set_self h, getD_set_ne (i := 28) (j := 7) false (by decide), getD_set_ne (i := 28) (j := 8) false (by decide), getD_set_ne (i := 28) (j := 25) false (by decide), getD_set_ne (i := 28) (j := 21) false (by decide), getD_set_ne (i := 28) (j := 22) false (by decide)]
theorem appVal_x1 (J f : Nat) (r : ByteArray) (v1 v2 : Value) (A3 : Option Addr) (nb cb : Nat) (x : G4) (u : Value) (j : Nat) (h : j ≠ 7) : appVal J f r v1 v2 A3 nb cb { x with x1 := u } j = appVal J f r v1 v2 A3 nb cb x j := by
  unfold appVal
  split <;> first | rfl | exact absurd rfl h
theorem appVal_y1 (J f : Nat) (r : ByteArray) (v1 v2 : Value) (A3 : Option Addr) (nb cb : Nat) (x : G4) (u : Value) (j : Nat) (h : j ≠ 8) : appVal J f r v1 v2 A3 nb cb { x with y1 := u } j = appVal J f r v1 v2 A3 nb cb x j := by
  unfold appVal
  split <;> first | rfl | exact absurd rfl h
theorem appVal_x2 (J f : Nat) (r : ByteArray) (v1 v2 : Value) (A3 : Option Addr) (nb cb : Nat) (x : G4) (u : Value) (j : Nat) (h : j ≠ 21) : appVal J f r v1 v2 A3 nb cb { x with x2 := u } j = appVal J f r v1 v2 A3 nb cb x j := by
  unfold appVal
  split <;> first | rfl | exact absurd rfl h
theorem appVal_y2 (J f : Nat) (r : ByteArray) (v1 v2 : Value) (A3 : Option Addr) (nb cb : Nat) (x : G4) (u : Value) (j : Nat) (h : j ≠ 22) : appVal J f r v1 v2 A3 nb cb { x with y2 := u } j = appVal J f r v1 v2 A3 nb cb x j := by
  unfold appVal
  split <;> first | rfl | exact absurd rfl h
def appTwo (B J f Tb : Nat) (r : ByteArray) (v1 v2 : Value) (s : JS) (e : Nat) (w0 : World) : Two :=
  { B := B, J := J, F := .pointer (some ⟨f, 0, none⟩), fl := .bool s.failed, v1 := v1, n1 := s.recs.length, xs1 := recsV s.recs, u1 := .string r, v2 := v2, n2 := s.ends.length, xs2 := endsV s.ends, u2 := .int .i64 (e : Int), H0 := w0.heap.size, w0 := w0 }
theorem row_two {B J f Tb base size n : Nat} {e : TypeId} {r : ByteArray} {v1 v2 v : Value} {s : JS} {en : Nat} {W5 W : World} {x : G4} {fl : Fl} {xs : List Value} (hT : TwoW (appTwo B J f Tb r v1 v2 s en W5) (fun _ => False) x fl W)
    (hjb : ∃ c, W5.heap[J]? = some (.cells c JTY (0, 0))) (h1 : W5.ownsRow B STR 1 v1 s.recs.length (recsV s.recs)) (h2 : W5.ownsRow B INT 1 v2 s.ends.length (endsV s.ends)) (h : W5.ownsRow base e size v n xs) (n1 : e ≠ JTY) (n2 : e ≠ STR) (n3 : e ≠ INT) : W.ownsRow base e size v n xs :=
  row_touch h fun k hk hlt => by
    obtain ⟨_, cur, hc⟩ := own_none_or h hk
    obtain ⟨c, hjb⟩ := hjb
    exact hT.keep k hlt (ty_ne hjb hc (fun e' => n1 e'.symm)) (fun hf => hf) (own_ty h1 hc n2) (own_ty h2 hc n3)
theorem AppI.two {B J f Tb Eb : Nat} {v1 v2 v : Value} {s : JS} {t : FS} {er : Int} {w W5 W : World} {r : ByteArray} {en : Nat} {x : G4} (h : AppI B J f Tb Eb v1 v2 v s t er w W5)
    (hT : TwoW (appTwo B J f Tb r v1 v2 s en W5) (fun _ => False) x ⟨true, true, true, true, true, true⟩ W) : AppI B J f Tb Eb x.y1 x.y2 v ⟨s.recs ++ [r], s.ends ++ [en], s.failed⟩ t er w W := by
  have hjb := h.jour.jb
  have keep : ∀ (k : Nat) (cs : Array Value) (ty : TypeId) (fr : Nat × Nat), W5.heap[k]? = some (Obj.cells cs ty fr) → ty ≠ JTY → ty ≠ STR → ty ≠ INT → W.heap[k]? = some (Obj.cells cs ty fr) := fun k cs ty fr hk n1 n2 n3 =>
    (hT.keep k (Array.getElem?_eq_some_iff.1 hk).1 (ty_ne hjb hk (fun e => n1 e.symm)) (fun hf => hf) (own_ty h.jour.row1 hk n2) (own_ty h.jour.row2 hk n3)).trans hk
  have hr1 := hT.row1
  have hr2 := hT.row2
  have hj2 := hT.jb
  refine ⟨keep _ _ _ _ h.tb (by decide) (by decide) (by decide), keep _ _ _ _ h.eb (by decide) (by decide) (by decide), ⟨?_, ?_, ?_, h.jour.ge⟩, ⟨row_two hT ⟨_, hjb⟩ h.jour.row1 h.jour.row2 h.file.row (by decide) (by decide) (by decide), keep _ _ _ _ h.file.blk (by decide) (by decide) (by decide), h.file.ge⟩, h.below.trans ⟨hT.os, hT.tape, hT.output, hT.size, fun k hk => ?_⟩, Nat.le_trans h.hB hT.size, h.hT, h.hE⟩
  · simpa [appTwo] using hj2
  · simpa [appTwo, recsV, List.map_append] using hr1
  · simpa [appTwo, endsV, List.map_append] using hr2
  · refine hT.keep k (Nat.lt_of_lt_of_le hk h.hB) (by have := h.jour.ge; show k ≠ J; omega) (fun hf => hf) (fun e => ?_) (fun e => ?_)
    · have := (h.jour.row1.lt k e.symm).1; omega
    · have := (h.jour.row2.lt k e.symm).1; omega
/-- Behind the deferred closure. -/
theorem AppI.door {B J f Tb Eb : Nat} {v1 v2 v : Value} {s : JS} {t : FS} {er : Int} {w W : World} (h : AppI B J f Tb Eb v1 v2 v s t er w W) (b : Bool) :
    JourAt B (W.setCell ⟨J, 3, none⟩ (.bool b)).drew J f v1 v2 ⟨s.recs, s.ends, b⟩ ∧ FileAt B (W.setCell ⟨J, 3, none⟩ (.bool b)).drew f v t ∧ Below B w (W.setCell ⟨J, 3, none⟩ (.bool b)).drew ∧ Boxed (W.setCell ⟨J, 3, none⟩ (.bool b)).drew Eb ERR (.int .i64 er) := by
  have hjb := h.jour.jb
  refine ⟨⟨?_, ?_, ?_, h.jour.ge⟩, ⟨?_, ?_, h.file.ge⟩, ?_, set_ne h.eb (ty_ne hjb h.eb (by decide))⟩
  · show (W.setCell ⟨J, 3, none⟩ (.bool b)).heap[J]? = _
    rw [heap_setCell hjb 3]
    rfl
  · exact row_set hjb (by decide) h.jour.row1
  · exact row_set hjb (by decide) h.jour.row2
  · exact row_set hjb (by decide) h.file.row
  · exact set_ne h.file.blk (ty_ne hjb h.file.blk (by decide))
  · exact (h.below.setCell (p := ⟨J, 3, none⟩) h.jour.ge _).trans ⟨rfl, rfl, rfl, Nat.le_refl _, fun _ _ => rfl⟩
/-- Blocks of strings other than V's own stay. -/
def KeepS (V : Value) (w W : World) : Prop := w.heap.size ≤ W.heap.size ∧ ∀ (k : Nat) (cs : Array Value) (fr : Nat × Nat), w.heap[k]? = some (Obj.cells cs STR fr) → some k ≠ V.ownBlock → W.heap[k]? = some (Obj.cells cs STR fr)
theorem KeepS.below {V : Value} {w W W' : World} (h : KeepS V w W) (hb : Below W.heap.size W W') : KeepS V w W' :=
  ⟨Nat.le_trans h.1 hb.size, fun k cs fr hk hn => (hb.block k (Array.getElem?_eq_some_iff.1 (h.2 k cs fr hk hn)).1).trans (h.2 k cs fr hk hn)⟩
theorem KeepS.set {V : Value} {w W : World} {b i : Nat} {u : Value} {cs0 : Array Value} {ty : TypeId} {fr0 : Nat × Nat} (h : KeepS V w W) (hb : W.heap[b]? = some (Obj.cells cs0 ty fr0)) (hne : ty ≠ STR) : KeepS V w (W.setCell ⟨b, i, none⟩ u) :=
  ⟨by show w.heap.size ≤ (W.heap.modify b _).size; rw [Array.size_modify]; exact h.1, fun k cs fr hk hn => set_ne (h.2 k cs fr hk hn) (ty_ne hb (h.2 k cs fr hk hn) hne)⟩
theorem KeepS.file {V v : Value} {w W W' : World} {B f : Nat} {t : FS} (h : KeepS V w W) (hF : FileAt B W f v t) (ht : Touch f v.ownBlock W W') : KeepS V w W' :=
  ⟨Nat.le_trans h.1 ht.size, fun k cs fr hk hn => by
    have h1 := h.2 k cs fr hk hn
    exact (ht.block k (Array.getElem?_eq_some_iff.1 h1).1 (ty_ne hF.blk h1 (by decide)) (own_ty hF.row h1 (by decide))).trans h1⟩
theorem KeepS.two {B J f Tb : Nat} {v1 v2 : Value} {s : JS} {w W5 W : World} {r : ByteArray} {en : Nat} {x : G4} {fl : Fl} (h : KeepS v1 w W5) (hT : TwoW (appTwo B J f Tb r v1 v2 s en W5) (fun _ => False) x fl W)
    (hjb : ∃ c, W5.heap[J]? = some (.cells c JTY (0, 0))) (h2 : W5.ownsRow B INT 1 v2 s.ends.length (endsV s.ends)) : KeepS v1 w W :=
  ⟨Nat.le_trans h.1 hT.size, fun k cs fr hk hn => by
    have h1 := h.2 k cs fr hk hn
    obtain ⟨c, hjb⟩ := hjb
    exact (hT.keep k (Array.getElem?_eq_some_iff.1 h1).1 (ty_ne hjb h1 (by decide)) (fun hf => hf) hn (own_ty h2 h1 (by decide))).trans h1⟩
set_option maxRecDepth 100000 in
set_option maxHeartbeats 4000000 in
theorem jappend_ok (B J f : Nat) (v1 v2 v : Value) (s : JS) (t : FS) (r : ByteArray) (w : World) (h : JourAt B w J f v1 v2 s) (hF : FileAt B w f v t) (hB : B ≤ w.heap.size) (hff : s.failed = false) (hr : r.size ≤ 65536) (hn : s.recs.length ≤ 65536) (hn2 : s.ends.length ≤ 65536)
    (hl : -1 ≤ t.lim) (hu : t.lim < 9223372036854775808) (hsz : t.bytes.size + (12 + r.size) ≤ 16777216) (hok : (fAppend (encS s.recs.length r) t).2 = 0) :
    Calls Try.prog 27 #[.pointer (some ⟨J, 0, none⟩), .string r] w fun e w' => e = .returned (.tuple #[.int .i64 (s.recs.length : Int), .int .i64 0]) ∧
      ∃ v1' v2' v', JourAt B w' J f v1' v2' ⟨s.recs ++ [r], s.ends ++ [(fAppend (encS s.recs.length r) t).1.bytes.size], false⟩ ∧ FileAt B w' f v' (fAppend (encS s.recs.length r) t).1 ∧ Below B w w' ∧ KeepS v1 w w' ∧ (v1'.ownBlock = v1.ownBlock ∨ ∀ k, v1'.ownBlock = some k → w.heap.size ≤ k) := by
  have hmf : ∀ (fn : Fn) (first cap : Array Value) (w : World), (Instr.makeFunc fn first cap).run Try.prog w = .ok (.func fn first cap) w := fun _ _ _ _ => rfl
  have hz := size_enc s.recs.length r
  have hb0 : Below w.heap.size w ((w.alloc (.cells #[.pointer (some ⟨J, 0, none⟩)] 45)).alloc (.cells #[.int .i64 0] 27)) := ((Below.refl _ w).alloc (Nat.le_refl _) _).alloc (by simp) _
  have h1 := h.below hb0
  have hF1 := hF.below hb0
  have cr := jready_any B J f v1 v2 s _ h1
  rw [hff] at cr
  simp only [Bool.false_eq_true, if_false] at cr
  obtain ⟨A1, c1, rfl⟩ := row_form h.row1
  obtain ⟨A2, c2, rfl⟩ := row_form h.row2
  have ce := fun w => encode_ok s.recs.length r w (by omega) hr
  obtain ⟨d0, d1, d2, d3, dfr, dlt⟩ := h1.cells
  have H1 := Lib.hid h1
  have HF1 := Lib.hid hF1
  clear h1 hF1 hF h
  go_enter_defers Try.func27, Try.ntmps27
  go_wp2_with fail
  refine cr.mono ?_
  rintro e w1 ⟨rfl, rfl⟩
  go_wp2_with fail
  refine (ce _).mono ?_
  rintro e w2 ⟨rfl, hb2⟩
  have I0 : AppI B J f w.heap.size (w.heap.size + 1) (.slice A1 s.recs.length c1) (.slice A2 s.ends.length c2) v s t 0 w ((w.alloc (.cells #[.pointer (some ⟨J, 0, none⟩)] 45)).alloc (.cells #[.int .i64 0] 27)) :=
    ⟨(Boxed.new w PJ _).alloc _, by have := Boxed.new (w.alloc (.cells #[.pointer (some ⟨J, 0, none⟩)] PJ)) ERR (.int .i64 0); rw [World.size_alloc] at this; exact this, H1.out, HF1.out, hb0.mono hB, Nat.le_trans hB hb0.size, hB, by omega⟩
  have I2 := I0.later hb2
  have K2 := Lib.hid ((KeepS.below (V := .slice A1 s.recs.length c1) ⟨Nat.le_refl _, fun _ _ _ h _ => h⟩ hb0).below hb2)
  have HI2 := Lib.hid I2
  have e0 := I2.eb.cell
  have e1 := I2.eb.frozen
  have b0 := I2.tb.cell
  obtain ⟨k0, k1, k2, k3, kfr, klt⟩ := I2.jour.cells
  clear I0 I2 hb2 hb0 H1 HF1 d0 d1 d2 d3 dfr dlt cr ce
  have I3 := HI2.out.err 0
  have K3 := Lib.hid (K2.out.set (i := 0) (u := .int .i64 0) HI2.out.eb (by decide))
  obtain ⟨m0, m1, m2, m3, mfr, mlt⟩ := I3.jour.cells
  have f0 := I3.tb.cell
  have cA := fileAppend_any B f v t (encS s.recs.length r) _ I3.file hl hu (by omega) I3.hB
  rw [hok] at cA
  have HI3 := Lib.hid I3
  clear I3
  go_wp2_with fail
  refine cA.mono ?_
  rintro e w4 ⟨rfl, v', hF4, t4⟩
  have I4 := HI3.out.step hF4 t4
  have K4 := Lib.hid (K3.out.file HI3.out.file t4)
  have HI4 := Lib.hid I4
  clear e0 e1 b0 k0 k1 k2 k3 kfr klt HI2 HI3 cA hF4 t4 m0 m1 m2 m3 mfr mlt f0
  have e0 := I4.eb.cell
  have e1 := I4.eb.frozen
  have b0 := I4.tb.cell
  obtain ⟨k0, k1, k2, k3, kfr, klt⟩ := I4.jour.cells
  obtain ⟨A3, c3, hv', hc3, hc3m, _⟩ := I4.file.form
  subst hv'
  have I5 := I4.err 0
  have K5 := Lib.hid (K4.out.set (i := 0) (u := .int .i64 0) I4.eb (by decide))
  have HI5 := Lib.hid I5
  have e2 := I5.tb.cell
  have e3 := I5.eb.cell
  have e4 := I5.eb.frozen
  clear I4 I5
  go_wp2_with fail
  have hJ := HI5.out.jour
  have hrow1 := hJ.row1
  have hrow2 := hJ.row2
  have hjb := hJ.jb
  have hfile := HI5.out.file
  have htb := HI5.out.tb
  have hfb := hfile.blk
  have hBH := HI5.out.hB
  generalize hW5 : w4.setCell ⟨w.heap.size + 1, 0, none⟩ (.int .i64 0) = W5 at *
  have nTJ := ty_ne hjb htb (by decide)
  have nFJ := ty_ne hjb hfb (by decide)
  have nT1 := own_ty hrow1 htb (by decide)
  have nT2 := own_ty hrow2 htb (by decide)
  have nF1 := own_ty hrow1 hfb (by decide)
  have nF2 := own_ty hrow2 hfb (by decide)
  have ltT := (Array.getElem?_eq_some_iff.1 htb).1
  have ltF := (Array.getElem?_eq_some_iff.1 hfb).1
  have cT5 := cell_of_row W5 w.heap.size 0 _ _ _ htb
  have cF5 := cell_of_row W5 f 0 _ _ _ hfb
  refine region_laid (by kernel_rfl) (by kernel_rfl) (appVal J f r (.slice A1 s.recs.length c1) (.slice A2 s.ends.length c2) A3 (fAppend (encS s.recs.length r) t).1.bytes.size c3) (fun x listed w' => TwoW (appTwo B J f w.heap.size r (.slice A1 s.recs.length c1) (.slice A2 s.ends.length c2) s (fAppend (encS s.recs.length r) t).1.bytes.size W5) (fun _ => False) x (appFl listed) w')
    ⟨undef, undef, undef, undef⟩ ?start ?step ?fin
  case start => exact TwoW.drew (T := appTwo B J f w.heap.size r (.slice A1 s.recs.length c1) (.slice A2 s.ends.length c2) s (fAppend (encS s.recs.length r) t).1.bytes.size W5) ⟨hrow1, hrow2, (by intro h; cases h), (by intro h; cases h), hjb, fun _ _ _ _ _ _ => rfl, Nat.le_refl _, rfl, rfl, rfl, (by intro h; cases h), (by intro h; cases h)⟩
  case step =>
    intro x listed a W i o hL hs hi hl hall hcl
    have hs29 : listed.size = 29 := hs
    have hTw := hL.world
    have cT : W.cell? ⟨w.heap.size, 0, none⟩ = some (.pointer (some ⟨J, 0, none⟩)) := (World.cell?_of_block (hTw.keep w.heap.size ltT nTJ (fun h => h) nT1 nT2)).trans cT5
    have cF : W.cell? ⟨f, 0, none⟩ = some (.slice A3 (fAppend (encS s.recs.length r) t).1.bytes.size c3) := (World.cell?_of_block (hTw.keep f ltF nFJ (fun h => h) nF1 nF2)).trans cF5
    have hjW := hTw.jb
    have hi29 : i < 29 := (Array.getElem?_eq_some_iff.1 hi).1
    clear hW5 hfile htb hfb hjb hJ HI5 HI4 e0 e1 e2 e3 e4 b0 k0 k1 k2 k3 kfr klt hmf
    rcases (show i = 0 ∨ i = 1 ∨ i = 2 ∨ i = 3 ∨ i = 4 ∨ i = 5 ∨ i = 6 ∨ i = 7 ∨ i = 8 ∨ i = 9 ∨ i = 10 ∨ i = 11 ∨ i = 12 ∨ i = 13 ∨ i = 14 ∨ i = 15 ∨ i = 16 ∨ i = 17 ∨ i = 18 ∨ i = 19 ∨ i = 20 ∨ i = 21 ∨ i = 22 ∨ i = 23 ∨ i = 24 ∨ i = 25 ∨ i = 26 ∨ i = 27 ∨ i = 28 by omega) with rfl | rfl | rfl | rfl | rfl | rfl | rfl | rfl | rfl | rfl | rfl | rfl | rfl | rfl | rfl | rfl | rfl | rfl | rfl | rfl | rfl | rfl | rfl | rfl | rfl | rfl | rfl | rfl | rfl
    · simp only [List.getElem?_toArray, List.getElem?_cons_zero] at hi
      cases hi
      have q2 : a.tmps.getD 2 undef = .pointer (some ⟨w.heap.size, 0, none⟩) := hL.at 2 (by kernel_rfl)
      refine hL.pure (by kernel_rfl) rfl rfl (by intro d hd; cases hd; show (37 : Nat) < 65; decide) ?_ ?_
      · clear hL hall hcl hTw hjW
        go_simp
        rfl
      · rw [appFl_ne listed 0 (by decide)]
        exact hTw
    · simp only [List.getElem?_toArray, List.getElem?_cons_zero, List.getElem?_cons_succ] at hi
      cases hi
      have q2 : a.tmps.getD 2 undef = .pointer (some ⟨w.heap.size, 0, none⟩) := hL.at 2 (by kernel_rfl)
      refine hL.pure (by kernel_rfl) rfl rfl (by intro d hd; cases hd; show (38 : Nat) < 65; decide) ?_ ?_
      · clear hL hall hcl hTw hjW
        go_simp
        rfl
      · rw [appFl_ne listed 1 (by decide)]
        exact hTw
    · simp only [List.getElem?_toArray, List.getElem?_cons_zero, List.getElem?_cons_succ] at hi
      cases hi
      have q2 : a.tmps.getD 2 undef = .pointer (some ⟨w.heap.size, 0, none⟩) := hL.at 2 (by kernel_rfl)
      refine hL.pure (by kernel_rfl) rfl rfl (by intro d hd; cases hd; show (39 : Nat) < 65; decide) ?_ ?_
      · clear hL hall hcl hTw hjW
        go_simp
        rfl
      · rw [appFl_ne listed 2 (by decide)]
        exact hTw
    · simp only [List.getElem?_toArray, List.getElem?_cons_zero, List.getElem?_cons_succ] at hi
      cases hi
      have q39 : a.tmps.getD 39 undef = .pointer (some ⟨J, 0, none⟩) := hL.new 2 39 (hall ⟨2, .data⟩ (by simp) rfl) rfl
      refine hL.pure (by kernel_rfl) rfl rfl (by intro d hd; cases hd; show (40 : Nat) < 65; decide) ?_ ?_
      · clear hL hall hcl hTw hjW
        go_simp
        rfl
      · rw [appFl_ne listed 3 (by decide)]
        exact hTw
    · simp only [List.getElem?_toArray, List.getElem?_cons_zero, List.getElem?_cons_succ] at hi
      cases hi
      have q40 : a.tmps.getD 40 undef = .pointer (some ⟨J, 0, none⟩) := hL.new 3 40 (hall ⟨3, .data⟩ (by simp) rfl) rfl
      refine hL.pure (by kernel_rfl) rfl rfl (by intro d hd; cases hd; show (41 : Nat) < 65; decide) ?_ ?_
      · clear hL hall hcl hTw hjW
        go_simp
        rfl
      · rw [appFl_ne listed 4 (by decide)]
        exact hTw
    · simp only [List.getElem?_toArray, List.getElem?_cons_zero, List.getElem?_cons_succ] at hi
      cases hi
      have q41 : a.tmps.getD 41 undef = .pointer (some ⟨J, 1, none⟩) := hL.new 4 41 (hall ⟨4, .data⟩ (by simp) rfl) rfl
      have h25 : listed.getD 25 false = false := by
        cases hh : listed.getD 25 false with
        | false => rfl
        | true => have := hcl 25 _ rfl hh ⟨5, .phase⟩ (by simp) rfl; rw [hl] at this; cases this
      have cJ : W.cell? ⟨J, 1, none⟩ = some (.slice A1 s.recs.length c1) := by
        rw [show (appFl listed).s1 = false from h25] at hjW
        exact cell_of_row W J 1 _ _ _ hjW
      refine hL.pure (by kernel_rfl) rfl rfl (by intro d hd; cases hd; show (42 : Nat) < 65; decide) ?_ ?_
      · clear hL hall hcl hTw hjW
        go_simp
        rfl
      · rw [appFl_ne listed 5 (by decide)]
        exact hTw
    · simp only [List.getElem?_toArray, List.getElem?_cons_zero, List.getElem?_cons_succ] at hi
      cases hi
      have q1 : a.tmps.getD 1 undef = .string r := hL.at 1 (by kernel_rfl)
      refine hL.pure (by kernel_rfl) rfl rfl (by intro d hd; cases hd; show (43 : Nat) < 65; decide) ?_ ?_
      · clear hL hall hcl hTw hjW
        go_simp
        rfl
      · rw [appFl_ne listed 6 (by decide)]
        exact hTw
    · simp only [List.getElem?_toArray, List.getElem?_cons_zero, List.getElem?_cons_succ] at hi
      cases hi
      have q43 : a.tmps.getD 43 undef = .string r := hL.new 6 43 (hall ⟨6, .data⟩ (by simp) rfl) rfl
      have hap : listed.getD 8 false = false := by
        cases hh : listed.getD 8 false with
        | false => rfl
        | true => have := hcl 8 _ rfl hh ⟨7, .data⟩ (by simp) rfl; rw [hl] at this; cases this
      have hT2 := hTw.build1 hl hap
      have hL2 := hL.put (by kernel_rfl) (i := 7) rfl (by intro d hd; cases hd; show (44 : Nat) < 65; decide) (x' := { x with x1 := .slice (some ⟨W.heap.size, 0, none⟩) 1 1 }) (v := .slice (some ⟨W.heap.size, 0, none⟩) 1 1) (fun _ _ => rfl) (fun j hj hne => appVal_x1 _ _ _ _ _ _ _ _ _ _ j hne) (by rw [appFl_7 listed (by omega)]; exact hT2)
      have p43 : a.tmps[43]?.getD undef = .string r := by rw [← Array.getD_eq_getD_getElem?]; exact q43
      refine step_op (i := 7) rfl rfl ?_
      generalize hK : (fun a' w' => ∃ x, Laid _ _ _ _ x (listed.setIfInBounds 7 true) a' w') = K
      have hKK := congrFun (congrFun hK _) _ ▸ (⟨_, hL2⟩ : ∃ x, Laid _ _ _ _ x (listed.setIfInBounds 7 true) _ _)
      clear hL hall hcl hTw hjW hL2 hT2 hK
      unfold Oper.wp
      go_simp
      exact hKK
    · simp only [List.getElem?_toArray, List.getElem?_cons_zero, List.getElem?_cons_succ] at hi
      cases hi
      have hst : listed.getD 25 false = false := by
        cases hh : listed.getD 25 false with
        | false => rfl
        | true => have := hcl 25 _ rfl hh ⟨8, .data⟩ (by simp) rfl; rw [hl] at this; cases this
      refine step_op (i := 8) rfl rfl ?_
      refine hTw.opAppend1 (hall ⟨7, .data⟩ (by simp) rfl) hl hst (.tmp 42) (.tmp 44) rfl (hL.new 5 42 (hall ⟨5, .data⟩ (by simp) rfl) rfl) (hL.new 7 44 (hall ⟨7, .data⟩ (by simp) rfl) rfl) rfl (by first | (show s.recs.length + 1 ≤ 1000000; omega) | (show s.ends.length + 1 ≤ 1000000; omega)) hBH ?_
      intro k c w1 hT2
      exact ⟨_, hL.put (by kernel_rfl) (i := 8) rfl (by intro d hd; cases hd; show (45 : Nat) < 65; decide) (fun _ _ => rfl) (fun j hj hne => appVal_y1 _ _ _ _ _ _ _ _ _ _ j hne) (by rw [appFl_8 listed (by omega)]; exact hT2)⟩
    · simp only [List.getElem?_toArray, List.getElem?_cons_zero, List.getElem?_cons_succ] at hi
      cases hi
      have q2 : a.tmps.getD 2 undef = .pointer (some ⟨w.heap.size, 0, none⟩) := hL.at 2 (by kernel_rfl)
      refine hL.pure (by kernel_rfl) rfl rfl (by intro d hd; cases hd; show (46 : Nat) < 65; decide) ?_ ?_
      · clear hL hall hcl hTw hjW
        go_simp
        rfl
      · rw [appFl_ne listed 9 (by decide)]
        exact hTw
    · simp only [List.getElem?_toArray, List.getElem?_cons_zero, List.getElem?_cons_succ] at hi
      cases hi
      have q46 : a.tmps.getD 46 undef = .pointer (some ⟨J, 0, none⟩) := hL.new 9 46 (hall ⟨9, .data⟩ (by simp) rfl) rfl
      refine hL.pure (by kernel_rfl) rfl rfl (by intro d hd; cases hd; show (47 : Nat) < 65; decide) ?_ ?_
      · clear hL hall hcl hTw hjW
        go_simp
        rfl
      · rw [appFl_ne listed 10 (by decide)]
        exact hTw
    · simp only [List.getElem?_toArray, List.getElem?_cons_zero, List.getElem?_cons_succ] at hi
      cases hi
      have q47 : a.tmps.getD 47 undef = .pointer (some ⟨J, 0, none⟩) := hL.new 10 47 (hall ⟨10, .data⟩ (by simp) rfl) rfl
      refine hL.pure (by kernel_rfl) rfl rfl (by intro d hd; cases hd; show (48 : Nat) < 65; decide) ?_ ?_
      · clear hL hall hcl hTw hjW
        go_simp
        rfl
      · rw [appFl_ne listed 11 (by decide)]
        exact hTw
    · simp only [List.getElem?_toArray, List.getElem?_cons_zero, List.getElem?_cons_succ] at hi
      cases hi
      have q48 : a.tmps.getD 48 undef = .pointer (some ⟨J, 2, none⟩) := hL.new 11 48 (hall ⟨11, .data⟩ (by simp) rfl) rfl
      have h28 : listed.getD 28 false = false := by
        cases hh : listed.getD 28 false with
        | false => rfl
        | true => have := hcl 28 _ rfl hh ⟨12, .phase⟩ (by simp) rfl; rw [hl] at this; cases this
      have cJ : W.cell? ⟨J, 2, none⟩ = some (.slice A2 s.ends.length c2) := by
        rw [show (appFl listed).s2 = false from h28] at hjW
        exact cell_of_row W J 2 _ _ _ hjW
      refine hL.pure (by kernel_rfl) rfl rfl (by intro d hd; cases hd; show (49 : Nat) < 65; decide) ?_ ?_
      · clear hL hall hcl hTw hjW
        go_simp
        rfl
      · rw [appFl_ne listed 12 (by decide)]
        exact hTw
    · simp only [List.getElem?_toArray, List.getElem?_cons_zero, List.getElem?_cons_succ] at hi
      cases hi
      have q2 : a.tmps.getD 2 undef = .pointer (some ⟨w.heap.size, 0, none⟩) := hL.at 2 (by kernel_rfl)
      refine hL.pure (by kernel_rfl) rfl rfl (by intro d hd; cases hd; show (50 : Nat) < 65; decide) ?_ ?_
      · clear hL hall hcl hTw hjW
        go_simp
        rfl
      · rw [appFl_ne listed 13 (by decide)]
        exact hTw
    · simp only [List.getElem?_toArray, List.getElem?_cons_zero, List.getElem?_cons_succ] at hi
      cases hi
      have q50 : a.tmps.getD 50 undef = .pointer (some ⟨J, 0, none⟩) := hL.new 13 50 (hall ⟨13, .data⟩ (by simp) rfl) rfl
      refine hL.pure (by kernel_rfl) rfl rfl (by intro d hd; cases hd; show (51 : Nat) < 65; decide) ?_ ?_
      · clear hL hall hcl hTw hjW
        go_simp
        rfl
      · rw [appFl_ne listed 14 (by decide)]
        exact hTw
    · simp only [List.getElem?_toArray, List.getElem?_cons_zero, List.getElem?_cons_succ] at hi
      cases hi
      have q51 : a.tmps.getD 51 undef = .pointer (some ⟨J, 0, none⟩) := hL.new 14 51 (hall ⟨14, .data⟩ (by simp) rfl) rfl
      refine hL.pure (by kernel_rfl) rfl rfl (by intro d hd; cases hd; show (52 : Nat) < 65; decide) ?_ ?_
      · clear hL hall hcl hTw hjW
        go_simp
        rfl
      · rw [appFl_ne listed 15 (by decide)]
        exact hTw
    · simp only [List.getElem?_toArray, List.getElem?_cons_zero, List.getElem?_cons_succ] at hi
      cases hi
      have q52 : a.tmps.getD 52 undef = .pointer (some ⟨J, 0, none⟩) := hL.new 15 52 (hall ⟨15, .data⟩ (by simp) rfl) rfl
      have cJ := cell_of_row W J 0 _ _ _ hjW
      refine hL.pure (by kernel_rfl) rfl rfl (by intro d hd; cases hd; show (53 : Nat) < 65; decide) ?_ ?_
      · clear hL hall hcl hTw hjW
        go_simp
        rfl
      · rw [appFl_ne listed 16 (by decide)]
        exact hTw
    · simp only [List.getElem?_toArray, List.getElem?_cons_zero, List.getElem?_cons_succ] at hi
      cases hi
      have q53 : a.tmps.getD 53 undef = .pointer (some ⟨f, 0, none⟩) := hL.new 16 53 (hall ⟨16, .data⟩ (by simp) rfl) rfl
      refine hL.pure (by kernel_rfl) rfl rfl (by intro d hd; cases hd; show (54 : Nat) < 65; decide) ?_ ?_
      · clear hL hall hcl hTw hjW
        go_simp
        rfl
      · rw [appFl_ne listed 17 (by decide)]
        exact hTw
    · simp only [List.getElem?_toArray, List.getElem?_cons_zero, List.getElem?_cons_succ] at hi
      cases hi
      have q54 : a.tmps.getD 54 undef = .pointer (some ⟨f, 0, none⟩) := hL.new 17 54 (hall ⟨17, .data⟩ (by simp) rfl) rfl
      refine hL.pure (by kernel_rfl) rfl rfl (by intro d hd; cases hd; show (55 : Nat) < 65; decide) ?_ ?_
      · clear hL hall hcl hTw hjW
        go_simp
        rfl
      · rw [appFl_ne listed 18 (by decide)]
        exact hTw
    · simp only [List.getElem?_toArray, List.getElem?_cons_zero, List.getElem?_cons_succ] at hi
      cases hi
      have q55 : a.tmps.getD 55 undef = .pointer (some ⟨f, 0, none⟩) := hL.new 18 55 (hall ⟨18, .data⟩ (by simp) rfl) rfl
      refine hL.pure (by kernel_rfl) rfl rfl (by intro d hd; cases hd; show (56 : Nat) < 65; decide) ?_ ?_
      · clear hL hall hcl hTw hjW
        go_simp
        rfl
      · rw [appFl_ne listed 19 (by decide)]
        exact hTw
    · simp only [List.getElem?_toArray, List.getElem?_cons_zero, List.getElem?_cons_succ] at hi
      cases hi
      have q56 : a.tmps.getD 56 undef = .slice A3 (fAppend (encS s.recs.length r) t).1.bytes.size c3 := hL.new 19 56 (hall ⟨19, .data⟩ (by simp) rfl) rfl
      refine hL.pure (by kernel_rfl) rfl rfl (by intro d hd; cases hd; show (57 : Nat) < 65; decide) ?_ ?_
      · clear hL hall hcl hTw hjW
        go_simp
        rfl
      · rw [appFl_ne listed 20 (by decide)]
        exact hTw
    · simp only [List.getElem?_toArray, List.getElem?_cons_zero, List.getElem?_cons_succ] at hi
      cases hi
      have q57 : a.tmps.getD 57 undef = .int .i64 ((fAppend (encS s.recs.length r) t).1.bytes.size : Int) := hL.new 20 57 (hall ⟨20, .data⟩ (by simp) rfl) rfl
      have hap : listed.getD 22 false = false := by
        cases hh : listed.getD 22 false with
        | false => rfl
        | true => have := hcl 22 _ rfl hh ⟨21, .data⟩ (by simp) rfl; rw [hl] at this; cases this
      have hT2 := hTw.build2 hl hap
      have hL2 := hL.put (by kernel_rfl) (i := 21) rfl (by intro d hd; cases hd; show (58 : Nat) < 65; decide) (x' := { x with x2 := .slice (some ⟨W.heap.size, 0, none⟩) 1 1 }) (v := .slice (some ⟨W.heap.size, 0, none⟩) 1 1) (fun _ _ => rfl) (fun j hj hne => appVal_x2 _ _ _ _ _ _ _ _ _ _ j hne) (by rw [appFl_21 listed (by omega)]; exact hT2)
      have p57 : a.tmps[57]?.getD undef = .int .i64 ((fAppend (encS s.recs.length r) t).1.bytes.size : Int) := by rw [← Array.getD_eq_getD_getElem?]; exact q57
      refine step_op (i := 21) rfl rfl ?_
      generalize hK : (fun a' w' => ∃ x, Laid _ _ _ _ x (listed.setIfInBounds 21 true) a' w') = K
      have hKK := congrFun (congrFun hK _) _ ▸ (⟨_, hL2⟩ : ∃ x, Laid _ _ _ _ x (listed.setIfInBounds 21 true) _ _)
      clear hL hall hcl hTw hjW hL2 hT2 hK
      unfold Oper.wp
      go_simp
      exact hKK
    · simp only [List.getElem?_toArray, List.getElem?_cons_zero, List.getElem?_cons_succ] at hi
      cases hi
      have hst : listed.getD 28 false = false := by
        cases hh : listed.getD 28 false with
        | false => rfl
        | true => have := hcl 28 _ rfl hh ⟨22, .data⟩ (by simp) rfl; rw [hl] at this; cases this
      refine step_op (i := 22) rfl rfl ?_
      refine hTw.opAppend2 (hall ⟨21, .data⟩ (by simp) rfl) hl hst (.tmp 49) (.tmp 58) rfl (hL.new 12 49 (hall ⟨12, .data⟩ (by simp) rfl) rfl) (hL.new 21 58 (hall ⟨21, .data⟩ (by simp) rfl) rfl) rfl (by first | (show s.recs.length + 1 ≤ 1000000; omega) | (show s.ends.length + 1 ≤ 1000000; omega)) hBH ?_
      intro k c w1 hT2
      exact ⟨_, hL.put (by kernel_rfl) (i := 22) rfl (by intro d hd; cases hd; show (59 : Nat) < 65; decide) (fun _ _ => rfl) (fun j hj hne => appVal_y2 _ _ _ _ _ _ _ _ _ _ j hne) (by rw [appFl_22 listed (by omega)]; exact hT2)⟩
    · simp only [List.getElem?_toArray, List.getElem?_cons_zero, List.getElem?_cons_succ] at hi
      cases hi
      have q37 : a.tmps.getD 37 undef = .pointer (some ⟨J, 0, none⟩) := hL.new 0 37 (hall ⟨0, .data⟩ (by simp) rfl) rfl
      refine hL.pure (by kernel_rfl) rfl rfl (by intro d hd; cases hd; show (60 : Nat) < 65; decide) ?_ ?_
      · clear hL hall hcl hTw hjW
        go_simp
        rfl
      · rw [appFl_ne listed 23 (by decide)]
        exact hTw
    · simp only [List.getElem?_toArray, List.getElem?_cons_zero, List.getElem?_cons_succ] at hi
      cases hi
      have q60 : a.tmps.getD 60 undef = .pointer (some ⟨J, 0, none⟩) := hL.new 23 60 (hall ⟨23, .data⟩ (by simp) rfl) rfl
      refine hL.pure (by kernel_rfl) rfl rfl (by intro d hd; cases hd; show (61 : Nat) < 65; decide) ?_ ?_
      · clear hL hall hcl hTw hjW
        go_simp
        rfl
      · rw [appFl_ne listed 24 (by decide)]
        exact hTw
    · simp only [List.getElem?_toArray, List.getElem?_cons_zero, List.getElem?_cons_succ] at hi
      cases hi
      have hap := hall ⟨8, .data⟩ (by simp) rfl
      have qa : a.tmps.getD 61 undef = .pointer (some ⟨J, 1, none⟩) := hL.new 24 61 (hall ⟨24, .data⟩ (by simp) rfl) rfl
      have qv : a.tmps.getD 45 undef = x.y1 := hL.new 8 45 hap rfl
      have hT2 := hTw.store1 hap
      obtain ⟨gk, gc, hy⟩ : ∃ g c, x.y1 = .slice (some ⟨g, 0, none⟩) (s.recs.length + 1) c := by
        have hr := hTw.row1
        simp only [show (appFl listed).a1 = true from hap, if_true] at hr
        exact ownsRow_succ hr
      rw [hy] at qv hT2
      have cJ := cell_of_row W J 1 _ _ _ hjW
      have fJ : W.frozen? ⟨J, 1, none⟩ = false := by simp [World.frozen?, show W.heap[J]? = _ from hjW]
      refine step_op (i := 25) rfl rfl ?_
      have hL2 := hL.put (by kernel_rfl) (i := 25) rfl (by intro d hd; cases hd) (x' := x) (v := undef) (by intro d hd; cases hd) (fun _ _ _ => rfl) (by rw [appFl_25 listed (by omega)]; exact hT2)
      generalize hK : (fun a' w' => ∃ x, Laid _ _ _ _ x (listed.setIfInBounds 25 true) a' w') = K
      have hKK := congrFun (congrFun hK _) _ ▸ (⟨_, hL2⟩ : ∃ x, Laid _ _ _ _ x (listed.setIfInBounds 25 true) _ _)
      clear hL hall hcl hTw hjW hL2 hT2 hK
      unfold Oper.wp
      go_simp
      exact hKK
    · simp only [List.getElem?_toArray, List.getElem?_cons_zero, List.getElem?_cons_succ] at hi
      cases hi
      have q38 : a.tmps.getD 38 undef = .pointer (some ⟨J, 0, none⟩) := hL.new 1 38 (hall ⟨1, .data⟩ (by simp) rfl) rfl
      refine hL.pure (by kernel_rfl) rfl rfl (by intro d hd; cases hd; show (62 : Nat) < 65; decide) ?_ ?_
      · clear hL hall hcl hTw hjW
        go_simp
        rfl
      · rw [appFl_ne listed 26 (by decide)]
        exact hTw
    · simp only [List.getElem?_toArray, List.getElem?_cons_zero, List.getElem?_cons_succ] at hi
      cases hi
      have q62 : a.tmps.getD 62 undef = .pointer (some ⟨J, 0, none⟩) := hL.new 26 62 (hall ⟨26, .data⟩ (by simp) rfl) rfl
      refine hL.pure (by kernel_rfl) rfl rfl (by intro d hd; cases hd; show (63 : Nat) < 65; decide) ?_ ?_
      · clear hL hall hcl hTw hjW
        go_simp
        rfl
      · rw [appFl_ne listed 27 (by decide)]
        exact hTw
    · simp only [List.getElem?_toArray, List.getElem?_cons_zero, List.getElem?_cons_succ] at hi
      cases hi
      have hap := hall ⟨22, .data⟩ (by simp) rfl
      have qa : a.tmps.getD 63 undef = .pointer (some ⟨J, 2, none⟩) := hL.new 27 63 (hall ⟨27, .data⟩ (by simp) rfl) rfl
      have qv : a.tmps.getD 59 undef = x.y2 := hL.new 22 59 hap rfl
      have hT2 := hTw.store2 hap
      obtain ⟨gk, gc, hy⟩ : ∃ g c, x.y2 = .slice (some ⟨g, 0, none⟩) (s.ends.length + 1) c := by
        have hr := hTw.row2
        simp only [show (appFl listed).a2 = true from hap, if_true] at hr
        exact ownsRow_succ hr
      rw [hy] at qv hT2
      have cJ := cell_of_row W J 2 _ _ _ hjW
      have fJ : W.frozen? ⟨J, 2, none⟩ = false := by simp [World.frozen?, show W.heap[J]? = _ from hjW]
      refine step_op (i := 28) rfl rfl ?_
      have hL2 := hL.put (by kernel_rfl) (i := 28) rfl (by intro d hd; cases hd) (x' := x) (v := undef) (by intro d hd; cases hd) (fun _ _ _ => rfl) (by rw [appFl_28 listed (by omega)]; exact hT2)
      generalize hK : (fun a' w' => ∃ x, Laid _ _ _ _ x (listed.setIfInBounds 28 true) a' w') = K
      have hKK := congrFun (congrFun hK _) _ ▸ (⟨_, hL2⟩ : ∃ x, Laid _ _ _ _ x (listed.setIfInBounds 28 true) _ _)
      clear hL hall hcl hTw hjW hL2 hT2 hK
      unfold Oper.wp
      go_simp
      exact hKK
  case fin =>
    intro x listed a W hL hall
    have ha := hL.fill hall
    have hTw := hL.world
    have hfl : appFl listed = ⟨true, true, true, true, true, true⟩ := by
      unfold appFl
      rw [hall 7 (by decide), hall 8 (by decide), hall 25 (by decide), hall 21 (by decide), hall 22 (by decide), hall 28 (by decide)]
    rw [hfl] at hTw
    clear hL hall hfl
    have hlit : a = { tmps := #[.pointer (some ⟨J, 0, none⟩), .string r, .pointer (some ⟨w.heap.size, 0, none⟩), undef, .int .i64 (s.recs.length : Int), .pointer (some ⟨w.heap.size + 1, 0, none⟩), .int .i64 0, .string (encS s.recs.length r), .pointer (some ⟨J, 0, none⟩), .int .i64 0, .int .i64 0, .bool false, undef, .func (.func 52) #[] #[.pointer (some ⟨w.heap.size, 0, none⟩), .pointer (some ⟨w.heap.size + 1, 0, none⟩)], .pointer (some ⟨J, 0, none⟩), .pointer (some ⟨J, 0, none⟩), .pointer (some ⟨J, 1, none⟩), .slice A1 s.recs.length c1, .int .i64 (s.recs.length : Int), .tuple #[.string (encS s.recs.length r), .int .i64 0], .int .i64 (s.recs.length : Int), .string r, .tuple #[.string (encS s.recs.length r), .int .i64 0], .string (encS s.recs.length r), .int .i64 0, .int .i64 0, .bool false, undef, .pointer (some ⟨J, 0, none⟩), .pointer (some ⟨J, 0, none⟩), .pointer (some ⟨J, 0, none⟩), .pointer (some ⟨f, 0, none⟩), .string (encS s.recs.length r), .int .i64 0, .int .i64 0, .bool false, undef, .pointer (some ⟨J, 0, none⟩), .pointer (some ⟨J, 0, none⟩), .pointer (some ⟨J, 0, none⟩), .pointer (some ⟨J, 0, none⟩), .pointer (some ⟨J, 1, none⟩), .slice A1 s.recs.length c1, .string r, x.x1, x.y1, .pointer (some ⟨J, 0, none⟩), .pointer (some ⟨J, 0, none⟩), .pointer (some ⟨J, 2, none⟩), .slice A2 s.ends.length c2, .pointer (some ⟨J, 0, none⟩), .pointer (some ⟨J, 0, none⟩), .pointer (some ⟨J, 0, none⟩), .pointer (some ⟨f, 0, none⟩), .pointer (some ⟨f, 0, none⟩), .pointer (some ⟨f, 0, none⟩), .slice A3 (fAppend (encS s.recs.length r) t).1.bytes.size c3, .int .i64 ((fAppend (encS s.recs.length r) t).1.bytes.size : Int), x.x2, x.y2, .pointer (some ⟨J, 0, none⟩), .pointer (some ⟨J, 1, none⟩), .pointer (some ⟨J, 0, none⟩), .pointer (some ⟨J, 2, none⟩), undef], defers := [⟨.fn (.func 52) #[.pointer (some ⟨w.heap.size, 0, none⟩), .pointer (some ⟨w.heap.size + 1, 0, none⟩)], #[]⟩] } := ha.trans (by kernel_rfl)
    clear ha
    subst hlit
    have I6 := HI5.out.two hTw
    have K6 := Lib.hid (K5.out.two hTw ⟨_, hjb⟩ hrow2)
    have hn1 := Lib.hid (And.intro (hTw.new1 rfl) K5.out.1)
    have HI6 := Lib.hid I6
    clear hTw HI5 HI4 hW5 e0 e1 e2 e3 e4 b0 k0 k1 k2 k3 kfr klt hJ hrow1 hrow2 hjb hfile htb hfb hBH nTJ nFJ nT1 nT2 nF1 nF2 ltT ltF cT5 cF5
    have e3 := I6.eb.cell
    have e4 := I6.eb.frozen
    clear I6
    go_wp2
    have I7 := HI6.out.err 0
    have K7 := K6.out.set (i := 0) (u := .int .i64 0) HI6.out.eb (by decide)
    have K8 := (K7.set (i := 3) (u := .bool (0 == (36 : Int))) I7.jour.jb (by decide)).below ⟨rfl, rfl, rfl, Nat.le_refl _, fun _ _ => rfl⟩ (W' := ((W.setCell ⟨w.heap.size + 1, 0, none⟩ (.int .i64 0)).setCell ⟨J, 3, none⟩ (.bool (0 == (36 : Int)))).drew)
    obtain ⟨m0, m1, m2, m3, mfr, mlt⟩ := I7.jour.cells
    rw [hff] at m3
    refine leaves_cons (f := 52) (args := #[.pointer (some ⟨w.heap.size, 0, none⟩), .pointer (some ⟨w.heap.size + 1, 0, none⟩)]) (by simp) (by simp [go_sem]) ?_
    refine (jdefer_any w.heap.size (w.heap.size + 1) J 0 _ I7.tb.cell I7.eb.cell m3 (mfr 3)).mono ?_
    rintro e u' w'' ⟨rfl, rfl, rfl⟩
    obtain ⟨a1, a2, a3, a4⟩ := I7.door (0 == (36 : Int))
    have a5 := a4.cell
    generalize ((W.setCell ⟨w.heap.size + 1, 0, none⟩ (.int .i64 0)).setCell ⟨J, 3, none⟩ (.bool (0 == (36 : Int)))).drew = X at a1 a2 a3 a5 K8 ⊢
    refine ⟨_, ?_, rfl, _, _, _, a1, a2, a3, K8, hn1.out.1.imp id (fun hh k hk => Nat.le_trans hn1.out.2 (hh k hk))⟩
    simp [results, Try.results27, go_sem, a5]
end Go.Proofs.Ythfnpakddnnccaa
