/- A journal and its file in memory, and what their operations make of them: the contracts as the laws use them. -/
import Derived.Test.YthfnpakddnnccaaTail
namespace Go.Proofs.Ythfnpakddnnccaa
open Go.RowKit
set_option linter.unusedVariables false

/-- A journal and its file lie in memory; nothing below B is turned. -/
def JX (B : Nat) (w : World) (J f : Nat) (s : JS) (t : FS) (W : World) : Prop :=
  ∃ v1 v2 v, JourAt B W J f v1 v2 s ∧ FileAt B W f v t ∧ Below B w W ∧ B ≤ W.heap.size
def jst (rs : List ByteArray) (dead : Bool) : JS := ⟨rs, (posL 0 rs).map (·.1), dead⟩
theorem jst_len (rs : List ByteArray) (d : Bool) : (jst rs d).ends.length = (jst rs d).recs.length := by
  show ((posL 0 rs).map (·.1)).length = rs.length
  rw [List.length_map, posL_len]
theorem jst_of (rs : List ByteArray) : jsOf (posL 0 rs) = jst rs false := by
  unfold jsOf jst; rw [posL_recs]
theorem jst_snoc (rs : List ByteArray) (r : ByteArray) : (⟨rs ++ [r], (posL 0 rs).map (·.1) ++ [(catR 0 (rs ++ [r])).size], false⟩ : JS) = jst (rs ++ [r]) false := by
  unfold jst
  rw [posL_snoc r rs 0 0, List.map_append, catR_snoc, ByteArray.size_append, size_enc, Nat.zero_add]
  rfl
theorem JX.later {B : Nat} {w : World} {J f : Nat} {s : JS} {t : FS} {W W' : World} (h : JX B w J f s t W) (hb : Below W.heap.size W W') : JX B w J f s t W' := by
  obtain ⟨v1, v2, v, h1, h2, h3, h4⟩ := h
  exact ⟨v1, v2, v, h1.below hb, h2.below hb, h3.trans (hb.mono h4), Nat.le_trans h4 hb.size⟩
theorem JX.below {B : Nat} {w : World} {J f : Nat} {s : JS} {t : FS} {W : World} (h : JX B w J f s t W) : Below B w W := by
  obtain ⟨v1, v2, v, h1, h2, h3, h4⟩ := h
  exact h3
theorem JX.hB {B : Nat} {w : World} {J f : Nat} {s : JS} {t : FS} {W : World} (h : JX B w J f s t W) : B ≤ W.heap.size := by
  obtain ⟨v1, v2, v, h1, h2, h3, h4⟩ := h
  exact h4
/-- A step of the file alone. -/
theorem JX.file {B : Nat} {w : World} {J f : Nat} {s : JS} {t : FS} {W : World} (h : JX B w J f s t W) : ∃ v, FileAt B W f v t := by
  obtain ⟨v1, v2, v, h1, h2, h3, h4⟩ := h
  exact ⟨v, h2⟩

theorem jw_append (B : Nat) (w : World) (J f : Nat) (rs : List ByteArray) (syn : Nat) (lim : Int) (r : ByteArray) (W : World) (h : JX B w J f (jst rs false) ⟨catR 0 rs, syn, lim, false⟩ W) (hl : -1 ≤ lim) (hu : lim < 9223372036854775808) (h0 : lim ≠ 0)
    (hn : rs.length ≤ 64) (hr : ∀ q ∈ rs, q.size ≤ 40) (hr0 : r.size ≤ 40) :
    Calls Try.prog 27 #[.pointer (some ⟨J, 0, none⟩), .string r] W fun e W' => e = .returned (.tuple #[.int .i64 (rs.length : Int), .int .i64 0]) ∧ JX B w J f (jst (rs ++ [r]) false) ⟨catR 0 (rs ++ [r]), syn, max (lim - 1) (-1), false⟩ W' := by
  obtain ⟨v1, v2, v, h1, h2, h3, h4⟩ := h
  have hsm := small_catR rs 0 hr
  have hA : fAppend (encS rs.length r) ⟨catR 0 rs, syn, lim, false⟩ = (⟨catR 0 (rs ++ [r]), syn, max (lim - 1) (-1), false⟩, 0) := by
    unfold fAppend
    rw [if_neg Bool.false_ne_true, if_neg h0, catR_snoc, Nat.zero_add]
  have hc := jappend_ok B J f v1 v2 v (jst rs false) ⟨catR 0 rs, syn, lim, false⟩ r W h1 h2 h4 rfl (by omega) (by show rs.length ≤ 65536; omega) (by rw [jst_len]; show rs.length ≤ 65536; omega) hl hu
    (by show (catR 0 rs).size + (12 + r.size) ≤ 16777216; omega) (by show (fAppend (encS rs.length r) _).2 = 0; rw [hA])
  refine hc.mono ?_
  rintro e W' ⟨rfl, v1', v2', v', g1, g2, g3, g4, g5⟩
  refine ⟨rfl, v1', v2', v', ?_, ?_, h3.trans g3, Nat.le_trans h4 g3.size⟩
  · have e1 : (⟨(jst rs false).recs ++ [r], (jst rs false).ends ++ [(fAppend (encS (jst rs false).recs.length r) ⟨catR 0 rs, syn, lim, false⟩).1.bytes.size], false⟩ : JS) = jst (rs ++ [r]) false := by
      show (⟨rs ++ [r], (posL 0 rs).map (·.1) ++ [(fAppend (encS rs.length r) ⟨catR 0 rs, syn, lim, false⟩).1.bytes.size], false⟩ : JS) = _
      rw [hA]
      exact jst_snoc rs r
    rw [e1] at g1
    exact g1
  · have e2 : (fAppend (encS (jst rs false).recs.length r) ⟨catR 0 rs, syn, lim, false⟩).1 = ⟨catR 0 (rs ++ [r]), syn, max (lim - 1) (-1), false⟩ := by
      show (fAppend (encS rs.length r) _).1 = _
      rw [hA]
    rw [e2] at g2
    exact g2
theorem jw_append_down (B : Nat) (w : World) (J f : Nat) (rs : List ByteArray) (syn : Nat) (r : ByteArray) (W : World) (h : JX B w J f (jst rs false) ⟨catR 0 rs, syn, 0, false⟩ W)
    (hn : rs.length ≤ 64) (hr : ∀ q ∈ rs, q.size ≤ 40) (hr0 : r.size ≤ 40) :
    Calls Try.prog 27 #[.pointer (some ⟨J, 0, none⟩), .string r] W fun e W' => e = .returned (.tuple #[.int .i64 0, .int .i64 36]) ∧ JX B w J f (jst rs true) ⟨catR 0 (rs ++ [r]), syn, 0, true⟩ W' := by
  obtain ⟨v1, v2, v, h1, h2, h3, h4⟩ := h
  have hsm := small_catR rs 0 hr
  have hA : fAppend (encS rs.length r) ⟨catR 0 rs, syn, 0, false⟩ = (⟨catR 0 (rs ++ [r]), syn, 0, true⟩, 36) := by
    unfold fAppend
    rw [if_neg Bool.false_ne_true, if_pos rfl, catR_snoc, Nat.zero_add]
  have hc := jappend_down B J f v1 v2 v (jst rs false) ⟨catR 0 rs, syn, 0, false⟩ r W h1 h2 h4 rfl (by omega) (by show rs.length ≤ 65536; omega) (by show (-1 : Int) ≤ 0; decide) (by show (0 : Int) < 9223372036854775808; decide)
    (by show (catR 0 rs).size + (12 + r.size) ≤ 16777216; omega) (by show (fAppend (encS rs.length r) _).2 = 36; rw [hA])
  refine hc.mono ?_
  rintro e W' ⟨rfl, v', g1, g2, g3⟩
  refine ⟨rfl, v1, v2, v', g1, ?_, h3.trans g3, Nat.le_trans h4 g3.size⟩
  have e2 : (fAppend (encS (jst rs false).recs.length r) ⟨catR 0 rs, syn, 0, false⟩).1 = ⟨catR 0 (rs ++ [r]), syn, 0, true⟩ := by
    show (fAppend (encS rs.length r) _).1 = _
    rw [hA]
  rw [e2] at g2
  exact g2
theorem jw_append_dead (B : Nat) (w : World) (J f : Nat) (rs : List ByteArray) (t : FS) (r : ByteArray) (W : World) (h : JX B w J f (jst rs true) t W) :
    Calls Try.prog 27 #[.pointer (some ⟨J, 0, none⟩), .string r] W fun e W' => e = .returned (.tuple #[.int .i64 0, .int .i64 36]) ∧ JX B w J f (jst rs true) t W' := by
  have h' := h
  obtain ⟨v1, v2, v, h1, h2, h3, h4⟩ := h
  exact (jappend_no B J f v1 v2 v (jst rs true) t r W h1 h2 h4 rfl).mono fun e W' ⟨he, hb⟩ => ⟨he, h'.later hb⟩
theorem jw_sync (B : Nat) (w : World) (J f : Nat) (rs rs' : List ByteArray) (syn : Nat) (lim : Int) (W : World) (h : JX B w J f (jst rs false) ⟨catR 0 rs', syn, lim, false⟩ W) (hl : -1 ≤ lim) (hu : lim < 9223372036854775808) (h0 : lim ≠ 0) :
    Calls Try.prog 28 #[.pointer (some ⟨J, 0, none⟩)] W fun e W' => e = .returned (.int .i64 0) ∧ JX B w J f (jst rs false) ⟨catR 0 rs', (catR 0 rs').size, max (lim - 1) (-1), false⟩ W' := by
  obtain ⟨v1, v2, v, h1, h2, h3, h4⟩ := h
  have hS : fSync ⟨catR 0 rs', syn, lim, false⟩ = (⟨catR 0 rs', (catR 0 rs').size, max (lim - 1) (-1), false⟩, 0) := by
    unfold fSync
    rw [if_neg Bool.false_ne_true, if_neg h0]
  have hc := jsync_any B J f v1 v2 v (jst rs false) ⟨catR 0 rs', syn, lim, false⟩ W h1 h2 h4 rfl hl hu
  rw [hS] at hc
  exact hc.mono fun e W' ⟨he, g1, g2, g3⟩ => ⟨he, v1, v2, v, g1, g2, h3.trans g3, Nat.le_trans h4 g3.size⟩
theorem jw_sync_down (B : Nat) (w : World) (J f : Nat) (rs rs' : List ByteArray) (syn : Nat) (W : World) (h : JX B w J f (jst rs false) ⟨catR 0 rs', syn, 0, false⟩ W) :
    Calls Try.prog 28 #[.pointer (some ⟨J, 0, none⟩)] W fun e W' => e = .returned (.int .i64 36) ∧ JX B w J f (jst rs true) ⟨catR 0 rs', syn, 0, true⟩ W' := by
  obtain ⟨v1, v2, v, h1, h2, h3, h4⟩ := h
  have hS : fSync ⟨catR 0 rs', syn, 0, false⟩ = (⟨catR 0 rs', syn, 0, true⟩, 36) := by
    unfold fSync
    rw [if_neg Bool.false_ne_true, if_pos rfl]
  have hc := jsync_any B J f v1 v2 v (jst rs false) ⟨catR 0 rs', syn, 0, false⟩ W h1 h2 h4 rfl (by show (-1 : Int) ≤ 0; decide) (by show (0 : Int) < 9223372036854775808; decide)
  rw [hS] at hc
  exact hc.mono fun e W' ⟨he, g1, g2, g3⟩ => ⟨he, v1, v2, v, g1, g2, h3.trans g3, Nat.le_trans h4 g3.size⟩
theorem jw_sync_dead (B : Nat) (w : World) (J f : Nat) (rs : List ByteArray) (t : FS) (W : World) (h : JX B w J f (jst rs true) t W) :
    Calls Try.prog 28 #[.pointer (some ⟨J, 0, none⟩)] W fun e W' => e = .returned (.int .i64 36) ∧ JX B w J f (jst rs true) t W' := by
  have h' := h
  obtain ⟨v1, v2, v, h1, h2, h3, h4⟩ := h
  exact (jsync_no B J f v1 v2 v (jst rs true) t W h1 h2 h4 rfl).mono fun e W' ⟨he, hb⟩ => ⟨he, h'.later hb⟩
theorem jw_dur (B : Nat) (w : World) (J f : Nat) (rs : List ByteArray) (d : Bool) (t : FS) (m : Nat) (W : World) (h : JX B w J f (jst rs d) t W) (hn : rs.length ≤ 64) (hm : m ≤ rs.length) (hs : t.syn = (catR 0 (rs.take m)).size) :
    Calls Try.prog 29 #[.pointer (some ⟨J, 0, none⟩)] W fun e W' => e = .returned (.int .i64 (m : Int)) ∧ Below W.heap.size W W' := by
  obtain ⟨v1, v2, v, h1, h2, h3, h4⟩ := h
  have hd := dur_at rs 0 0 m hm
  rw [Nat.zero_add, ← hs] at hd
  have hc := jdur_any B J f v1 v2 v (jst rs d) t W h1 h2 (by show rs.length ≤ 65536; omega) (jst_len rs d)
  rw [show durN (jst rs d).ends t.syn = m from hd] at hc
  exact hc
theorem jw_len (B : Nat) (w : World) (J f : Nat) (rs : List ByteArray) (d : Bool) (t : FS) (W : World) (h : JX B w J f (jst rs d) t W) :
    Calls Try.prog 32 #[.pointer (some ⟨J, 0, none⟩)] W fun e W' => e = .returned (.int .i64 (rs.length : Int)) ∧ Below W.heap.size W W' := by
  obtain ⟨v1, v2, v, h1, h2, h3, h4⟩ := h
  exact (jlen_any B J f v1 v2 (jst rs d) W h1).mono fun e W' ⟨he, hb⟩ => ⟨he, hb ▸ Below.refl _ _⟩
theorem jw_all (B : Nat) (w : World) (J f : Nat) (rs : List ByteArray) (d : Bool) (t : FS) (W : World) (h : JX B w J f (jst rs d) t W) (hn : rs.length ≤ 64) :
    Calls Try.prog 34 #[.pointer (some ⟨J, 0, none⟩)] W fun e W' => (∃ A c, e = .returned (.slice A rs.length c) ∧ rs.length ≤ c ∧ c ≤ maxLen ∧ Rd W' W'.heap.size A (recsV rs) ∧ W'.ownsRow W.heap.size STR 1 (.slice A rs.length c) rs.length (recsV rs)) ∧ Below W.heap.size W W' := by
  obtain ⟨v1, v2, v, h1, h2, h3, h4⟩ := h
  refine (jall_any B J f v1 v2 (jst rs d) W h1 (by show rs.length ≤ 65536; omega)).mono ?_
  rintro e W' ⟨v', rfl, hown, hb⟩
  obtain ⟨A, c, rfl, hc, hm, _, hrd⟩ := row_reads hown (by omega)
  exact ⟨⟨A, c, rfl, hc, hm, hrd, hown⟩, hb⟩
theorem jw_get (B : Nat) (w : World) (J f : Nat) (rs : List ByteArray) (d : Bool) (t : FS) (n : Int) (W : World) (h : JX B w J f (jst rs d) t W) (hn : rs.length ≤ 64) :
    Calls Try.prog 39 #[.pointer (some ⟨J, 0, none⟩), .int .i64 n] W fun e W' => e = .returned (.tuple (if 0 ≤ n ∧ n < (rs.length : Int) then #[.string (rs.getD n.toNat ByteArray.empty), .int .i64 0] else #[.string none', .int .i64 8])) ∧ Below W.heap.size W W' := by
  obtain ⟨v1, v2, v, h1, h2, h3, h4⟩ := h
  exact jget_any B J f v1 v2 (jst rs d) n W h1 (by show rs.length ≤ 65536; omega)
/-- Open finds what is there. -/
theorem jw_open (B f : Nat) (w : World) (v : Value) (t : FS) (W : World) (hF : FileAt B W f v t) (hb : Below B w W) (hB : B ≤ W.heap.size) (rs : List ByteArray) (hd : t.down = false) (hl : t.lim = -1) (hsz : t.bytes.size ≤ 1048576)
    (hsc : scanL t.bytes = posL 0 rs) (hx : t.bytes.extract 0 (endOf (scanL t.bytes)) = catR 0 rs) :
    Calls Try.prog 24 #[.pointer (some ⟨f, 0, none⟩)] W fun e W' => e = .returned (.tuple #[.pointer (some ⟨W.heap.size, 0, none⟩), .int .i64 0]) ∧ JX B w W.heap.size f (jst rs false) ⟨catR 0 rs, (catR 0 rs).size, -1, false⟩ W' ∧ Touch f none W W' := by
  refine (open_any B f v t W hF hB hd hl hsz).mono ?_
  rintro e W' ⟨rfl, v1, v2, v', g1, g2, g3, g4⟩
  rw [hsc, jst_of] at g1
  rw [hx, hsc, posL_end] at g2
  exact ⟨rfl, ⟨v1, v2, v', g1, g2, hb.trans g3, Nat.le_trans hB g3.size⟩, g4⟩
/-- Another journal of the same file. -/
theorem JX.other {B : Nat} {w : World} {J J0 f : Nat} {s s0 : JS} {t t' : FS} {W W' : World} (h : JX B w J0 f s0 t W) (ht : Touch f none W W') (hn : JX B w J f s t' W') : JX B w J0 f s0 t' W' := by
  obtain ⟨v1, v2, v, h1, h2, h3, h4⟩ := h
  obtain ⟨u1, u2, u, g1, g2, g3, g4⟩ := hn
  exact ⟨v1, v2, u, h1.touch h2 ht (.inl rfl), g2, g3, g4⟩
/-- A step of the file. -/
theorem JX.step {B : Nat} {w : World} {J0 f : Nat} {s0 : JS} {t t' : FS} {v v' : Value} {W W' : World} (h : JX B w J0 f s0 t W) (hF : FileAt B W f v t) (ht : Touch f v.ownBlock W W') (hF' : FileAt B W' f v' t') : JX B w J0 f s0 t' W' := by
  obtain ⟨v1, v2, v0, h1, h2, h3, h4⟩ := h
  exact ⟨v1, v2, v', h1.touch hF ht (.inr rfl), hF', h3.trans (touch_below ht h4 hF.ge (fun k e => (hF.row.lt k e).1)), Nat.le_trans h4 ht.size⟩
theorem JX.step0 {B : Nat} {w : World} {J0 f : Nat} {s0 : JS} {t t' : FS} {v v' : Value} {W W' : World} (h : JX B w J0 f s0 t W) (hF : FileAt B W f v t) (ht : Touch f none W W') (hF' : FileAt B W' f v' t') : JX B w J0 f s0 t' W' := by
  obtain ⟨v1, v2, v0, h1, h2, h3, h4⟩ := h
  exact ⟨v1, v2, v', h1.touch hF ht (.inl rfl), hF', h3.trans (touch_below ht h4 hF.ge (fun k e => by cases e)), Nat.le_trans h4 ht.size⟩
theorem jw_append_long (B : Nat) (w : World) (J f : Nat) (rs : List ByteArray) (t : FS) (r : ByteArray) (W : World) (h : JX B w J f (jst rs false) t W) (hn : rs.length ≤ 64) (hr : 65536 < r.size) (hr2 : r.size ≤ maxLen) :
    Calls Try.prog 27 #[.pointer (some ⟨J, 0, none⟩), .string r] W fun e W' => e = .returned (.tuple #[.int .i64 0, .int .i64 5]) ∧ JX B w J f (jst rs false) t W' := by
  obtain ⟨v1, v2, v, h1, h2, h3, h4⟩ := h
  exact (jappend_long B J f v1 v2 v (jst rs false) t r W h1 h2 h4 rfl hr hr2 (by show rs.length ≤ 65536; omega)).mono fun e W' ⟨he, g1, g2, g3⟩ => ⟨he, v1, v2, v, g1, g2, h3.trans g3, Nat.le_trans h4 g3.size⟩
/-- Open of a new file. -/
theorem jw_new (w : World) (W : World) (hF : FileAt w.heap.size W w.heap.size (.slice none 0 0) ⟨ByteArray.empty, 0, -1, false⟩) (hb : Below w.heap.size w W) :
    Calls Try.prog 24 #[.pointer (some ⟨w.heap.size, 0, none⟩)] W fun e W' => e = .returned (.tuple #[.pointer (some ⟨W.heap.size, 0, none⟩), .int .i64 0]) ∧ JX w.heap.size w W.heap.size w.heap.size (jst [] false) ⟨catR 0 [], 0, -1, false⟩ W' :=
  (jw_open w.heap.size w.heap.size w _ ⟨ByteArray.empty, 0, -1, false⟩ W hF hb hb.size [] rfl rfl (by decide) rfl (by decide)).mono fun e W' ⟨he, h1, h2⟩ => ⟨he, h1⟩
theorem take_snoc {L : List ByteArray} {k : Nat} (h : k < L.length) : L.take k ++ [L.getD k ByteArray.empty] = L.take (k + 1) := by
  rw [List.take_succ_eq_append_getElem h]
  simp [h]
theorem cutL_len (l : List ByteArray) : (cutL l).length ≤ 20 := by unfold cutL; rw [List.length_map, List.length_take]; omega
theorem cutL_small (l : List ByteArray) : ∀ r ∈ cutL l, r.size ≤ 40 := by
  intro r hr
  obtain ⟨s, _, rfl⟩ := List.mem_map.1 hr
  exact size_cutR s
theorem catR_take_le : ∀ (rs : List ByteArray) (k m : Nat), (catR k (rs.take m)).size ≤ (catR k rs).size := by
  intro rs
  induction rs with
  | nil => intro k m; rw [List.take_nil]; exact Nat.le_refl _
  | cons r t ih =>
    intro k m
    cases m with
    | zero => exact Nat.zero_le _
    | succ m => rw [List.take_succ_cons, size_catR_cons, size_catR_cons]; have := ih (k + 1) m; omega
theorem JX.rd {B : Nat} {w : World} {J f : Nat} {s : JS} {t : FS} {W : World} {A : Option Addr} {xs : List Value} (h : JX B w J f s t W) (hr : Rd w B A xs) : Rd W W.heap.size A xs := rd_more (rd_keep hr h.below) h.hB
end Go.Proofs.Ythfnpakddnnccaa
