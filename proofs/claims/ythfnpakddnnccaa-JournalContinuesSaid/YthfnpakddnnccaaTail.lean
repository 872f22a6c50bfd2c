/- What Scan finds in bytes that are the beginning of records' bytes, the last byte perhaps another. No program in sight. -/
import Derived.Test.YthfnpakddnnccaaOpn
import Derived.Test.YthfnpakddnnccaaJknown
namespace Go.Proofs.Ythfnpakddnnccaa
open Go.RowKit
set_option linter.unusedVariables false

/-- Four bytes and their number. -/
theorem t_four_at (s : ByteArray) (a : Nat) (h : a + 4 ≤ s.size) : s.extract a (a + 4) = fourS (wordAt s a) := by
  have hd : ∀ i, i < s.data.size → s.data[i]? = some (s.data.getD i 0) := fun i hi => by rw [Array.getD_eq_getD_getElem?, Array.getElem?_eq_getElem hi]; rfl
  have hs : a + 4 ≤ s.data.size := h
  apply ByteArray.ext
  apply Array.ext'
  apply List.ext_getElem?
  intro i
  rw [Array.getElem?_toList, ByteArray.data_extract, Array.getElem?_extract]
  have b0 := byte_lt s a
  have b1 := byte_lt s (a + 1)
  have b2 := byte_lt s (a + 2)
  have b3 := byte_lt s (a + 3)
  have hu : ∀ x : UInt8, ∀ n : Nat, n % 256 = x.toNat → UInt8.ofNat n = x := fun x n e => by
    apply UInt8.toNat_inj.1
    rw [UInt8.toNat_ofNat']
    exact e
  show _ = (fourL (wordAt s a)).toArray.toList[i]?
  unfold fourL
  rw [hu (s.data.getD a 0) _ (by unfold wordAt; omega), hu (s.data.getD (a + 1) 0) _ (by unfold wordAt; omega), hu (s.data.getD (a + 2) 0) _ (by unfold wordAt; omega), hu (s.data.getD (a + 3) 0) _ (by unfold wordAt; omega)]
  rcases i with _ | _ | _ | _ | i
  · rw [if_pos (by omega), hd _ (by omega)]; rfl
  · rw [if_pos (by omega), hd _ (by omega)]; rfl
  · rw [if_pos (by omega), hd _ (by omega)]; rfl
  · rw [if_pos (by omega), hd _ (by omega)]; rfl
  · rw [if_neg (by omega)]; simp
theorem t_ext_split (s : ByteArray) (a b c : Nat) (h1 : a ≤ b) (h2 : b ≤ c) : s.extract a c = s.extract a b ++ s.extract b c := by
  apply ByteArray.ext
  rw [ByteArray.data_append, ByteArray.data_extract, ByteArray.data_extract, ByteArray.data_extract, Array.extract_append_extract]
  rw [Nat.min_eq_left h1, Nat.max_eq_right h2]
theorem t_dec_back (s : ByteArray) (n : Nat) (h : (dec s (n : Int)).2.2 = 0) : s.extract 0 (dec s (n : Int)).2.1 = encS n (dec s (n : Int)).1 ∧ (dec s (n : Int)).1.size ≤ 65536 := by
  unfold dec at *
  by_cases h1 : s.size < 12
  · rw [if_pos h1] at h; exact absurd h (by decide)
  rw [if_neg h1] at *
  by_cases h2 : 65536 < wordAt s 0
  · rw [if_pos h2] at h; exact absurd h (by decide)
  rw [if_neg h2] at *
  by_cases h3 : (wordAt s 4 : Int) ≠ (n : Int)
  · rw [if_pos h3] at h; exact absurd h (by decide)
  rw [if_neg h3] at *
  by_cases h4 : s.size < 12 + wordAt s 0
  · rw [if_pos h4] at h; exact absurd h (by decide)
  rw [if_neg h4] at *
  by_cases h5 : crc (s.extract 0 8 ++ s.extract 12 (12 + wordAt s 0)) ≠ wordAt s 8
  · rw [if_pos h5] at h; exact absurd h (by decide)
  rw [if_neg h5]
  show s.extract 0 (12 + wordAt s 0) = encS n (s.extract 12 (12 + wordAt s 0)) ∧ (s.extract 12 (12 + wordAt s 0)).size ≤ 65536
  have hr := record_size s (wordAt s 0) (by omega)
  refine ⟨?_, by omega⟩
  have e4 : wordAt s 4 = n := by omega
  have e8 : wordAt s 8 = crc (s.extract 0 8 ++ s.extract 12 (12 + wordAt s 0)) := by omega
  have f0 := t_four_at s 0 (by omega)
  have f4 := t_four_at s 4 (by omega)
  have f8 := t_four_at s 8 (by omega)
  rw [e4] at f4
  have hh : headS (s.extract 12 (12 + wordAt s 0)).size n = s.extract 0 8 := by
    unfold headS
    rw [hr, ← f4, t_ext_split s 0 4 8 (by omega) (by omega), f0]
  unfold encS
  rw [hh, ← e8, ← f8, ← t_ext_split s 0 8 12 (by omega) (by omega), ← t_ext_split s 0 12 _ (by omega) (by omega)]


def bl (s : ByteArray) : List UInt8 := s.data.toList
theorem bl_inj {a b : ByteArray} (h : bl a = bl b) : a = b := ByteArray.ext (Array.toList_inj.1 h)
theorem bl_app (a b : ByteArray) : bl (a ++ b) = bl a ++ bl b := by unfold bl; rw [ByteArray.data_append, Array.toList_append]
theorem bl_len (s : ByteArray) : (bl s).length = s.size := rfl
theorem bl_ext (s : ByteArray) (a b : Nat) : bl (s.extract a b) = ((bl s).drop a).take (b - a) := by unfold bl; rw [ByteArray.data_extract, Array.toList_extract, List.extract_eq_take_drop]
def catR : Nat → List ByteArray → ByteArray
  | _, [] => ByteArray.empty
  | k, r :: t => encS k r ++ catR (k + 1) t
def posL : Nat → List ByteArray → List (Nat × ByteArray)
  | _, [] => []
  | a, r :: t => (a + (12 + r.size), r) :: posL (a + (12 + r.size)) t
theorem fourS_inj {m n : Nat} (hm : m < 4294967296) (hn : n < 4294967296) (h : fourS m = fourS n) : m = n := by
  have e := wordAt_mid ByteArray.empty ByteArray.empty m hm
  have e' := wordAt_mid ByteArray.empty ByteArray.empty n hn
  rw [h] at e
  omega
/-- A record is known from all bytes but the last. -/
theorem enc_last (k : Nat) (r r' : ByteArray) (hs : r'.size = r.size) (h : (bl (encS k r)).take (11 + r.size) = (bl (encS k r')).take (11 + r.size)) : r' = r := by
  unfold encS at h
  rw [hs, bl_app, bl_app, bl_app, bl_app] at h
  by_cases h0 : r.size = 0
  · apply bl_inj
    rw [List.eq_nil_of_length_eq_zero (l := bl r) (by rw [bl_len]; exact h0), List.eq_nil_of_length_eq_zero (l := bl r') (by rw [bl_len]; omega)]
  have l1 : (bl (headS r.size k) ++ bl (fourS (crc (headS r.size k ++ r)))).length = 12 := by rw [List.length_append, bl_len, bl_len, size_head, size_four]
  have l2 : (bl (headS r.size k) ++ bl (fourS (crc (headS r.size k ++ r')))).length = 12 := by rw [List.length_append, bl_len, bl_len, size_head, size_four]
  have tk : ∀ P R : List UInt8, P.length = 12 → (P ++ R).take (11 + r.size) = P ++ R.take (11 + r.size - 12) := fun P R hP => by
    rw [List.take_append, hP, List.take_of_length_le (by omega)]
  rw [tk _ _ l1, tk _ _ l2] at h
  obtain ⟨h1, h2⟩ := List.append_inj h (by omega)
  have h3 := List.append_cancel_left h1
  have hc := fourS_inj (crc_lt _) (crc_lt _) (bl_inj h3)
  have hl : (bl r).length = r.size := rfl
  have hl' : (bl r').length = r.size := hs
  have d : ∀ l : List UInt8, l.length = r.size → ∃ x, l = l.take (11 + r.size - 12) ++ [x] := fun l hll => by
    refine ⟨l[r.size - 1]'(by omega), ?_⟩
    have e1 : 11 + r.size - 12 = r.size - 1 := by omega
    rw [e1]
    have := List.take_succ_eq_append_getElem (l := l) (i := r.size - 1) (by omega)
    rw [← this, List.take_of_length_le (by omega)]
  obtain ⟨x, hx⟩ := d (bl r) hl
  obtain ⟨y, hy⟩ := d (bl r') hl'
  rw [← h2] at hy
  have key : ∀ (q : ByteArray) (z : UInt8), bl q = (bl r).take (11 + r.size - 12) ++ [z] → headS r.size k ++ q = ⟨((bl (headS r.size k) ++ (bl r).take (11 + r.size - 12)) ++ z :: []).toArray⟩ := fun q z hz => by
    apply bl_inj
    rw [bl_app, hz]
    show _ = ((bl (headS r.size k) ++ (bl r).take (11 + r.size - 12)) ++ z :: []).toArray.toList
    simp
  rw [key r x hx, key r' y hy] at hc
  have := (crc_turn _ x y []).1 hc
  subst this
  exact bl_inj (hy.trans hx.symm)
theorem size_catR_cons (k : Nat) (r : ByteArray) (t : List ByteArray) : (catR k (r :: t)).size = 12 + r.size + (catR (k + 1) t).size := by
  show (encS k r ++ catR (k + 1) t).size = _
  rw [ByteArray.size_append, size_enc]
theorem scanFrom_end (s : ByteArray) (fuel a k : Nat) (h : s.size ≤ a) : scanFrom s fuel a k = [] := by
  cases fuel with
  | zero => rfl
  | succ f => rw [scanFrom, if_neg (by omega)]
theorem scan_tail (s : ByteArray) : ∀ (rs : List ByteArray) (g fuel a k : Nat), (∀ r ∈ rs, r.size ≤ 65536) → k + rs.length ≤ 2147483647 → a ≤ s.size → s.size ≤ a + fuel →
    s.size - a ≤ g + 1 → g ≤ s.size - a → s.size - a ≤ (catR k rs).size → ((bl s).drop a).take g = (bl (catR k rs)).take g →
    ∃ m, m ≤ rs.length ∧ scanFrom s fuel a k = posL a (rs.take m) ∧ ∀ m', m' ≤ rs.length → (catR k (rs.take m')).size ≤ g → m' ≤ m := by
  intro rs
  induction rs with
  | nil =>
    intro g fuel a k _ _ ha hf _ _ hc _
    have : s.size ≤ a := by have : (catR k []).size = 0 := rfl; omega
    exact ⟨0, Nat.le_refl _, by rw [scanFrom_end s fuel a k this]; rfl, fun m' h _ => h⟩
  | cons r t ih =>
    intro g fuel a k hr hk ha hf hg1 hg2 hc hag
    have hr0 := hr r (List.mem_cons_self ..)
    have hsz := size_catR_cons k r t
    have hlk : (r :: t).length = t.length + 1 := rfl
    have hXsz : (s.extract a s.size).size = s.size - a := size_from s a
    have hXl : bl (s.extract a s.size) = (bl s).drop a := by
      rw [bl_ext, List.take_of_length_le (by rw [List.length_drop, bl_len]; omega)]
    have hCl : bl (catR k (r :: t)) = bl (encS k r) ++ bl (catR (k + 1) t) := bl_app _ _
    have hEl : (bl (encS k r)).length = 12 + r.size := size_enc k r
    have hbound : ∀ m', 1 ≤ m' → 12 + r.size ≤ (catR k ((r :: t).take m')).size := fun m' h1 => by
      obtain ⟨q, rfl⟩ : ∃ q, m' = q + 1 := ⟨m' - 1, by omega⟩
      rw [List.take_succ_cons, size_catR_cons]; omega
    -- a record at the beginning
    have hstep : ∀ Y : ByteArray, s.extract a s.size = encS k r ++ Y → ∀ f, scanFrom s (f + 1) a k = (a + (12 + r.size), r) :: scanFrom s f (a + (12 + r.size)) (k + 1) := fun Y hY f => by
      have hlt : a < s.size := by
        have := congrArg ByteArray.size hY
        rw [hXsz, ByteArray.size_append, size_enc] at this
        omega
      rw [scanFrom, if_pos hlt, hY, dec_enc k r Y (by omega) hr0]
      rfl
    by_cases hE : 12 + r.size ≤ g
    · have hpre : ((bl s).drop a).take (12 + r.size) = bl (encS k r) := by
        have := congrArg (List.take (12 + r.size)) hag
        rw [List.take_take, List.take_take, Nat.min_eq_left hE, hCl, List.take_left' hEl] at this
        exact this
      have hY : s.extract a s.size = encS k r ++ s.extract (a + (12 + r.size)) s.size := by
        apply bl_inj
        rw [bl_app, hXl, bl_ext, List.take_of_length_le (by rw [List.length_drop, bl_len]; omega), ← hpre, ← List.drop_drop, List.take_append_drop]
      obtain ⟨f, rfl⟩ : ∃ f, fuel = f + 1 := ⟨fuel - 1, by omega⟩
      rw [hstep _ hY f]
      have hag2 : ((bl s).drop (a + (12 + r.size))).take (g - (12 + r.size)) = (bl (catR (k + 1) t)).take (g - (12 + r.size)) := by
        have := congrArg (List.drop (12 + r.size)) hag
        rw [List.drop_take, List.drop_take, List.drop_drop, hCl, List.drop_left' hEl] at this
        exact this
      obtain ⟨m, hm, he, hmax⟩ := ih (g - (12 + r.size)) f (a + (12 + r.size)) (k + 1) (fun q hq => hr q (List.mem_cons_of_mem _ hq)) (by omega) (by omega) (by omega) (by omega) (by omega) (by omega) hag2
      refine ⟨m + 1, by omega, by rw [he]; rfl, fun m' h1 h2 => ?_⟩
      cases m' with
      | zero => omega
      | succ m' =>
        rw [List.take_succ_cons, size_catR_cons] at h2
        have := hmax m' (by omega) (by omega)
        omega
    · have hz : ∀ m', m' ≤ (r :: t).length → (catR k ((r :: t).take m')).size ≤ g → m' = 0 := fun m' _ h2 => by
        rcases Nat.eq_zero_or_pos m' with h | h
        · exact h
        · have := hbound m' h; omega
      by_cases hnil : scanFrom s fuel a k = []
      · exact ⟨0, Nat.zero_le _, hnil, fun m' h1 h2 => by rw [hz m' h1 h2]; exact Nat.le_refl _⟩
      · have hlt : a < s.size := by
          rcases Nat.lt_or_ge a s.size with h | h
          · exact h
          · exact absurd (scanFrom_end s fuel a k h) hnil
        obtain ⟨f, rfl⟩ : ∃ f, fuel = f + 1 := ⟨fuel - 1, by omega⟩
        have hd : (dec (s.extract a s.size) (k : Int)).2.2 = 0 := by
          by_cases h : (dec (s.extract a s.size) (k : Int)).2.2 = 0
          · exact h
          · exfalso; apply hnil; rw [scanFrom, if_pos hlt, if_neg h]
        obtain ⟨d1, d2⟩ := dec_size _ _ hd
        obtain ⟨b1, b2⟩ := t_dec_back _ _ hd
        generalize (dec (s.extract a s.size) (k : Int)).2.1 = L at d1 d2 b1
        generalize (dec (s.extract a s.size) (k : Int)).1 = r' at b1 b2
        rw [hXsz] at d2
        have hL : L = 12 + r'.size := by
          have := congrArg ByteArray.size b1
          rw [ByteArray.size_extract, hXsz, size_enc] at this
          omega
        have hbl : ((bl s).drop a).take L = bl (encS k r') := by
          rw [← b1, bl_ext, hXl]; rfl
        have e4 : ∀ (q : ByteArray), (bl (encS k q)).take 4 = bl (fourS q.size) := fun q => by
          unfold encS headS
          rw [bl_app, bl_app, bl_app, List.append_assoc, List.append_assoc, List.take_left' (by rfl)]
        have h4 : fourS r'.size = fourS r.size := by
          apply bl_inj
          rw [← e4, ← e4, ← hbl, List.take_take, Nat.min_eq_left (by omega)]
          have := congrArg (List.take 4) hag
          rw [List.take_take, List.take_take, Nat.min_eq_left (by omega), hCl, List.take_append_of_le_length (by omega)] at this
          exact this
        have hrs := fourS_inj (by omega) (by omega) h4
        have hX : s.extract a s.size = encS k r' := by
          apply bl_inj
          rw [hXl, ← hbl, List.take_of_length_le (by rw [List.length_drop, bl_len]; omega)]
        have hrr : r' = r := by
          refine enc_last k r r' hrs ?_
          rw [← hX, hXl]
          have hgE : g = 11 + r.size := by omega
          rw [hgE] at hag
          rw [hag, hCl, List.take_append_of_le_length (by omega)]
        rw [hrr] at hX
        rw [hstep ByteArray.empty (by rw [hX, ByteArray.append_empty]) f, scanFrom_end s f _ _ (by omega)]
        exact ⟨1, by omega, rfl, fun m' h1 h2 => by rw [hz m' h1 h2]; omega⟩
theorem posL_recs : ∀ (rs : List ByteArray) (a : Nat), (posL a rs).map (·.2) = rs := by
  intro rs
  induction rs with
  | nil => intro a; rfl
  | cons r t ih => intro a; simp [posL, ih]
theorem posL_len (rs : List ByteArray) (a : Nat) : (posL a rs).length = rs.length := by
  have := congrArg List.length (posL_recs rs a)
  rwa [List.length_map] at this
theorem catR_snoc (r : ByteArray) : ∀ (rs : List ByteArray) (k : Nat), catR k (rs ++ [r]) = catR k rs ++ encS (k + rs.length) r := by
  intro rs
  induction rs with
  | nil => intro k; show encS k r ++ ByteArray.empty = ByteArray.empty ++ encS k r; rw [ByteArray.append_empty, ByteArray.empty_append]
  | cons q t ih =>
    intro k
    show encS k q ++ catR (k + 1) (t ++ [r]) = encS k q ++ catR (k + 1) t ++ _
    rw [ih, ByteArray.append_assoc, show k + 1 + t.length = k + (q :: t).length from by simp; omega]
theorem posL_snoc (r : ByteArray) : ∀ (rs : List ByteArray) (a k : Nat), posL a (rs ++ [r]) = posL a rs ++ [(a + (catR k rs).size + (12 + r.size), r)] := by
  intro rs
  induction rs with
  | nil => intro a k; rfl
  | cons q t ih =>
    intro a k
    show (a + (12 + q.size), q) :: posL (a + (12 + q.size)) (t ++ [r]) = (a + (12 + q.size), q) :: (posL (a + (12 + q.size)) t ++ _)
    rw [ih _ (k + 1), size_catR_cons]
    congr 4
    omega
theorem posL_end : ∀ (rs : List ByteArray), endOf (posL 0 rs) = (catR 0 rs).size := by
  intro rs
  rcases List.eq_nil_or_concat rs with rfl | ⟨t, r, rfl⟩
  · rfl
  · rw [List.concat_eq_append, posL_snoc r t 0 0, endOf_snoc, catR_snoc, ByteArray.size_append, size_enc]
    omega
theorem scan_bytes (s : ByteArray) : ∀ (rs : List ByteArray) (fuel a k : Nat), scanFrom s fuel a k = posL a rs → a ≤ s.size → s.extract a (a + (catR k rs).size) = catR k rs ∧ a + (catR k rs).size ≤ s.size := by
  intro rs
  induction rs with
  | nil =>
    intro fuel a k _ ha
    refine ⟨?_, ha⟩
    apply bl_inj
    rw [bl_ext, show a + (catR k []).size - a = 0 from by show a + 0 - a = 0; omega]
    rfl
  | cons r t ih =>
    intro fuel a k h ha
    cases fuel with
    | zero => cases h
    | succ f =>
      rw [scanFrom] at h
      by_cases hlt : a < s.size
      · rw [if_pos hlt] at h
        by_cases hd : (dec (s.extract a s.size) (k : Int)).2.2 = 0
        · rw [if_pos hd] at h
          obtain ⟨d1, d2⟩ := dec_size _ _ hd
          obtain ⟨b1, b2⟩ := t_dec_back _ _ hd
          generalize (dec (s.extract a s.size) (k : Int)).2.1 = L at d1 d2 b1 h
          generalize (dec (s.extract a s.size) (k : Int)).1 = r' at b1 b2 h
          have h' : (a + L, r') :: scanFrom s f (a + L) (k + 1) = (a + (12 + r.size), r) :: posL (a + (12 + r.size)) t := h
          injection h' with e1 e2
          injection e1 with e3 e4
          obtain rfl : L = 12 + r.size := by omega
          subst e4
          have hXsz : (s.extract a s.size).size = s.size - a := size_from s a
          rw [hXsz] at d2
          obtain ⟨i1, i2⟩ := ih f _ (k + 1) e2 (by omega)
          rw [size_catR_cons]
          refine ⟨?_, by omega⟩
          rw [t_ext_split s a (a + (12 + r'.size)) _ (by omega) (by omega), show a + (12 + r'.size + (catR (k + 1) t).size) = a + (12 + r'.size) + (catR (k + 1) t).size from by omega, i1]
          show _ = encS k r' ++ catR (k + 1) t
          rw [← b1]
          congr 1
          apply bl_inj
          rw [bl_ext, bl_ext, bl_ext, Nat.sub_zero, List.drop_zero, List.take_take, Nat.min_eq_left (by omega)]
          congr 1
          omega
        · rw [if_neg hd] at h; cases h
      · rw [if_neg hlt] at h; cases h
theorem small_catR : ∀ (rs : List ByteArray) (k : Nat), (∀ r ∈ rs, r.size ≤ 40) → (catR k rs).size ≤ 52 * rs.length := by
  intro rs
  induction rs with
  | nil => intro k _; exact Nat.zero_le _
  | cons r t ih =>
    intro k h
    have := ih (k + 1) (fun q hq => h q (List.mem_cons_of_mem _ hq))
    have h0 := h r (List.mem_cons_self ..)
    rw [size_catR_cons, List.length_cons]
    omega
/-- The whole. -/
theorem scan_all (rs : List ByteArray) (h : ∀ r ∈ rs, r.size ≤ 65536) (hl : rs.length ≤ 2147483647) : scanL (catR 0 rs) = posL 0 rs := by
  obtain ⟨m, hm, he, hmax⟩ := scan_tail (catR 0 rs) rs (catR 0 rs).size (catR 0 rs).size 0 0 h (by omega) (Nat.zero_le _) (by omega) (by omega) (by omega) (by omega) rfl
  have := hmax rs.length (Nat.le_refl _) (by rw [List.take_length]; exact Nat.le_refl _)
  obtain rfl : m = rs.length := by omega
  rw [List.take_length] at he
  exact he
/-- Behind a failure and a restart: a beginning of the records, with all that were durable. -/
theorem scan_restart (s : ByteArray) (rs : List ByteArray) (g : Nat) (h : ∀ r ∈ rs, r.size ≤ 65536) (hl : rs.length ≤ 2147483647) (h1 : s.size ≤ g + 1) (h2 : g ≤ s.size) (h3 : s.size ≤ (catR 0 rs).size) (h4 : (bl s).take g = (bl (catR 0 rs)).take g) :
    ∃ m, m ≤ rs.length ∧ scanL s = posL 0 (rs.take m) ∧ s.extract 0 (endOf (scanL s)) = catR 0 (rs.take m) ∧ endOf (scanL s) = (catR 0 (rs.take m)).size ∧ ∀ m', m' ≤ rs.length → (catR 0 (rs.take m')).size ≤ g → m' ≤ m := by
  obtain ⟨m, hm, he, hmax⟩ := scan_tail s rs g s.size 0 0 h (by omega) (Nat.zero_le _) (by omega) (by omega) (by omega) (by omega) h4
  have hb := scan_bytes s (rs.take m) s.size 0 0 he (Nat.zero_le _)
  have hE : endOf (scanL s) = (catR 0 (rs.take m)).size := by
    show endOf (scanFrom s s.size 0 0) = _
    rw [he, posL_end]
  rw [Nat.zero_add] at hb
  exact ⟨m, hm, he, by rw [hE]; exact hb.1, hE, hmax⟩
theorem endsOf_le : ∀ (rs : List ByteArray) (a k : Nat), ∀ e ∈ (posL a rs).map (·.1), a + 12 ≤ e ∧ e ≤ a + (catR k rs).size := by
  intro rs
  induction rs with
  | nil => intro a k e he; cases he
  | cons r t ih =>
    intro a k e he
    rw [size_catR_cons]
    rcases List.mem_cons.1 he with rfl | he
    · show a + 12 ≤ a + (12 + r.size) ∧ a + (12 + r.size) ≤ _
      exact ⟨by omega, by omega⟩
    · have := ih (a + (12 + r.size)) (k + 1) e he
      omega
/-- How many records are durable, where all up to number m are synced. -/
theorem dur_at : ∀ (rs : List ByteArray) (a k m : Nat), m ≤ rs.length → durN ((posL a rs).map (·.1)) (a + (catR k (rs.take m)).size) = m := by
  intro rs
  induction rs with
  | nil =>
    intro a k m hm
    have : m = 0 := by simpa using hm
    rw [this]
    rfl
  | cons r t ih =>
    intro a k m hm
    cases m with
    | zero =>
      have : ¬ (a + (12 + r.size) ≤ a + (catR k ((r :: t).take 0)).size) := by show ¬ (a + (12 + r.size) ≤ a + 0); omega
      show (List.takeWhile _ ((a + (12 + r.size)) :: (posL (a + (12 + r.size)) t).map (·.1))).length = 0
      rw [List.takeWhile_cons, if_neg (by simpa using this)]
      rfl
    | succ m =>
      rw [List.take_succ_cons, size_catR_cons]
      have hle : a + (12 + r.size) ≤ a + (12 + r.size + (catR (k + 1) (t.take m)).size) := by omega
      have := ih (a + (12 + r.size)) (k + 1) m (by simpa using hm)
      rw [show a + (12 + r.size) + (catR (k + 1) (t.take m)).size = a + (12 + r.size + (catR (k + 1) (t.take m)).size) from by omega] at this
      show (List.takeWhile _ ((a + (12 + r.size)) :: (posL (a + (12 + r.size)) t).map (·.1))).length = m + 1
      rw [List.takeWhile_cons, if_pos (by simp), List.length_cons]
      exact congrArg (· + 1) this
end Go.Proofs.Ythfnpakddnnccaa
