/- The walk of hemiola/hemiolalaw52.JournalScans: it returns true, and writes nothing that was there. -/
import Derived.Test.YthfnpakddnnccaaScan
import Derived.Test.YthfnpakddnnccaaJknown
import Derived.OpenShut
namespace Go.Proofs.Ythfnpakddnnccaa
open Go.RowKit
set_option linter.unusedVariables false
/-- Four bytes and their number. -/
theorem four_at (s : ByteArray) (a : Nat) (h : a + 4 ≤ s.size) : s.extract a (a + 4) = fourS (wordAt s a) := by
  have hd : ∀ i, i < s.data.size → s.data[i]? = some (s.data.getD i 0) := fun i hi => by rw [Array.getD_eq_getD_getElem?, Array.getElem?_eq_getElem hi]; rfl
  have hs : a + 4 ≤ s.data.size := h
  apply ByteArray.ext
  apply Array.ext'
  apply List.ext_getElem?
  intro i
  rw [Array.getElem?_toList, ByteArray.data_extract, Array.getElem?_extract]
  have b0 := byte_lt s a
  have b1 := byte_lt s (a + 1)
  have b2 := byte_lt s (a + 2)
  have b3 := byte_lt s (a + 3)
  have hu : ∀ x : UInt8, ∀ n : Nat, n % 256 = x.toNat → UInt8.ofNat n = x := fun x n e => by
    apply UInt8.toNat_inj.1
    rw [UInt8.toNat_ofNat']
    exact e
  show _ = (fourL (wordAt s a)).toArray.toList[i]?
  unfold fourL
  rw [hu (s.data.getD a 0) _ (by unfold wordAt; omega), hu (s.data.getD (a + 1) 0) _ (by unfold wordAt; omega), hu (s.data.getD (a + 2) 0) _ (by unfold wordAt; omega), hu (s.data.getD (a + 3) 0) _ (by unfold wordAt; omega)]
  rcases i with _ | _ | _ | _ | i
  · rw [if_pos (by omega), hd _ (by omega)]; rfl
  · rw [if_pos (by omega), hd _ (by omega)]; rfl
  · rw [if_pos (by omega), hd _ (by omega)]; rfl
  · rw [if_pos (by omega), hd _ (by omega)]; rfl
  · rw [if_neg (by omega)]; simp
theorem ext_split (s : ByteArray) (a b c : Nat) (h1 : a ≤ b) (h2 : b ≤ c) : s.extract a c = s.extract a b ++ s.extract b c := by
  apply ByteArray.ext
  rw [ByteArray.data_append, ByteArray.data_extract, ByteArray.data_extract, ByteArray.data_extract, Array.extract_append_extract]
  rw [Nat.min_eq_left h1, Nat.max_eq_right h2]
theorem dec_back (s : ByteArray) (n : Nat) (h : (dec s (n : Int)).2.2 = 0) : s.extract 0 (dec s (n : Int)).2.1 = encS n (dec s (n : Int)).1 ∧ (dec s (n : Int)).1.size ≤ 65536 := by
  unfold dec at *
  by_cases h1 : s.size < 12
  · rw [if_pos h1] at h; exact absurd h (by decide)
  rw [if_neg h1] at *
  by_cases h2 : 65536 < wordAt s 0
  · rw [if_pos h2] at h; exact absurd h (by decide)
  rw [if_neg h2] at *
  by_cases h3 : (wordAt s 4 : Int) ≠ (n : Int)
  · rw [if_pos h3] at h; exact absurd h (by decide)
  rw [if_neg h3] at *
  by_cases h4 : s.size < 12 + wordAt s 0
  · rw [if_pos h4] at h; exact absurd h (by decide)
  rw [if_neg h4] at *
  by_cases h5 : crc (s.extract 0 8 ++ s.extract 12 (12 + wordAt s 0)) ≠ wordAt s 8
  · rw [if_pos h5] at h; exact absurd h (by decide)
  rw [if_neg h5]
  show s.extract 0 (12 + wordAt s 0) = encS n (s.extract 12 (12 + wordAt s 0)) ∧ (s.extract 12 (12 + wordAt s 0)).size ≤ 65536
  have hr := record_size s (wordAt s 0) (by omega)
  refine ⟨?_, by omega⟩
  have e4 : wordAt s 4 = n := by omega
  have e8 : wordAt s 8 = crc (s.extract 0 8 ++ s.extract 12 (12 + wordAt s 0)) := by omega
  have f0 := four_at s 0 (by omega)
  have f4 := four_at s 4 (by omega)
  have f8 := four_at s 8 (by omega)
  rw [e4] at f4
  have hh : headS (s.extract 12 (12 + wordAt s 0)).size n = s.extract 0 8 := by
    unfold headS
    rw [hr, ← f4, ext_split s 0 4 8 (by omega) (by omega), f0]
  unfold encS
  rw [hh, ← e8, ← f8, ← ext_split s 0 8 12 (by omega) (by omega), ← ext_split s 0 12 _ (by omega) (by omega)]

/-- The bytes of records, the first one with number k. -/
def catF : Nat → List (Nat × ByteArray) → ByteArray
  | _, [] => ByteArray.empty
  | k, x :: t => encS k x.2 ++ catF (k + 1) t
theorem catF_snoc (x : Nat × ByteArray) : ∀ (l : List (Nat × ByteArray)) (k : Nat), catF k (l ++ [x]) = catF k l ++ encS (k + l.length) x.2 := by
  intro l
  induction l with
  | nil => intro k; simp [catF]
  | cons y t ih => intro k; rw [List.cons_append, catF, catF, ih, ByteArray.append_assoc, List.length_cons, show k + 1 + t.length = k + (t.length + 1) from by omega]
theorem scanFrom_le (s : ByteArray) : ∀ (fuel a k : Nat), a ≤ s.size → scanFrom s fuel a k ≠ [] → a ≤ endOf (scanFrom s fuel a k) := by
  intro fuel
  induction fuel with
  | zero => intro a k _ h; exact absurd rfl h
  | succ f ih =>
    intro a k h0
    rw [scanFrom]
    by_cases hlt : a < s.size
    · rw [if_pos hlt]
      by_cases hd : (dec (s.extract a s.size) k).2.2 = 0
      · rw [if_pos hd]
        have ds := dec_size _ _ hd
        rw [size_from] at ds
        have i1 := ih (a + (dec (s.extract a s.size) k).2.1) (k + 1) (by omega)
        generalize (dec (s.extract a s.size) k).2.1 = m at *
        generalize (dec (s.extract a s.size) k).1 = r at *
        generalize scanFrom s f (a + m) (k + 1) = t at *
        intro _
        cases t with
        | nil => show a ≤ a + m; omega
        | cons y t =>
          have := i1 (by simp)
          have e : endOf ((a + m, r) :: y :: t) = endOf (y :: t) := by simp [endOf]
          rw [e]; omega
      · rw [if_neg hd]; intro h; exact absurd rfl h
    · rw [if_neg hlt]; intro h; exact absurd rfl h
theorem scanFrom_cat (s : ByteArray) : ∀ (fuel a k : Nat), a ≤ s.size → s.size ≤ a + fuel →
    catF k (scanFrom s fuel a k) = s.extract a (if scanFrom s fuel a k = [] then a else endOf (scanFrom s fuel a k)) ∧ (∀ x ∈ scanFrom s fuel a k, x.2.size ≤ 65536) := by
  intro fuel
  have hnil : ∀ a, ByteArray.empty = s.extract a a := fun a => by
    apply ByteArray.ext
    rw [ByteArray.data_extract]
    simp
    exact Nat.min_le_left _ _
  induction fuel with
  | zero => intro a k h0 h1; simp [scanFrom, catF]
  | succ f ih =>
    intro a k h0 h1
    rw [scanFrom]
    by_cases hlt : a < s.size
    · rw [if_pos hlt]
      by_cases hd : (dec (s.extract a s.size) k).2.2 = 0
      · rw [if_pos hd]
        have ds := dec_size _ _ hd
        rw [size_from] at ds
        have db := dec_back _ _ hd
        have hx : ∀ m, m ≤ s.size - a → (s.extract a s.size).extract 0 m = s.extract a (a + m) := fun m hm => by
          apply ByteArray.ext
          rw [ByteArray.data_extract, ByteArray.data_extract, ByteArray.data_extract, Array.extract_extract]
          have : s.data.size = s.size := rfl
          congr 1
          omega
        obtain ⟨i1, i2⟩ := ih (a + (dec (s.extract a s.size) k).2.1) (k + 1) (by omega) (by omega)
        obtain ⟨j1, j2, j3⟩ := scanFrom_spec s f (a + (dec (s.extract a s.size) k).2.1) (k + 1) (by omega) (by omega)
        have j4 := scanFrom_le s f (a + (dec (s.extract a s.size) k).2.1) (k + 1) (by omega)
        rw [hx _ (by omega)] at db
        generalize (dec (s.extract a s.size) k).2.1 = m at *
        generalize (dec (s.extract a s.size) k).1 = r at *
        generalize scanFrom s f (a + m) (k + 1) = t at *
        rw [if_neg (by simp)]
        have he : endOf ((a + m, r) :: t) = if t = [] then a + m else endOf t := by
          cases t with
          | nil => rfl
          | cons y t => rw [if_neg (by simp)]; simp [endOf]
        rw [he, catF, i1, ← db.1]
        refine ⟨(ext_split s a (a + m) _ (by omega) ?_).symm, ?_⟩
        · split
          · exact Nat.le_refl _
          · rename_i hne; exact j4 hne
        · intro x hx
          rcases List.mem_cons.1 hx with rfl | hx
          · exact db.2
          · exact i2 x hx
      · rw [if_neg hd]
        exact ⟨by simp [catF], by simp⟩
    · rw [if_neg hlt]
      exact ⟨by simp [catF], by simp⟩
theorem scanL_cat (s : ByteArray) : catF 0 (scanL s) = s.extract 0 (endOf (scanL s)) ∧ (∀ x ∈ scanL s, x.2.size ≤ 65536) := by
  have := scanFrom_cat s s.size 0 0 (by omega) (by omega)
  unfold scanL at *
  have e : (if scanFrom s s.size 0 0 = [] then 0 else endOf (scanFrom s s.size 0 0)) = endOf (scanFrom s s.size 0 0) := by
    split
    · rename_i h; rw [h]; rfl
    · rfl
  rw [e] at this
  exact this
theorem row_rd {W : World} {base : Nat} {e : TypeId} {size : Nat} {v : Value} {n : Nat} {xs : List Value} (h : W.ownsRow base e size v n xs) : ∃ A c, v = .slice A n c ∧ n ≤ c ∧ Rd W W.heap.size A xs := by
  rcases h.2 with ⟨rfl, rfl⟩ | ⟨g, cap, cur, rfl, hg, hh, hc, hm, _, ht⟩
  · exact ⟨none, 0, rfl, Nat.le_refl _, .inl (List.eq_nil_of_length_eq_zero (by simpa using h.1))⟩
  · refine ⟨some ⟨g, 0, none⟩, cap, rfl, hc, .inr ⟨g, 0, rfl, (Array.getElem?_eq_some_iff.1 hh).1, fun j u hu => ?_⟩⟩
    have := h.cells (g := g) rfl j u hu
    have hadd : (⟨g, 0, none⟩ : Addr).add j = ⟨g, 0 + j, none⟩ := by unfold Addr.add; split <;> simp_all
    rwa [hadd] at this
theorem catF_take (l : List (Nat × ByteArray)) (k : Nat) (h : k < l.length) : catF 0 (l.take (k + 1)) = catF 0 (l.take k) ++ encS k (l[k]?.getD (0, ByteArray.empty)).2 := by
  have e : l[k]?.getD (0, ByteArray.empty) = l[k] := by rw [List.getElem?_eq_getElem h]; rfl
  rw [e, List.take_succ_eq_append_getElem h, catF_snoc, List.length_take, Nat.zero_add, Nat.min_eq_left (Nat.le_of_lt h)]
theorem size_catF : ∀ (l : List (Nat × ByteArray)) (k N : Nat), (∀ x ∈ l, x.2.size ≤ 65536) → l.length ≤ N → (catF k l).size ≤ N * 66000 := by
  intro l
  induction l with
  | nil => intro k N _ _; exact Nat.zero_le _
  | cons y t ih =>
    intro k N hx hN
    rw [List.length_cons] at hN
    rw [catF, ByteArray.size_append, size_enc]
    have h1 := ih (k + 1) (N - 1) (fun x hm => hx x (List.mem_cons_of_mem _ hm)) (by omega)
    have h2 := hx y (List.mem_cons_self ..)
    omega

set_option maxRecDepth 100000 in
set_option maxHeartbeats 2000000 in
theorem scans_tail (s T X : ByteArray) (w : World) (E : Nat) (er : Int) (L : List (Nat × ByteArray)) (hs : s.size ≤ maxLen) (hT : T.size ≤ 300) (hsl : (300 < s.size ∧ ∀ w : World, (Instr.slice 9 (.string s) none (some (.int .i64 300)) none).run Try.prog w = .ok (.string T) w) ∨ (s.size ≤ 300 ∧ T = s))
    (hlen : L.length * 12 ≤ T.size) (hend : E ≤ T.size) (hsz : (catF 0 L).size = E) (hrec : ∀ x ∈ L, x.2.size ≤ 65536)
    (hto : ∀ w : World, (Instr.slice 9 (.string T) none (some (.int .i64 (E : Int))) none).run Try.prog w = .ok (.string (catF 0 L)) w)
    (cs : ∀ w, Calls Try.prog 21 #[.string T] w fun e w' => ∃ v, e = .returned (.tuple #[v, .int .i64 (E : Int), .int .i64 er]) ∧ w'.ownsRow w.heap.size 9 1 v L.length (L.map recV) ∧ Below w.heap.size w w')
    (hdo : (E = T.size ∧ er = 0) ∨ (E < T.size ∧ er ≠ 0 ∧ (∀ w : World, (Instr.slice 9 (.string T) (some (.int .i64 (E : Int))) none none).run Try.prog w = .ok (.string X) w) ∧
      ∃ dr dm, ∀ w, Calls Try.prog 18 #[.string X, .int .i64 (L.length : Int)] w fun e w' => e = .returned (.tuple #[.string dr, .int .i64 dm, .int .i64 er]) ∧ Below w.heap.size w w')) :
    Calls Try.prog 6 #[.string s] w fun e w' => e = .returned (.bool true) ∧ Below w.heap.size w w' := by
  unfold maxLen at hs
  have Hrec := Lib.hid hrec
  have Hdo := Lib.hid hdo
  have Hsz := Lib.hid hsz
  clear hrec hdo hsz
  rcases hsl with ⟨h300, sl⟩ | ⟨h300, rfl⟩
  all_goals
    go_enter Try.func6, Try.ntmps6
    go_wp2_with fail
    refine (known_any _).mono ?_
    rintro e w1 ⟨rfl, B1⟩
    have z1 := B1.size
    go_wp2_with fail
    refine (cs _).mono ?_
    rintro e w2 ⟨v, rfl, hrow, b2⟩
    have B2 := next0 B1 b2
    obtain ⟨A, c, rfl, hc, hrd⟩ := row_rd hrow
    clear hrow b2 B1 cs
    go_wp2_with fail
    go_loopw [6, 7] (fun u i wr => ∃ k : Nat, k ≤ L.length ∧ i = .int .i64 (k : Int) ∧ u = .string (catF 0 (L.take k)) ∧ Below w2.heap.size w2 wr) (fun _ i _ => L.length - (intOf i).toNat)
    case atStart => exact ⟨0, by omega, rfl, rfl, Below.refl _ _⟩
    case round =>
      obtain ⟨k, hk, rfl, rfl, hbr⟩ := hrel
      by_cases hlt : k < L.length
      · have hx : (L.map recV)[k]? = some (.string (L[k]?.getD (0, ByteArray.empty)).2) := by
          rw [List.getElem?_map, List.getElem?_eq_getElem hlt]; rfl
        obtain ⟨bb, off, rfl, hlb, hcell⟩ := rd_pos hrd (by rw [List.length_map]; omega)
        have hck := (hbr.cell (p := ⟨bb, off + k, none⟩) hlb).trans (hcell k _ hx)
        have hct := Lib.hid (catF_take L k hlt)
        have hr1 : (L[k]?.getD (0, ByteArray.empty)).2.size ≤ 65536 := by
          rw [List.getElem?_eq_getElem hlt]; exact Hrec.out _ (List.getElem_mem hlt)
        have hr2 := size_catF (L.take k) 0 300 (fun x hx => Hrec.out x (List.mem_of_mem_take hx)) (by rw [List.length_take]; omega)
        clear hx hcell hrd
        have ce := fun w => encode_ok k (L[k]?.getD (0, ByteArray.empty)).2 w (by omega) hr1
        have sz := size_enc k (L[k]?.getD (0, ByteArray.empty)).2
        have ad := str_add (catF 0 (L.take k)) (encS k (L[k]?.getD (0, ByteArray.empty)).2) (by omega)
        generalize (L[k]?.getD (0, ByteArray.empty)).2 = R at *
        generalize encS k R = ER at *
        have hzr := hbr.size
        clear sz
        go_wp2_with fail
        refine (ce _).mono ?_
        rintro e w3 ⟨rfl, hb3⟩
        go_wp2_with fail
        go_roundw
        case rel => exact ⟨k + 1, by omega, by go_num, by rw [hct.out], hbr.trans (hb3.mono hzr)⟩
        case measure => simp [intOf]; omega
      · obtain rfl : k = L.length := by omega
        have htk := Lib.hid (List.take_length (l := L))
        rw [htk.out]
        have B3 := next0 B2 hbr
        rcases Hdo.out with ⟨hE, hr⟩ | ⟨hE, hr, hfrom, dr, dm, cd⟩
        · subst hr
          have hsz := Hsz.out
          obtain rfl := hE
          clear hlt
          go_wp2_with fail
          go_returns
          exact ⟨rfl, B3⟩
        · have hsz := Hsz.out
          have h1 : ((E : Int) == (T.size : Int)) = false := by rw [beq_eq_false_iff_ne]; omega
          have h2 : (er == 0) = false := by simpa using hr
          have h3 : (er != 0) = true := by simpa using hr
          have Hr := Lib.hid hr
          clear hlt hr
          go_wp2_with fail
          refine (cd _).mono ?_
          rintro e w4 ⟨rfl, b4⟩
          go_wp2_with fail
          go_returns
          exact ⟨rfl, next0 B3 b4⟩
theorem walkJournalScans (s : ByteArray) (w0 : s.size ≤ maxLen) (w : World) :
    Calls Try.prog 6 #[.string s] w fun e w' => e = .returned (.bool true) ∧ Below w.heap.size w w' := by
  have main : ∀ T : ByteArray, T.size ≤ 300 → ((300 < s.size ∧ ∀ w : World, (Instr.slice 9 (.string s) none (some (.int .i64 300)) none).run Try.prog w = .ok (.string T) w) ∨ (s.size ≤ 300 ∧ T = s)) →
      Calls Try.prog 6 #[.string s] w fun e w' => e = .returned (.bool true) ∧ Below w.heap.size w w' := by
    intro T hT hsl
    have hend := scanL_end T
    have hcat := scanL_cat T
    refine scans_tail s T (T.extract (endOf (scanL T)) T.size) w (endOf (scanL T)) _ (scanL T) w0 hT hsl (scanL_len T) hend (by rw [hcat.1, ByteArray.size_extract]; omega) hcat.2 (by rw [hcat.1]; exact str_to T _ hend) (fun w => scan_any T w (by omega)) ?_
    by_cases hlt : endOf (scanL T) < T.size
    · right
      rw [if_pos hlt]
      exact ⟨hlt, scanL_stop T hlt, str_from T _ hend, _, _, fun w => decode_any _ _ w (by rw [size_from]; unfold maxLen; omega)⟩
    · left
      rw [if_neg hlt]
      exact ⟨by omega, rfl⟩
  by_cases h : 300 < s.size
  · exact main (s.extract 0 300) (by rw [ByteArray.size_extract]; omega) (.inl ⟨h, str_to s 300 (by omega)⟩)
  · exact main s (by omega) (.inr ⟨by omega, rfl⟩)
end Go.Proofs.Ythfnpakddnnccaa
