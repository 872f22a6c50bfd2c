/- All, Get, Durable of the journal; the law's same: contracts. -/
import Derived.Test.YthfnpakddnnccaaJsync
namespace Go.Proofs.Ythfnpakddnnccaa
open Go.RowKit
set_option linter.unusedVariables false

theorem row_reads {w : World} {base : Nat} {e : TypeId} {size : Nat} {v : Value} {n : Nat} {xs : List Value} (h : w.ownsRow base e size v n xs) (hs : 0 < size) : ∃ A c, v = .slice A n c ∧ n ≤ c ∧ c ≤ maxLen ∧ (A = none → n = 0 ∧ c = 0) ∧ Rd w w.heap.size A xs := by
  rcases h.2 with ⟨rfl, rfl⟩ | ⟨g, cap, cur, rfl, hg, hh, hc, hm, _, ht⟩
  · exact ⟨none, 0, rfl, Nat.le_refl _, Nat.zero_le _, fun _ => ⟨rfl, rfl⟩, .inl (List.eq_nil_of_length_eq_zero (by simpa using h.1))⟩
  · refine ⟨some ⟨g, 0, none⟩, cap, rfl, hc, hm, (fun e => by cases e), .inr ⟨g, 0, rfl, (Array.getElem?_eq_some_iff.1 hh).1, fun j u hu => ?_⟩⟩
    have := h.cells (g := g) rfl j u hu
    have hadd : (⟨g, 0, none⟩ : Addr).add j = ⟨g, 0 + j, none⟩ := by unfold Addr.add; split <;> simp_all
    rwa [hadd] at this
theorem recs_one (l : List ByteArray) : ∀ u ∈ recsV l, u.oneCell' = true := by
  intro u hu
  obtain ⟨x, _, rfl⟩ := List.mem_map.1 hu
  rfl
set_option maxHeartbeats 1000000 in
theorem cloneS_any (A : Option Addr) (n c : Nat) (xs : List Value) (w : World) (hl : xs.length = n) (hnil : A = none → n = 0 ∧ c = 0) (hr : Rd w w.heap.size A xs) (h1 : ∀ u ∈ xs, u.oneCell' = true) (hn : n ≤ 1000000) :
    Calls Try.prog 55 #[.slice A n c] w fun e w' => ∃ v', e = .returned v' ∧ w'.ownsRow w.heap.size STR 1 v' n xs ∧ Below w.heap.size w w' := by
  obtain ⟨i0, hi, hz0, hz1, hz2⟩ := info_parts (show (Try.prog.info? STR).map (fun i => (i.zero, i.size, i.bytes)) = some (some (.string ⟨#[]⟩), 1, 16) from by kernel_rfl)
  have qT : ∀ w : World, (binOp .eql 35 (.slice A n c) (.slice none 0 0)).run Try.prog w = .ok (.bool A.isNone) w := fun w => Lib.run_eql_slice_nil w 35 9 A n c 0 0 (by kernel_rfl)
  cases A with
  | none =>
    obtain ⟨rfl, rfl⟩ := hnil rfl
    obtain rfl : xs = [] := List.eq_nil_of_length_eq_zero hl
    rw [Option.isNone_none] at qT
    go_enter Try.func55, Try.ntmps55
    go_wp2
    go_returns
    exact ⟨_, rfl, World.ownsRow_nil _ _ _ _, by go_grown⟩
  | some ad =>
    have hread : ∀ j u, xs[j]? = some u → w.cell? (ad.add j) = some u := by
      rcases hr with rfl | ⟨b, off, hA, hb, hc⟩
      · intro j u hu; simp at hu
      · intro j u hu
        cases hA
        have hadd : (⟨b, off, none⟩ : Addr).add j = ⟨b, off + j, none⟩ := by unfold Addr.add; split <;> simp_all
        rw [hadd]; exact hc j u hu
    have hrow := World.ownsRow_made (base := w.heap.size) (e := STR) (size := 1) w #[] 0 (Nat.le_refl _) (Nat.zero_le _) rfl
    have hnews : ∀ j u, xs[j]? = some u → (w.alloc (.cells #[] STR)).cell? (ad.add j) = some u := fun j u hu => by
      have := hread j u hu
      rw [← this]
      exact ((Below.refl w.heap.size w).alloc (Nat.le_refl _) _).cell (World.block_lt_of_cell? _ _ this)
    rw [Option.isNone_some] at qT
    have Row := Lib.hid hrow
    have News := Lib.hid hnews
    have H1 := Lib.hid h1
    have Hr := Lib.hid hread
    clear hrow hnews h1 hread hr hnil
    go_enter Try.func55, Try.ntmps55
    go_wp2_with (at_builtin; refine wpList_append_own _ rfl _ _ 35 rfl w.heap.size STR i0 (.string ⟨#[]⟩) 1 16 Try.underlying35 hi hz0 hz1 hz2 rfl (by decide) _ 0 [] rfl Row.out ad n c xs rfl (by omega) News.out H1.out (by unfold maxLen; omega) (by omega) (by simp) ?_)
    intro v' w2 hown hgrow _
    obtain ⟨A', c', rfl⟩ := row_form hown
    have hB : Below w.heap.size w w2 := ((Below.refl w.heap.size w).alloc (Nat.le_refl _) _).grown hgrow (by simp) (fun k hk => by cases hk; exact Nat.le_refl _)
    go_wp2
    go_returns
    exact ⟨_, rfl, by simpa using hown, hB⟩
theorem jall_any (B J f : Nat) (v1 v2 : Value) (s : JS) (w : World) (h : JourAt B w J f v1 v2 s) (hn : s.recs.length ≤ 65536) :
    Calls Try.prog 34 #[.pointer (some ⟨J, 0, none⟩)] w fun e w' => ∃ v', e = .returned v' ∧ w'.ownsRow w.heap.size STR 1 v' s.recs.length (recsV s.recs) ∧ Below w.heap.size w w' := by
  obtain ⟨c0, c1, c2, c3, fr, hlt⟩ := h.cells
  obtain ⟨A, c, rfl, hc, hm, hnil, hrd⟩ := row_reads h.row1 (by omega)
  have cl := cloneS_any A s.recs.length c (recsV s.recs) w (by simp [recsV]) hnil hrd (recs_one _) (by omega)
  go_enter Try.func34, Try.ntmps34
  go_wp2_with fail
  refine cl.mono ?_
  rintro e w1 ⟨v', rfl, hown, hb⟩
  obtain ⟨A', c', rfl⟩ := row_form hown
  go_wp2
  go_returns
  exact ⟨_, rfl, hown, hb⟩
theorem jget_any (B J f : Nat) (v1 v2 : Value) (s : JS) (n : Int) (w : World) (h : JourAt B w J f v1 v2 s) (hn : s.recs.length ≤ 65536) :
    Calls Try.prog 39 #[.pointer (some ⟨J, 0, none⟩), .int .i64 n] w fun e w' => e = .returned (.tuple (if 0 ≤ n ∧ n < (s.recs.length : Int) then #[.string (s.recs.getD n.toNat ByteArray.empty), .int .i64 0] else #[.string none', .int .i64 8])) ∧ Below w.heap.size w w' := by
  obtain ⟨c0, c1, c2, c3, fr, hlt⟩ := h.cells
  obtain ⟨A, c, rfl, hc, hm, hnil, hrd⟩ := row_reads h.row1 (by omega)
  by_cases h0 : 0 ≤ n
  · by_cases h1 : n < (s.recs.length : Int)
    · rw [if_pos ⟨h0, h1⟩]
      have hp : 0 < (recsV s.recs).length := by simp [recsV]; omega
      obtain ⟨b, off, rfl, hb, hcell⟩ := rd_pos hrd hp
      obtain ⟨k, rfl⟩ : ∃ k : Nat, n = (k : Int) := ⟨n.toNat, by omega⟩
      have hk : k < s.recs.length := by omega
      have g := hcell k (.string (s.recs.getD k ByteArray.empty)) (by simp [recsV, hk])
      rw [Int.toNat_natCast]
      have n0 : ¬ ((k : Int) < 0) := by omega
      have n1 : ¬ ((s.recs.length : Int) ≤ (k : Int)) := by omega
      have n2 : ¬ (s.recs.length ≤ k) := by omega
      go_enter Try.func39, Try.ntmps39
      go_wp2
      go_returns
      exact ⟨rfl, Below.refl _ _⟩
    · rw [if_neg (fun hh => h1 hh.2)]
      have n0 : ¬ (n < 0) := by omega
      have n1 : (s.recs.length : Int) ≤ n := by omega
      go_enter Try.func39, Try.ntmps39
      go_wp2
      go_returns
      exact ⟨rfl, Below.refl _ _⟩
  · rw [if_neg (fun hh => h0 hh.1)]
    have n0 : n < 0 := by omega
    go_enter Try.func39, Try.ntmps39
    go_wp2
    go_returns
    exact ⟨rfl, Below.refl _ _⟩
/-- How many records are durable. -/
def durN (ends : List Nat) (syn : Nat) : Nat := (ends.takeWhile (fun e => decide (e ≤ syn))).length
theorem durN_le (ends : List Nat) (syn : Nat) : durN ends syn ≤ ends.length := (List.takeWhile_prefix _).length_le
theorem durN_lt : ∀ (ends : List Nat) (syn k : Nat), k < durN ends syn → ends.getD k 0 ≤ syn := by
  intro ends
  induction ends with
  | nil => intro syn k h; simp [durN] at h
  | cons x t ih =>
    intro syn k h
    by_cases hx : x ≤ syn
    · cases k with
      | zero => simpa using hx
      | succ k =>
        have : k < durN t syn := by simp [durN, hx] at h ⊢; omega
        simpa using ih syn k this
    · simp [durN, hx] at h
theorem durN_stop : ∀ (ends : List Nat) (syn : Nat), durN ends syn < ends.length → syn < ends.getD (durN ends syn) 0 := by
  intro ends
  induction ends with
  | nil => intro syn h; simp at h
  | cons x t ih =>
    intro syn h
    by_cases hx : x ≤ syn
    · have e : durN (x :: t) syn = durN t syn + 1 := by simp [durN, hx]
      rw [e] at h ⊢
      simpa using ih syn (by simpa using h)
    · have e : durN (x :: t) syn = 0 := by simp [durN, hx]
      rw [e]
      simp
      omega
set_option maxRecDepth 100000 in
set_option maxHeartbeats 4000000 in
theorem jdur_any (B J f : Nat) (v1 v2 v : Value) (s : JS) (t : FS) (w : World) (h : JourAt B w J f v1 v2 s) (hF : FileAt B w f v t) (hn : s.recs.length ≤ 65536) (he : s.ends.length = s.recs.length) :
    Calls Try.prog 29 #[.pointer (some ⟨J, 0, none⟩)] w fun e w' => e = .returned (.int .i64 (durN s.ends t.syn : Int)) ∧ Below w.heap.size w w' := by
  have hD := durN_le s.ends t.syn
  have hD1 := Lib.hid (durN_lt s.ends t.syn)
  have hD2 := Lib.hid (durN_stop s.ends t.syn)
  obtain ⟨c0, c1, c2, c3, fr, hlt⟩ := h.cells
  have H := Lib.hid h
  have HF := Lib.hid hF
  obtain ⟨A, c, rfl, hc, hm, hnil, hrd⟩ := row_reads h.row2 (by omega)
  have Hrd := Lib.hid hrd
  clear c1 c3 fr h hF hrd hnil
  generalize durN s.ends t.syn = N at *
  go_enter Try.func29, Try.ntmps29
  go_wp2
  go_loopw [3] (fun i wr => ∃ k : Nat, k ≤ N ∧ i = .int .i64 (k : Int) ∧ Below w.heap.size w wr) (fun i _ => N - (intOf i).toNat)
  case atStart => exact ⟨0, by omega, rfl, Below.refl _ _⟩
  case round =>
    obtain ⟨k, hk, rfl, hb⟩ := hrel
    have d0 := (hb.cell (p := ⟨J, 0, none⟩) hlt).trans c0
    have d2 := (hb.cell (p := ⟨J, 2, none⟩) hlt).trans c2
    have l0 := later_cell (B := wr.heap.size) d0 (Nat.lt_of_lt_of_le hlt hb.size)
    have l2 := later_cell (B := wr.heap.size) d2 (Nat.lt_of_lt_of_le hlt hb.size)
    have cl : ∀ s1 : Later wr.heap.size wr, Calls Try.prog 32 #[.pointer (some ⟨J, 0, none⟩)] s1.w fun e w' => e = .returned (.int .i64 (s.recs.length : Int)) ∧ Below s1.w.heap.size s1.w w' := fun s1 =>
      (jlen_any B J f v1 _ s s1.w (H.out.below (hb.trans (s1.h.mono hb.size)))).mono (by rintro e w' ⟨rfl, rfl⟩; exact ⟨rfl, Below.refl _ _⟩)
    have cs : ∀ s1 : Later wr.heap.size wr, Calls Try.prog 42 #[.pointer (some ⟨f, 0, none⟩)] s1.w fun e w' => e = .returned (.int .i64 (t.syn : Int)) ∧ Below s1.w.heap.size s1.w w' := fun s1 =>
      (synced_any B f v t s1.w (HF.out.below (hb.trans (s1.h.mono hb.size)))).mono (by rintro e w' ⟨rfl, rfl⟩; exact ⟨rfl, Below.refl _ _⟩)
    by_cases hend : k < s.ends.length
    · have q0 : (k : Int) < (s.recs.length : Int) := by omega
      have k0 : (0 : Int) ≤ (k : Int) := by omega
      obtain ⟨b, off, rfl, hlb, hcell⟩ := rd_pos Hrd.out (by simp [endsV]; omega)
      have g := later_cell (B := wr.heap.size) ((hb.cell (p := ⟨b, off + k, none⟩) hlb).trans (hcell k (.int .i64 (s.ends.getD k 0 : Int)) (by simp [endsV, hend]))) (Nat.lt_of_lt_of_le hlb hb.size)
      by_cases hkN : k < N
      · have q1 : (s.ends.getD k 0 : Int) ≤ (t.syn : Int) := by have := hD1.out k hkN; omega
        generalize s.ends.getD k 0 = x at *
        go_wp2_with fail
        refine wp_region_later (by kernel_rfl) (by kernel_rfl) ?_
        repeat (go_big_quiet_step (first | (go_at_call 32; exact later_calls (Nat.le_refl _) (cl _)) | (go_at_call 42; exact later_calls (Nat.le_refl _) (cs _))))
        refine wpQuiet_nil ?_
        intro w3 hb3
        go_wp2_with fail
        go_roundw
        case rel => exact ⟨k + 1, by omega, by go_num, hb.trans (hb3.mono hb.size)⟩
        case measure => simp [intOf]; omega
      · obtain rfl : k = N := by omega
        have q1 : ¬ (s.ends.getD k 0 : Int) ≤ (t.syn : Int) := by have := hD2.out hend; omega
        generalize s.ends.getD k 0 = x at *
        go_wp2_with fail
        refine wp_region_later (by kernel_rfl) (by kernel_rfl) ?_
        repeat (go_big_quiet_step (first | (go_at_call 32; exact later_calls (Nat.le_refl _) (cl _)) | (go_at_call 42; exact later_calls (Nat.le_refl _) (cs _))))
        refine wpQuiet_nil ?_
        intro w3 hb3
        go_wp2_with fail
        go_returns
        exact ⟨rfl, hb.trans (hb3.mono hb.size)⟩
    · obtain rfl : k = N := by omega
      have q0 : decide ((k : Int) < (s.recs.length : Int)) = false := decide_eq_false (by omega)
      have q2 : ¬ k < s.recs.length := by omega
      have q3 : s.recs.length ≤ k := by omega
      go_wp2_with fail
      refine wp_region_later (by kernel_rfl) (by kernel_rfl) ?_
      repeat (go_big_quiet_step (first | (go_at_call 32; exact later_calls (Nat.le_refl _) (cl _)) | (go_at_call 42; exact later_calls (Nat.le_refl _) (cs _))))
      refine wpQuiet_nil ?_
      intro w3 hb3
      go_wp2_with fail
      go_returns
      exact ⟨rfl, hb.trans (hb3.mono hb.size)⟩
end Go.Proofs.Ythfnpakddnnccaa
