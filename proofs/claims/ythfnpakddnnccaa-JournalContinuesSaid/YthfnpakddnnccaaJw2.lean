/- Limits, failures and restarts of a journal's file, and Open behind them: the contracts as the laws use them. -/
import Derived.Test.YthfnpakddnnccaaJw
namespace Go.Proofs.Ythfnpakddnnccaa
open Go.RowKit
set_option linter.unusedVariables false

theorem jw_limit (B : Nat) (w : World) (J f : Nat) (s : JS) (b : ByteArray) (syn : Nat) (lim : Int) (dn : Bool) (n : Int) (W : World) (h : JX B w J f s ⟨b, syn, lim, dn⟩ W) :
    Calls Try.prog 25 #[.pointer (some ⟨f, 0, none⟩), .int .i64 n] W fun e W' => (∃ r, e = .returned r) ∧ JX B w J f s ⟨b, syn, max n (-1), dn⟩ W' := by
  obtain ⟨v, hF⟩ := h.file
  exact (setlimit_any B f v _ n W hF).mono fun e W' ⟨he, h1, h2⟩ => ⟨he, h.step0 hF h2 h1⟩
theorem jw_fail (B : Nat) (w : World) (J f : Nat) (s : JS) (b : ByteArray) (syn : Nat) (lim : Int) (dn : Bool) (W : World) (h : JX B w J f s ⟨b, syn, lim, dn⟩ W) :
    Calls Try.prog 30 #[.pointer (some ⟨f, 0, none⟩)] W fun e W' => (∃ r, e = .returned r) ∧ JX B w J f s ⟨b, syn, lim, true⟩ W' := by
  obtain ⟨v, hF⟩ := h.file
  exact (fail_any B f v _ W hF).mono fun e W' ⟨he, h1, h2⟩ => ⟨he, h.step0 hF h2 h1⟩
theorem jw_down (B : Nat) (w : World) (J f : Nat) (s : JS) (t : FS) (W : World) (h : JX B w J f s t W) :
    Calls Try.prog 26 #[.pointer (some ⟨f, 0, none⟩)] W fun e W' => e = .returned (.bool t.down) ∧ W' = W := by
  obtain ⟨v, hF⟩ := h.file
  exact down_any B f v t W hF
theorem dmg_bl (T : ByteArray) (k d : Nat) : (dmg T k d).size = T.size ∧ ∀ g, (0 < k → g ≤ T.size - 1) → (bl (dmg T k d)).take g = (bl T).take g := by
  unfold dmg
  by_cases hk : 0 < k
  · rw [if_pos hk]
    refine ⟨?_, fun g hg => ?_⟩
    · show (T.data.toList.set _ _).toArray.size = T.data.size
      simp
    · show ((bl T).set (T.size - 1) _).take g = _
      rw [List.take_set, List.set_eq_of_length_le]
      rw [List.length_take, bl_len]
      have := hg hk
      omega
  · rw [if_neg hk]
    exact ⟨rfl, fun g _ => rfl⟩
/-- What a restart leaves: a beginning of the records, with all that were durable. -/
theorem jw_restart (B : Nat) (w : World) (J f : Nat) (s : JS) (rs : List ByteArray) (m : Nat) (lim : Int) (keep d : Nat) (W : World) (h : JX B w J f s ⟨catR 0 rs, (catR 0 (rs.take m)).size, lim, true⟩ W) (hd : d < 256) (hm : m ≤ rs.length) (hn : rs.length ≤ 64) (hr : ∀ q ∈ rs, q.size ≤ 40) :
    Calls Try.prog 31 #[.pointer (some ⟨f, 0, none⟩), .int .i64 (keep : Int), .int .u8 (d : Int)] W fun e W' => e = .returned (.int .i64 0) ∧
      ∃ (D : ByteArray) (syn' m' : Nat), JX B w J f s ⟨D, syn', -1, false⟩ W' ∧ m ≤ m' ∧ m' ≤ rs.length ∧ D.size ≤ 1048576 ∧ scanL D = posL 0 (rs.take m') ∧ D.extract 0 (endOf (scanL D)) = catR 0 (rs.take m') := by
  obtain ⟨v, hF⟩ := h.file
  have hsm := small_catR rs 0 hr
  have hle := catR_take_le rs 0 m
  have hR : fRestart (keep : Int) d ⟨catR 0 rs, (catR 0 (rs.take m)).size, lim, true⟩ = (⟨dmg ((catR 0 rs).extract 0 ((catR 0 (rs.take m)).size + min keep ((catR 0 rs).size - (catR 0 (rs.take m)).size))) (min keep ((catR 0 rs).size - (catR 0 (rs.take m)).size)) d, (catR 0 (rs.take m)).size + min keep ((catR 0 rs).size - (catR 0 (rs.take m)).size), -1, false⟩, 0) := by
    unfold fRestart
    rw [if_neg (by show ¬ (true = false); decide), if_neg (by omega), Int.toNat_natCast]
  have hc := restart_any B f v _ (keep : Int) d W hF hd (by show (catR 0 rs).size ≤ _; omega) hle h.hB
  rw [hR] at hc
  obtain ⟨k, hk⟩ : ∃ k, k = min keep ((catR 0 rs).size - (catR 0 (rs.take m)).size) := ⟨_, rfl⟩
  rw [← hk] at hc
  have hT : ((catR 0 rs).extract 0 ((catR 0 (rs.take m)).size + k)).size = (catR 0 (rs.take m)).size + k := by rw [ByteArray.size_extract]; omega
  obtain ⟨d1, d2⟩ := dmg_bl ((catR 0 rs).extract 0 ((catR 0 (rs.take m)).size + k)) k d
  rw [hT] at d1 d2
  generalize hDD : dmg ((catR 0 rs).extract 0 ((catR 0 (rs.take m)).size + k)) k d = D at *
  obtain ⟨g, g1, g2, g3, g4⟩ : ∃ g, D.size ≤ g + 1 ∧ g ≤ D.size ∧ (catR 0 (rs.take m)).size ≤ g ∧ (bl D).take g = (bl (catR 0 rs)).take g := by
    have hb : ∀ g, g ≤ (catR 0 (rs.take m)).size + k → (0 < k → g ≤ (catR 0 (rs.take m)).size + k - 1) → (bl D).take g = (bl (catR 0 rs)).take g := fun g h1 h2 => by
      rw [d2 g h2, bl_ext, List.drop_zero, List.take_take, Nat.min_eq_left (by omega)]
    by_cases h0 : 0 < k
    · exact ⟨(catR 0 (rs.take m)).size + k - 1, by omega, by omega, by omega, hb _ (by omega) (fun _ => Nat.le_refl _)⟩
    · exact ⟨(catR 0 (rs.take m)).size + k, by omega, by omega, by omega, hb _ (by omega) (fun hh => absurd hh h0)⟩
  obtain ⟨m', hm', hs1, hs2, hs3, hmax⟩ := scan_restart D rs g (fun q hq => by have := hr q hq; omega) (by omega) g1 g2 (by omega) g4
  refine hc.mono ?_
  rintro e W' ⟨rfl, v', hF', ht⟩
  exact ⟨rfl, D, _, m', h.step0 hF ht hF', hmax m hm g3, hm', by omega, hs1, hs2⟩
theorem jw_reopen (B f : Nat) (w : World) (J : Nat) (s : JS) (rs : List ByteArray) (D : ByteArray) (syn : Nat) (W : World) (h : JX B w J f s ⟨D, syn, -1, false⟩ W) (hsz : D.size ≤ 1048576) (hsc : scanL D = posL 0 rs) (hx : D.extract 0 (endOf (scanL D)) = catR 0 rs) :
    Calls Try.prog 24 #[.pointer (some ⟨f, 0, none⟩)] W fun e W' => e = .returned (.tuple #[.pointer (some ⟨W.heap.size, 0, none⟩), .int .i64 0]) ∧ JX B w W.heap.size f (jst rs false) ⟨catR 0 rs, (catR 0 rs).size, -1, false⟩ W' ∧ JX B w J f s ⟨catR 0 rs, (catR 0 rs).size, -1, false⟩ W' := by
  obtain ⟨v, hF⟩ := h.file
  exact (jw_open B f w v _ W hF h.below h.hB rs rfl rfl hsz hsc hx).mono fun e W' ⟨he, h1, h2⟩ => ⟨he, h1, h.other h2 h1⟩
end Go.Proofs.Ythfnpakddnnccaa
