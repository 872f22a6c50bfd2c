/- The walk of hemiola/hemiolalaw52.JournalKeeps: it returns true, and writes nothing that was there. -/
import Derived.Test.YthfnpakddnnccaaOpenJ
import Derived.OpenShut
namespace Go.Proofs.Ythfnpakddnnccaa
open Go.RowKit
set_option linter.unusedVariables false
theorem ext_ext (s : ByteArray) (N a b : Nat) (hb : b ≤ N) : (s.extract 0 N).extract a b = s.extract a b := by
  apply ByteArray.ext
  rw [ByteArray.data_extract, ByteArray.data_extract, ByteArray.data_extract, Array.extract_extract]
  congr 1 <;> omega
theorem ext_set (T : ByteArray) (k a b : Nat) (x : UInt8) (hb : b ≤ k) : (ByteArray.mk (T.data.toList.set k x).toArray).extract a b = T.extract a b := by
  apply ByteArray.ext
  apply Array.ext'
  rw [ByteArray.data_extract, ByteArray.data_extract, Array.toList_extract, Array.toList_extract]
  show List.extract (T.data.toList.set k x) a b = _
  rw [List.extract_eq_take_drop, List.extract_eq_take_drop]
  apply List.ext_getElem?
  intro i
  rw [List.getElem?_take, List.getElem?_take]
  by_cases hi : i < b - a
  · rw [if_pos hi, if_pos hi, List.getElem?_drop, List.getElem?_drop, List.getElem?_set_ne (by omega)]
  · rw [if_neg hi, if_neg hi]
/-- What is there behind a restart. -/
theorem dmg_keeps (s : ByteArray) (n m d : Nat) (h : n + m ≤ s.size) (hd : d < 256) :
    (dmg (s.extract 0 (n + m)) m d).size = n + m ∧ (dmg (s.extract 0 (n + m)) m d).extract 0 n = s.extract 0 n ∧
    (0 < m → (dmg (s.extract 0 (n + m)) m d).extract n (n + m - 1) = s.extract n (n + m - 1) ∧ ((dmg (s.extract 0 (n + m)) m d).data.getD (n + m - 1) 0).toNat = (s.data.getD (n + m - 1) 0).toNat ^^^ d) := by
  have hT : (s.extract 0 (n + m)).size = n + m := by rw [ByteArray.size_extract]; omega
  have hs : n + m ≤ s.data.size := h
  refine ⟨by rw [size_dmg, hT], ?_, fun hm => ⟨?_, ?_⟩⟩
  · by_cases hm : 0 < m
    · unfold dmg
      rw [if_pos hm, hT, ext_set _ _ _ _ _ (by omega), ext_ext _ _ _ _ (by omega)]
    · unfold dmg
      rw [if_neg hm, ext_ext _ _ _ _ (by omega)]
  · unfold dmg
    rw [if_pos hm, hT, ext_set _ _ _ _ _ (by omega), ext_ext _ _ _ _ (by omega)]
  · unfold dmg
    rw [if_pos hm, hT]
    have hx : (s.extract 0 (n + m)).data.getD (n + m - 1) 0 = s.data.getD (n + m - 1) 0 := by
      rw [ByteArray.data_extract, Array.getD_eq_getD_getElem?, Array.getD_eq_getD_getElem?, Array.getElem?_extract, if_pos (by show n + m - 1 < min (n + m) s.data.size - 0; omega), Nat.zero_add]
    rw [hx]
    have hy : ((s.data.getD (n + m - 1) 0).toNat ^^^ d) < 2 ^ 8 := Nat.xor_lt_two_pow (UInt8.toNat_lt _) (by omega)
    show ((List.toArray ((s.extract 0 (n + m)).data.toList.set (n + m - 1) (UInt8.ofNat ((s.data.getD (n + m - 1) 0).toNat ^^^ d)))).getD (n + m - 1) 0).toNat = _
    have hl : n + m - 1 < (s.extract 0 (n + m)).data.toList.length := by show n + m - 1 < (s.extract 0 (n + m)).size; omega
    rw [Array.getD_eq_getD_getElem?, List.getElem?_toArray, List.getElem?_set_self hl]
    show (UInt8.ofNat _).toNat = _
    rw [UInt8.toNat_ofNat', Nat.mod_eq_of_lt (by omega)]
set_option maxRecDepth 100000 in
set_option maxHeartbeats 4000000 in
theorem keeps_neg {w : World} (A : Option Addr) (c : Nat) (ops : List OpD) (hc : ops.length ≤ c) (hrd : RdOps w w.heap.size A ops) (hok : ∀ o ∈ ops, o.okR) (hn : ops.length ≤ 30) (keep : Int) (d : Nat) (hd : d < 256) (hk : keep < 0) :
    Calls Try.prog 10 #[.slice A ops.length c, .int .i64 keep, .int .u8 (d : Int)] w fun e w' => e = .returned (.bool true) ∧ Below w.heap.size w w' := by
  have Hok := Lib.hid hok
  have Hrd := Lib.hid hrd
  clear hok hrd
  go_enter Try.func10, Try.ntmps10
  go_wp2_with fail
  refine (known_any _).mono ?_
  rintro e w1 ⟨rfl, B1⟩
  have z1 := B1.size
  have cp := play_any A c ops w1 (by omega) hc Hok.out (Hrd.out.below B1)
  have hS := play_ok ops Hok.out ops.length (Nat.le_refl _)
  rw [List.take_length] at hS
  generalize playS ops = S at *
  go_wp2_with fail
  refine cp.mono ?_
  rintro e w2 ⟨rfl, v, hI⟩
  have cB := bytes_any _ _ _ _ _ hI.file
  have cS := synced_any _ _ _ _ _ hI.file
  have cF := fail_any _ _ _ _ _ hI.file
  have hsz := hI.below.size
  have HI := Lib.hid hI
  clear hI cp
  go_wp2_with fail
  refine cB.mono ?_
  rintro e w3 ⟨rfl, rfl⟩
  go_wp2_with fail
  refine cS.mono ?_
  rintro e w3 ⟨rfl, rfl⟩
  go_wp2_with fail
  refine cF.mono ?_
  rintro e w3 ⟨⟨r, rfl⟩, hF, tF⟩
  have B3 : Below w1.heap.size w1 w3 := HI.out.below.trans (tF.below hsz (Nat.le_refl _) (fun k hk => by cases hk))
  have cR := restart_any _ _ _ _ keep d _ hF hd (by have := hS.2.2.1; show S.bytes.size ≤ _; omega) hS.2.2.2 B3.size
  rw [show fRestart keep d { S with down := true } = ({ S with down := true }, 2) from by unfold fRestart; rw [if_neg (by show ¬ (true = false); decide), if_pos hk]] at cR
  clear cB cS cF
  go_wp2_with fail
  refine cR.mono ?_
  rintro e w4 ⟨rfl, v', hF4, t4⟩
  have cD := down_any _ _ _ _ _ hF4
  have B4 : Below w1.heap.size w1 w4 := B3.trans (t4.below B3.size (Nat.le_refl _) (fun k hk => by cases hk))
  go_wp2_with fail
  refine cD.mono ?_
  rintro e w5 ⟨rfl, rfl⟩
  go_wp2_with fail
  go_returns
  exact ⟨rfl, B1.trans (B4.mono z1)⟩
set_option maxRecDepth 100000 in
set_option maxHeartbeats 4000000 in
theorem keeps_pos {w : World} (A : Option Addr) (c : Nat) (ops : List OpD) (hc : ops.length ≤ c) (hrd : RdOps w w.heap.size A ops) (hok : ∀ o ∈ ops, o.okR) (hn : ops.length ≤ 30) (keep : Int) (d : Nat) (hd : d < 256) (hk0 : 0 ≤ keep) :
    Calls Try.prog 10 #[.slice A ops.length c, .int .i64 keep, .int .u8 (d : Int)] w fun e w' => e = .returned (.bool true) ∧ Below w.heap.size w w' := by
  have Hok := Lib.hid hok
  have Hrd := Lib.hid hrd
  clear hok hrd
  go_enter Try.func10, Try.ntmps10
  go_wp2_with fail
  refine (known_any _).mono ?_
  rintro e w1 ⟨rfl, B1⟩
  have z1 := B1.size
  have cp := play_any A c ops w1 (by omega) hc Hok.out (Hrd.out.below B1)
  have hS := play_ok ops Hok.out ops.length (Nat.le_refl _)
  rw [List.take_length] at hS
  generalize playS ops = S at *
  go_wp2_with fail
  refine cp.mono ?_
  rintro e w2 ⟨rfl, v, hI⟩
  have cB := bytes_any _ _ _ _ _ hI.file
  have cS := synced_any _ _ _ _ _ hI.file
  have cF := fail_any _ _ _ _ _ hI.file
  have hsz := hI.below.size
  have HI := Lib.hid hI
  clear hI cp
  go_wp2_with fail
  refine cB.mono ?_
  rintro e w3 ⟨rfl, rfl⟩
  go_wp2_with fail
  refine cS.mono ?_
  rintro e w3 ⟨rfl, rfl⟩
  go_wp2_with fail
  refine cF.mono ?_
  rintro e w3 ⟨⟨r, rfl⟩, hF, tF⟩
  have B3 : Below w1.heap.size w1 w3 := HI.out.below.trans (tF.below hsz (Nat.le_refl _) (fun k hk => by cases hk))
  obtain ⟨h1, h2, h3, h4⟩ := hS
  have cR := restart_any _ _ _ _ keep d _ hF hd (by show S.bytes.size ≤ _; omega) h4 B3.size
  obtain ⟨m, hm⟩ : ∃ m, m = min keep.toNat (S.bytes.size - S.syn) := ⟨_, rfl⟩
  have hdk := dmg_keeps S.bytes S.syn m d (by omega) hd
  obtain ⟨D, HD⟩ : ∃ D, Hid (dmg (S.bytes.extract 0 (S.syn + m)) m d = D) := ⟨_, Lib.hid rfl⟩
  rw [show fRestart keep d { S with down := true } = (⟨D, S.syn + m, -1, false⟩, 0) from by unfold fRestart; rw [if_neg (by show ¬ (true = false); decide), if_neg (by omega)]; show ((⟨dmg (S.bytes.extract 0 (S.syn + min keep.toNat (S.bytes.size - S.syn))) (min keep.toNat (S.bytes.size - S.syn)) d, S.syn + min keep.toNat (S.bytes.size - S.syn), -1, false⟩ : FS), (0 : Int)) = _; rw [← hm, HD.out]] at cR
  rw [HD.out] at hdk
  obtain ⟨hz, he1, he2⟩ := hdk
  have He2 := Lib.hid he2
  have Hz := Lib.hid hz
  clear cB cS cF he2 hz
  go_wp2_with fail
  refine cR.mono ?_
  rintro e w4 ⟨rfl, v', hF4, t4⟩
  have cD := down_any _ _ _ _ _ hF4
  have cB := bytes_any _ _ _ _ _ hF4
  have hFl := fun (w1 : World) (hb : Below w4.heap.size w4 w1) => hF4.below hb
  have cS : ∀ s1 : Later w4.heap.size w4, Calls Try.prog 42 #[.pointer (some ⟨w1.heap.size, 0, none⟩)] s1.w fun e w' => e = .returned (.int .i64 ((S.syn + m : Nat) : Int)) ∧ Below s1.w.heap.size s1.w w' := fun s1 => (synced_any _ _ _ _ s1.w (hFl _ s1.h)).mono fun _ _ hh => ⟨hh.1, hh.2 ▸ Below.refl _ _⟩
  rw [show ((S.syn + m : Nat) : Int) = (S.syn : Int) + (m : Int) from by omega] at cS
  have B4 : Below w1.heap.size w1 w4 := B3.trans (t4.below B3.size (Nat.le_refl _) (fun k hk => by cases hk))
  generalize S.bytes = O at *
  generalize S.syn = n at *
  have Hm := Lib.hid hm
  have HB4 := Lib.hid B4
  clear cR hFl hF4 t4 B3 hF tF hm B4 HI
  go_wp2_with fail
  refine cD.mono ?_
  rintro e w5 ⟨rfl, rfl⟩
  go_wp2_with fail
  refine cB.mono ?_
  rintro e w5 ⟨rfl, rfl⟩
  have hz := Hz.out
  have s1 := str_to D n (by omega)
  have s2 := str_to O n h4
  rw [he1] at s1
  have e1 : IntKind.i64.wrap ((O.size : Int) - (n : Int)) = (O.size : Int) - (n : Int) := IntWalk.i64_in _ (by omega)
  have e2 : IntKind.i64.wrap ((n : Int) + (m : Int)) = (n : Int) + (m : Int) := IntWalk.i64_in _ (by have := Hm.out; omega)
  have hn0 : ¬ O.size < n := by omega
  have hn1 : ¬ D.size < n := by omega
  by_cases hle : (O.size : Int) - (n : Int) < keep
  · have em : Hid ((O.size : Int) - (n : Int) = (m : Int)) := by have := Hm.out; exact Lib.hid (by omega)
    have e3 : IntKind.i64.wrap ((n : Int) + ((O.size : Int) - (n : Int))) = (n : Int) + (m : Int) := by rw [em.out]; exact e2
    go_wp2_with fail
    refine wp_region_later (by kernel_rfl) (by kernel_rfl) ?_
    repeat (go_big_quiet_step ((go_at_call 42; exact later_calls (Nat.le_refl _) (cS _))))
    refine wpQuiet_nil ?_
    intro w6 hb6
    have B6 : Below w1.heap.size w1 w6 := HB4.out.trans (hb6.mono HB4.out.size)
    clear cS cD cB s1 s2 hn0 hn1 he1 e1 e2
    by_cases hm0 : m = 0
    · have q1 : ((n : Int) + (m : Int) == (n : Int)) = true := by rw [beq_iff_eq]; omega
      clear hm0
      go_wp2_with fail
      go_returns
      exact ⟨rfl, B1.trans (B6.mono z1)⟩
    · have q1 : ((n : Int) + (m : Int) == (n : Int)) = false := by rw [beq_eq_false_iff_ne]; omega
      obtain ⟨g1, g2⟩ := He2.out (by omega)
      obtain ⟨J, hJ⟩ : ∃ J, J + 1 = n + m := ⟨n + m - 1, by omega⟩
      have wJ : IntKind.i64.wrap ((n : Int) + (m : Int) - 1) = (J : Int) := by rw [IntWalk.i64_in _ (by have := Hm.out; omega)]; omega
      rw [show n + m - 1 = J from by omega] at g1 g2
      have s1 := str_cut D n J (by omega) (by omega)
      have s2 := str_cut O n J (by omega) (by have := Hm.out; omega)
      rw [g1] at s1
      have i1 := str_index D J (by omega)
      have i2 := str_index O J (by have := Hm.out; omega)
      rw [g2] at i1
      have hx8 : (O.data.getD J 0).toNat < 256 := UInt8.toNat_lt _
      have hbx : bits .xor .u8 ((O.data.getD J 0).toNat : Int) (d : Int) = (((O.data.getD J 0).toNat ^^^ d : Nat) : Int) := u8_xor_nat _ d hx8 hd
      generalize (O.data.getD J 0).toNat ^^^ d = y at *
      generalize (O.data.getD J 0).toNat = x at *
      clear hm0 g1 g2
      go_wp2_with fail
      go_quiet (fail)
      go_wp2_with fail
      go_returns
      exact ⟨rfl, B1.trans ((B6.trans (below_dn (Below.refl _ _) _)).mono z1)⟩
  · have em : Hid (keep = (m : Int)) := by have := Hm.out; exact Lib.hid (by omega)
    have e3 : IntKind.i64.wrap ((n : Int) + keep) = (n : Int) + (m : Int) := by rw [em.out]; exact e2
    go_wp2_with fail
    refine wp_region_later (by kernel_rfl) (by kernel_rfl) ?_
    repeat (go_big_quiet_step ((go_at_call 42; exact later_calls (Nat.le_refl _) (cS _))))
    refine wpQuiet_nil ?_
    intro w6 hb6
    have B6 : Below w1.heap.size w1 w6 := HB4.out.trans (hb6.mono HB4.out.size)
    clear cS cD cB s1 s2 hn0 hn1 he1 e1 e2
    by_cases hm0 : m = 0
    · have q1 : ((n : Int) + (m : Int) == (n : Int)) = true := by rw [beq_iff_eq]; omega
      clear hm0
      go_wp2_with fail
      go_returns
      exact ⟨rfl, B1.trans (B6.mono z1)⟩
    · have q1 : ((n : Int) + (m : Int) == (n : Int)) = false := by rw [beq_eq_false_iff_ne]; omega
      obtain ⟨g1, g2⟩ := He2.out (by omega)
      obtain ⟨J, hJ⟩ : ∃ J, J + 1 = n + m := ⟨n + m - 1, by omega⟩
      have wJ : IntKind.i64.wrap ((n : Int) + (m : Int) - 1) = (J : Int) := by rw [IntWalk.i64_in _ (by have := Hm.out; omega)]; omega
      rw [show n + m - 1 = J from by omega] at g1 g2
      have s1 := str_cut D n J (by omega) (by omega)
      have s2 := str_cut O n J (by omega) (by have := Hm.out; omega)
      rw [g1] at s1
      have i1 := str_index D J (by omega)
      have i2 := str_index O J (by have := Hm.out; omega)
      rw [g2] at i1
      have hx8 : (O.data.getD J 0).toNat < 256 := UInt8.toNat_lt _
      have hbx : bits .xor .u8 ((O.data.getD J 0).toNat : Int) (d : Int) = (((O.data.getD J 0).toNat ^^^ d : Nat) : Int) := u8_xor_nat _ d hx8 hd
      generalize (O.data.getD J 0).toNat ^^^ d = y at *
      generalize (O.data.getD J 0).toNat = x at *
      clear hm0 g1 g2
      go_wp2_with fail
      go_quiet (fail)
      go_wp2_with fail
      go_returns
      exact ⟨rfl, B1.trans ((B6.trans (below_dn (Below.refl _ _) _)).mono z1)⟩
theorem keeps_long {w : World} (A : Option Addr) (c : Nat) (ops : List OpD) (hc : ops.length ≤ c) (hn : 30 < ops.length) (keep dd : Int) :
    Calls Try.prog 10 #[.slice A ops.length c, .int .i64 keep, .int .u8 dd] w fun e w' => e = .returned (.bool true) ∧ Below w.heap.size w w' := by
  go_enter Try.func10, Try.ntmps10
  go_wp2_with fail
  refine (known_any _).mono ?_
  rintro e w1 ⟨rfl, B1⟩
  have z1 := B1.size
  go_wp2_with fail
  refine (known_any _).mono ?_
  rintro e w2 ⟨rfl, B2⟩
  go_wp2_with fail
  go_returns
  exact ⟨rfl, B1.trans (B2.mono z1)⟩
theorem walkJournalKeeps {w : World} (A : Option Addr) (c : Nat) (ops : List OpD) (hc : ops.length ≤ c) (hrd : RdOps w w.heap.size A ops) (hok : ∀ o ∈ ops, o.okR) (keep : Int) (hk : (Lit.int .i64 keep).wf = true) (dd : Int) (hd : (Lit.int .u8 dd).wf = true) (_w : World) :
    Calls Try.prog 10 #[.slice A ops.length c, .int .i64 keep, .int .u8 dd] w fun e w' => e = .returned (.bool true) ∧ Below w.heap.size w w' := by
  have hr := u8_range hd
  by_cases hn : 30 < ops.length
  · exact keeps_long A c ops hc hn keep dd
  · obtain ⟨d, rfl⟩ : ∃ d : Nat, dd = (d : Int) := ⟨dd.toNat, by omega⟩
    rcases Int.lt_or_le keep 0 with h | h
    · exact keeps_neg A c ops hc hrd hok (by omega) keep d (by omega) h
    · exact keeps_pos A c ops hc hrd hok (by omega) keep d (by omega) h
end Go.Proofs.Ythfnpakddnnccaa
