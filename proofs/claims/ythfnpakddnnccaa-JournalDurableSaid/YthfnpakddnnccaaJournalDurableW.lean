/- The walk of hemiola/hemiolalaw52.JournalDurable: it returns true, and writes nothing that was there. -/
import Derived.Test.YthfnpakddnnccaaJw
import Derived.Test.YthfnpakddnnccaaOpenJ
import Derived.OpenShut
namespace Go.Proofs.Ythfnpakddnnccaa
open Go.RowKit
set_option linter.unusedVariables false
theorem take_snoc {L : List ByteArray} {k : Nat} (h : k < L.length) : L.take k ++ [L.getD k ByteArray.empty] = L.take (k + 1) := by
  rw [List.take_succ_eq_append_getElem h]
  simp [h]
theorem cutL_len (l : List ByteArray) : (cutL l).length ≤ 20 := by unfold cutL; rw [List.length_map, List.length_take]; omega
theorem cutL_small (l : List ByteArray) : ∀ r ∈ cutL l, r.size ≤ 40 := by
  intro r hr
  obtain ⟨s, _, rfl⟩ := List.mem_map.1 hr
  exact size_cutR s
theorem catR_take_le : ∀ (rs : List ByteArray) (k m : Nat), (catR k (rs.take m)).size ≤ (catR k rs).size := by
  intro rs
  induction rs with
  | nil => intro k m; rw [List.take_nil]; exact Nat.le_refl _
  | cons r t ih =>
    intro k m
    cases m with
    | zero => exact Nat.zero_le _
    | succ m => rw [List.take_succ_cons, size_catR_cons, size_catR_cons]; have := ih (k + 1) m; omega
set_option maxRecDepth 100000 in
set_option maxHeartbeats 4000000 in
theorem walkJournalDurable {w : World} (A : Option Addr) (c : Nat) (l : List ByteArray) (hc : l.length ≤ c) (hcm : c ≤ maxLen) (hrd : Rd w w.heap.size A (l.map Value.string)) (hs : ∀ s ∈ l, s.size ≤ maxLen) (A2 : Option Addr) (c2 : Nat) (bs : List Bool) (hb : bs.length ≤ c2) (hbm : c2 ≤ maxLen) (hrb : Rd w w.heap.size A2 (bs.map Value.bool)) (hbt : ∀ x ∈ bs, True) (_w : World) :
    Calls Try.prog 11 #[.slice A l.length c, .slice A2 bs.length c2] w fun e w' => e = .returned (.bool true) ∧ Below w.heap.size w w' := by
  have cc := cut_any A c l w hc hcm hrd hs
  have hL := cutL_len l
  have hLs := Lib.hid (cutL_small l)
  generalize cutL l = L at *
  have hbn : bs.length ≤ 9223372036854775807 := by unfold maxLen at hbm; omega
  have Hrb := Lib.hid hrb
  clear hrd hs hrb hbt
  go_enter Try.func11, Try.ntmps11
  go_wp2_with fail
  refine cc.mono ?_
  rintro e wa ⟨v, rfl, hacc⟩
  obtain ⟨A1, c1, rfl, hc1, hc1m, hrdL⟩ := acc_form hacc
  have Ba := hacc.below
  have HrdL := Lib.hid hrdL
  clear cc hacc hrdL
  go_wp2_with fail
  refine (known_any _).mono ?_
  rintro e wb ⟨rfl, Bb⟩
  have HrdL := Lib.hid (rd_below HrdL.out Bb)
  have Bw : Below w.heap.size w wb := Ba.trans (Bb.mono Ba.size)
  have Hrb := Lib.hid (rd_below Hrb.out Bw)
  clear Ba Bb
  go_wp2_with fail
  refine (newfile_any _).mono ?_
  rintro e wc ⟨rfl, hF, Bc, hz⟩
  have co := jw_new wb wc hF Bc
  clear hF
  go_wp2_with fail
  refine co.mono ?_
  rintro e wd ⟨rfl, hX⟩
  have HX := Lib.hid hX
  clear co hX hz
  generalize hJ : wc.heap.size = J at *
  clear hJ Bc
  go_wp2_with fail
  go_loopw [8, 9] (fun want i wr => ∃ k m : Nat, k ≤ L.length ∧ m ≤ k ∧ i = .int .i64 (k : Int) ∧ want = .int .i64 (m : Int) ∧ Hid (∃ syn, syn = (catR 0 (L.take m)).size ∧ JX wb.heap.size wb J wb.heap.size (jst (L.take k) false) ⟨catR 0 (L.take k), syn, -1, false⟩ wr)) (fun _ i _ => L.length - (intOf i).toNat)
  case atStart => exact ⟨0, 0, by omega, by omega, rfl, rfl, Lib.hid ⟨0, rfl, HX.out⟩⟩
  case round =>
    clear HX
    obtain ⟨k, m, hk, hm, rfl, rfl, HS⟩ := hrel
    have syn_ex := HS.out
    obtain ⟨syn, hsyn, hX⟩ := syn_ex
    have hBr := hX.below
    have hln : (L.take k).length = k := by rw [List.length_take]; omega
    have e1 : max ((-1 : Int) - 1) (-1) = -1 := by decide
    have e2 : IntKind.i64.wrap ((k : Int) + 1) = (k : Int) + 1 := IntWalk.i64_in _ (by omega)
    by_cases hlt : k < L.length
    · have k0 : (0 : Int) ≤ (k : Int) := by omega
      have k1 : (k : Int) < (L.length : Int) := by omega
      obtain ⟨b, off, rfl, hlb, hcell⟩ := rd_pos HrdL.out (by rw [recsV, List.length_map]; omega)
      have c0 := (hBr.cell (p := ⟨b, off + k, none⟩) hlb).trans (hcell k (.string (L.getD k ByteArray.empty)) (by simp [recsV, hlt]))
      have hr40 : (L.getD k ByteArray.empty).size ≤ 40 := by
        have := hLs.out _ (List.getElem_mem hlt)
        simpa [hlt] using this
      have ca := jw_append wb.heap.size wb J wb.heap.size (L.take k) syn (-1) (L.getD k ByteArray.empty) wr hX (by decide) (by decide) (by decide) (by omega) (fun q hq => hLs.out q (List.mem_of_mem_take hq)) hr40
      rw [hln, take_snoc hlt, e1] at ca
      have hln1 : (L.take (k + 1)).length = k + 1 := by rw [List.length_take]; omega
      clear hcell hX HS
      generalize L.getD k ByteArray.empty = x at *
      go_wp2_with fail
      refine ca.mono ?_
      rintro e w2 ⟨rfl, hX2⟩
      have HX2 := Lib.hid hX2
      have hB2 := hX2.below
      clear ca c0 hX2
      have fin : ∀ (m' : Nat) (W : World), m' ≤ k + 1 → JX wb.heap.size wb J wb.heap.size (jst (L.take (k + 1)) false) ⟨catR 0 (L.take (k + 1)), (catR 0 (L.take m')).size, -1, false⟩ W →
          (Calls Try.prog 29 #[.pointer (some ⟨J, 0, none⟩)] W fun e W' => e = .returned (.int .i64 (m' : Int)) ∧ Below W.heap.size W W') := fun m' W hm' hW =>
        jw_dur wb.heap.size wb J wb.heap.size (L.take (k + 1)) false _ m' W hW (by omega) (by omega) (by show _ = _; rw [List.take_take, Nat.min_eq_left hm'])
      by_cases hbk : k < bs.length
      · have k2 : (k : Int) < (bs.length : Int) := by omega
        have k3 : decide ((k : Int) < (bs.length : Int)) = true := decide_eq_true k2
        obtain ⟨b2, off2, rfl, hlb2, hcell2⟩ := rd_pos Hrb.out (by rw [List.length_map]; omega)
        have c0 := (hB2.cell (p := ⟨b2, off2 + k, none⟩) hlb2).trans (hcell2 k (.bool (bs.getD k false)) (by simp [hbk]))
        clear hcell2
        cases hv : bs.getD k false
        · rw [hv] at c0
          go_wp2_with fail
          refine (fin m w2 (by omega) (hsyn ▸ HX2.out)).mono ?_
          rintro e w4 ⟨rfl, hbd⟩
          have cl := jw_len wb.heap.size wb J wb.heap.size (L.take (k + 1)) false _ w4 (HX2.out.later hbd)
          rw [hln1, show ((k + 1 : Nat) : Int) = (k : Int) + 1 from by omega] at cl
          have HXe := Lib.hid (HX2.out.later hbd)
          clear fin hbd
          go_wp2_with fail
          refine cl.mono ?_
          rintro e w5 ⟨rfl, hbe⟩
          go_wp2_with fail
          go_roundw
          case rel => exact ⟨k + 1, m, by omega, by omega, by go_num, rfl, Lib.hid ⟨_, hsyn, HXe.out.later hbe⟩⟩
          case measure => simp [intOf]; omega
        · rw [hv] at c0
          have cs := jw_sync wb.heap.size wb J wb.heap.size (L.take (k + 1)) (L.take (k + 1)) syn (-1) w2 HX2.out (by decide) (by decide) (by decide)
          rw [e1] at cs
          go_wp2_with fail
          refine cs.mono ?_
          rintro e w3 ⟨rfl, hX3⟩
          have HX3 := Lib.hid hX3
          clear cs hX3 c0
          go_wp2_with fail
          have fin1 := fin (k + 1) w3 (by omega) HX3.out
          rw [show ((k + 1 : Nat) : Int) = (k : Int) + 1 from by omega] at fin1
          refine fin1.mono ?_
          rintro e w4 ⟨rfl, hbd⟩
          have cl := jw_len wb.heap.size wb J wb.heap.size (L.take (k + 1)) false _ w4 (HX3.out.later hbd)
          rw [hln1, show ((k + 1 : Nat) : Int) = (k : Int) + 1 from by omega] at cl
          have HXe := Lib.hid (HX3.out.later hbd)
          clear fin hbd
          go_wp2_with fail
          refine cl.mono ?_
          rintro e w5 ⟨rfl, hbe⟩
          go_wp2_with fail
          go_roundw
          case rel => exact ⟨k + 1, k + 1, by omega, by omega, by go_num, by go_num, Lib.hid ⟨_, rfl, HXe.out.later hbe⟩⟩
          case measure => simp [intOf]; omega
      · have k3 : decide ((k : Int) < (bs.length : Int)) = false := decide_eq_false (by omega)
        go_wp2_with fail
        refine (fin m w2 (by omega) (hsyn ▸ HX2.out)).mono ?_
        rintro e w4 ⟨rfl, hbd⟩
        have cl := jw_len wb.heap.size wb J wb.heap.size (L.take (k + 1)) false _ w4 (HX2.out.later hbd)
        rw [hln1, show ((k + 1 : Nat) : Int) = (k : Int) + 1 from by omega] at cl
        have HXe := Lib.hid (HX2.out.later hbd)
        clear fin hbd
        go_wp2_with fail
        refine cl.mono ?_
        rintro e w5 ⟨rfl, hbe⟩
        go_wp2_with fail
        go_roundw
        case rel => exact ⟨k + 1, m, by omega, by omega, by go_num, rfl, Lib.hid ⟨_, hsyn, HXe.out.later hbe⟩⟩
        case measure => simp [intOf]; omega
    · obtain rfl : k = L.length := by omega
      obtain ⟨vF, hF⟩ := hX.file
      have c1 := synced_any _ _ _ _ _ hF
      have c2 := bytes_any _ _ _ _ _ hF
      have hle := catR_take_le (L.take L.length) 0 m
      rw [List.take_take, Nat.min_eq_left hm, ← hsyn] at hle
      have hle' : ((syn : Nat) : Int) ≤ ((catR 0 (L.take L.length)).size : Int) := by omega
      dsimp only at c1 c2
      clear hX HS hF hsyn
      generalize catR 0 (L.take L.length) = X at *
      go_wp2_with fail
      refine c1.mono ?_
      rintro e w3 ⟨rfl, rfl⟩
      go_wp2_with fail
      refine c2.mono ?_
      rintro e w3 ⟨rfl, rfl⟩
      go_wp2_with fail
      go_returns
      exact ⟨rfl, Bw.trans (hBr.mono Bw.size)⟩
end Go.Proofs.Ythfnpakddnnccaa
