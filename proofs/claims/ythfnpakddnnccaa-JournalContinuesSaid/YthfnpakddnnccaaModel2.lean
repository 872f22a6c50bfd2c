/- The law's model of a file: restart: contract. -/
import Derived.Test.YthfnpakddnnccaaModel
namespace Go.Proofs.Ythfnpakddnnccaa
open Go.RowKit
set_option linter.unusedVariables false

theorem lay_back (T : ByteArray) (W : World) (b cap : Nat) (hc : ∀ j, j < T.size → W.cell? ⟨b, j, none⟩ = some (.int .u8 ((T.data.getD j 0).toNat : Int))) :
    (convert 25 9 (.slice (some ⟨b, 0, none⟩) T.size cap)).run Try.prog W = .ok (.string T) W := by
  have := run_convert_bytes_back (P := Try.prog) W 25 9 5 ⟨b, 0, none⟩ cap T.data.toList (by kernel_rfl) (by kernel_rfl) (by kernel_rfl) (by
    intro j hj
    have hj' : j < T.data.size := hj
    have ha : (⟨b, 0, none⟩ : Addr).add j = ⟨b, j, none⟩ := by unfold Addr.add; split <;> simp_all
    rw [ha, hc j hj', Array.getD_eq_getD_getElem?, Array.getElem?_eq_getElem hj']
    rfl)
  exact this

theorem ModelAt.set0123 {w : World} {b : Nat} {s : FS} (h : ModelAt w b s) (T : ByteArray) (x : Nat) (y : Int) (z : Bool) :
    ModelAt ((((w.setCell ⟨b, 0, none⟩ (.string T)).setCell ⟨b, 1, none⟩ (.int .i64 (x : Int))).setCell ⟨b, 2, none⟩ (.int .i64 y)).setCell ⟨b, 3, none⟩ (.bool z)) b ⟨T, x, y, z⟩ :=
  have h0 : ModelAt (w.setCell ⟨b, 0, none⟩ (.string T)) b { s with bytes := T } := h.set 0 _ rfl
  have h1 : ModelAt ((w.setCell ⟨b, 0, none⟩ (.string T)).setCell ⟨b, 1, none⟩ (.int .i64 (x : Int))) b { s with bytes := T, syn := x } := h0.set 1 _ rfl
  have h2 : ModelAt (((w.setCell ⟨b, 0, none⟩ (.string T)).setCell ⟨b, 1, none⟩ (.int .i64 (x : Int))).setCell ⟨b, 2, none⟩ (.int .i64 y)) b { s with bytes := T, syn := x, lim := y } := h1.set 2 _ rfl
  h2.set 3 _ rfl

set_option maxHeartbeats 2000000 in
theorem mrestart_any (b : Nat) (s : FS) (k d : Nat) (w : World) (h : ModelAt w b s) (hd8 : d < 256) (hk : (k : Int) < 9223372036854775808) (hsz : s.bytes.size ≤ 16777216) (hsyn : s.syn ≤ s.bytes.size) :
    Calls Try.prog 62 #[.pointer (some ⟨b, 0, none⟩), .int .i64 (k : Int), .int .u8 (d : Int)] w fun e w' => (∃ r, e = .returned r) ∧
      ModelAt w' b { bytes := dmg (s.bytes.extract 0 (s.syn + min k (s.bytes.size - s.syn))) (min k (s.bytes.size - s.syn)) d, syn := s.syn + min k (s.bytes.size - s.syn), lim := -1, down := false } ∧ Touch b none w w' := by
  obtain ⟨m, hm⟩ : ∃ m : Nat, m = min k (s.bytes.size - s.syn) := ⟨_, rfl⟩
  rw [← hm]
  obtain ⟨N, hN⟩ : ∃ N : Nat, N = s.syn + m := ⟨_, rfl⟩
  rw [← hN]
  obtain ⟨T, hTd⟩ : ∃ T, T = s.bytes.extract 0 N := ⟨_, rfl⟩
  rw [← hTd]
  obtain ⟨c0, c1, c2, c3, fr, hlt⟩ := h.cells
  have wsub : IntKind.i64.wrap ((s.bytes.size : Int) - (s.syn : Int)) = (s.bytes.size : Int) - (s.syn : Int) := IntWalk.i64_in _ (by omega)
  go_enter Try.func62, Try.ntmps62
  go_wp2_with fail
  go_region
  have hif : (if (s.bytes.size : Int) - (s.syn : Int) < (k : Int) then (s.bytes.size : Int) - (s.syn : Int) else (k : Int)) = (m : Int) := by split <;> omega
  rw [hif]
  clear hif
  have hi2 : (s.syn : Int) + (m : Int) = (N : Int) := by omega
  rw [hi2]
  clear hi2
  have h1 : ModelAt w.drew b s := h.below (Below.refl _ _).drew
  have t1 : Touch b none w w.drew := Touch.ofBelow (Below.refl _ _).drew
  generalize w.drew = W1 at *
  clear c0 c1 c2 c3 fr hlt wsub h
  obtain ⟨c0, c1, c2, c3, fr, hlt⟩ := h1.cells
  have hNs : N ≤ s.bytes.size := by omega
  have hto := str_to s.bytes N hNs
  have hT : (s.bytes.extract 0 N).size = N := by rw [ByteArray.size_extract]; omega
  obtain ⟨W4, cap, hconv, hcell, hfro, hlt4, hbel, hcap⟩ := lay_conv T W1
  rw [← hTd] at hto hT
  clear hTd
  have h4 := h1.below hbel
  have t4 : Touch b none w W4 := t1.trans (Touch.ofBelow hbel)
  obtain ⟨d0, d1, d2, d3, dfr, dlt⟩ := h4.cells
  have hwb : w.heap.size ≤ W1.heap.size := t1.size
  have H4 := Lib.hid h4
  have T4 := Lib.hid t4
  have Hc := Lib.hid hcell
  have Hf := Lib.hid hfro
  have Hn := Lib.hid hN
  have Hm := Lib.hid hm
  rw [hT] at hconv
  have e1 := dfr 0
  have e2 := dfr 1
  have e3 := dfr 2
  have e4 := dfr 3
  clear h1 t1 h4 t4 hcell hfro hN hm fr dfr hbel
  by_cases hm0 : m = 0
  · have i0 : ¬ (s.syn : Int) < (N : Int) := by have := Hn.out; omega
    have hb := lay_back T W4 W1.heap.size cap Hc.out
    rw [hT] at hb
    have Hd := Lib.hid (show dmg T m d = T from by unfold dmg; rw [if_neg (by omega)])
    clear hm0
    go_wp2_with fail
    go_end0
    rw [Hd.out]
    exact ⟨⟨_, rfl⟩, H4.out.set0123 T N (-1) false, (((T4.out.setCell 0 _).setCell 1 _).setCell 2 _).setCell 3 _⟩
  · obtain ⟨J, hJ⟩ : ∃ J, J + 1 = N := ⟨N - 1, by have := Hn.out; omega⟩
    have ck := Hc.out J (by omega)
    have fk := Hf.out J (by omega)
    have hx8 : (T.data.getD J 0).toNat < 256 := UInt8.toNat_lt _
    have hbx : bits .xor .u8 ((T.data.getD J 0).toNat : Int) (d : Int) = (((T.data.getD J 0).toNat ^^^ d : Nat) : Int) := u8_xor_nat _ d hx8 hd8
    have hy8 : (T.data.getD J 0).toNat ^^^ d < 256 := by
      have := Nat.xor_lt_two_pow (x := (T.data.getD J 0).toNat) (y := d) (n := 8) hx8 (by omega)
      omega
    have hb := turn_conv T W4 W1.heap.size J ((T.data.getD J 0).toNat ^^^ d) cap (by omega) hy8 Hc.out
    rw [hT] at hb
    have Hd := Lib.hid (show dmg T m d = ⟨(T.data.toList.set J (UInt8.ofNat ((T.data.getD J 0).toNat ^^^ d))).toArray⟩ from by unfold dmg; rw [if_pos (by omega), show T.size - 1 = J from by omega])
    have wJ : IntKind.i64.wrap ((N : Int) - 1) = (J : Int) := by rw [IntWalk.i64_in _ (by omega)]; omega
    have jN : (J : Int) < (N : Int) := by omega
    have i0 : (s.syn : Int) < (N : Int) := by have := Hn.out; omega
    generalize T.data.toList.set J (UInt8.ofNat ((T.data.getD J 0).toNat ^^^ d)) = L at *
    generalize (T.data.getD J 0).toNat ^^^ d = y at *
    generalize (T.data.getD J 0).toNat = x at *
    have hne : ¬ b = W1.heap.size := by omega
    have H5 : ModelAt (W4.setCell ⟨W1.heap.size, J, none⟩ (.int .u8 (y : Int))) b s := (setCell_far W4 W1.heap.size J b _ (by omega)).trans H4.out
    have T5 : Touch b none w (W4.setCell ⟨W1.heap.size, J, none⟩ (.int .u8 (y : Int))) :=
      ⟨T4.out.os, T4.out.tape, T4.out.output, by show w.heap.size ≤ (W4.heap.modify _ _).size; rw [Array.size_modify]; exact T4.out.size, fun k hk h1 h2 => (setCell_far W4 W1.heap.size J k _ (by omega)).trans (T4.out.block k hk h1 h2)⟩
    have G5 := Lib.hid H5
    have U5 := Lib.hid T5
    clear H5 T5 hm0
    go_wp2_with fail
    go_end0
    rw [Hd.out]
    exact ⟨⟨_, rfl⟩, G5.out.set0123 _ N (-1) false, (((U5.out.setCell 0 _).setCell 1 _).setCell 2 _).setCell 3 _⟩
end Go.Proofs.Ythfnpakddnnccaa
