/- Restart of the journal's file. -/
import Derived.Test.YthfnpakddnnccaaFile3
import Derived.Deep.RegionWith
namespace Go.Proofs.Ythfnpakddnnccaa
open Go.RowKit
set_option linter.unusedVariables false

def dmg (t : ByteArray) (m d : Nat) : ByteArray := if 0 < m then ⟨(t.data.toList.set (t.size - 1) (UInt8.ofNat ((t.data.getD (t.size - 1) 0).toNat ^^^ d))).toArray⟩ else t
def fRestart (keep : Int) (d : Nat) (s : FS) : FS × Int :=
  if s.down = false then (s, 10) else if keep < 0 then (s, 2)
  else ({ bytes := dmg (s.bytes.extract 0 (s.syn + min keep.toNat (s.bytes.size - s.syn))) (min keep.toNat (s.bytes.size - s.syn)) d, syn := s.syn + min keep.toNat (s.bytes.size - s.syn), lim := -1, down := false }, 0)

theorem FileAt.set123 {base : Nat} {w : World} {b : Nat} {v : Value} {s : FS} (h : FileAt base w b v s) (x : Nat) (y : Int) (z : Bool) :
    FileAt base (((w.setCell ⟨b, 1, none⟩ (.int .i64 (x : Int))).setCell ⟨b, 2, none⟩ (.int .i64 y)).setCell ⟨b, 3, none⟩ (.bool z)) b v ⟨s.bytes, x, y, z⟩ :=
  have h1 : FileAt base (w.setCell ⟨b, 1, none⟩ (.int .i64 (x : Int))) b v { s with syn := x } := h.set 1 _ rfl rfl
  have h2 : FileAt base ((w.setCell ⟨b, 1, none⟩ (.int .i64 (x : Int))).setCell ⟨b, 2, none⟩ (.int .i64 y)) b v { s with syn := x, lim := y } := h1.set 2 _ rfl rfl
  h2.set 3 _ rfl rfl
theorem row_last {base N c : Nat} {A : Option Addr} {w : World} {T : ByteArray} (h : w.ownsRow base 5 1 (.slice A N c) T.size (Lib.strCells T)) (hN : T.size = N) (hpos : 0 < N) :
    ∃ g, A = some ⟨g, 0, none⟩ ∧ N ≤ c ∧ (∀ j, j < N → w.cell? ⟨g, j, none⟩ = some (.int .u8 ((T.data.getD j 0).toNat : Int))) ∧ (∀ j, w.frozen? ⟨g, j, none⟩ = false) ∧
      (∀ k y : Nat, k < N → y < 256 → (w.setCell ⟨g, k, none⟩ (.int .u8 (y : Int))).ownsRow base 5 1 (.slice A N c) T.size (Lib.strCells ⟨(T.data.toList.set k (UInt8.ofNat y)).toArray⟩)) := by
  subst hN
  rcases h.2 with ⟨hv, hz⟩ | ⟨g, cap, cur, hv, hg, hh, hc, hm, hs, ht⟩
  · omega
  · cases hv
    rw [Nat.mul_one] at hs ht
    have hcell : ∀ j, j < T.size → cur[j]? = some (.int .u8 ((T.data.getD j 0).toNat : Int)) := by
      intro j hj
      have e1 : (Lib.strCells T)[j]? = some (.int .u8 ((T.data.getD j 0).toNat : Int)) := by
        unfold Lib.strCells
        have hj' : j < T.data.toList.length := hj
        rw [List.getElem?_map, List.getElem?_eq_getElem hj', Array.getD_eq_getD_getElem?, Array.getElem?_eq_getElem hj]
        rfl
      rw [← ht, List.getElem?_take, if_pos hj] at e1
      simpa using e1
    refine ⟨g, rfl, hc, fun j hj => ?_, fun j => ?_, fun k y hk hy => ?_⟩
    · rw [cell_of_row w g j cur 5 (0, 0) hh]; exact hcell j hj
    · simp [World.frozen?, hh]
    · refine ⟨?_, .inr ⟨g, c, cur.setIfInBounds k (.int .u8 (y : Int)), rfl, hg, heap_setCell hh k _, hc, hm, ?_, ?_⟩⟩
      · rw [Lib.strCells_length]
        show (T.data.toList.set k (UInt8.ofNat y)).toArray.size = _
        rw [List.size_toArray, List.length_set]
        exact (Nat.mul_one _).symm
      · rw [Array.size_setIfInBounds, Nat.mul_one]; exact hs
      · rw [Nat.mul_one, Array.toList_setIfInBounds, List.take_set, ht]
        unfold Lib.strCells
        show _ = (T.data.toList.set k (UInt8.ofNat y)).map _
        rw [List.map_set, UInt8.toNat_ofNat', Nat.mod_eq_of_lt (by omega)]

set_option maxHeartbeats 2000000 in
theorem restart_any (base b : Nat) (v : Value) (s : FS) (keep : Int) (d : Nat) (w : World) (h : FileAt base w b v s) (hd8 : d < 256) (hsz : s.bytes.size ≤ 16777216) (hsyn : s.syn ≤ s.bytes.size) (hbase : base ≤ w.heap.size) :
    Calls Try.prog 31 #[.pointer (some ⟨b, 0, none⟩), .int .i64 keep, .int .u8 (d : Int)] w fun e w' => e = .returned (.int .i64 (fRestart keep d s).2) ∧ ∃ v', FileAt base w' b v' (fRestart keep d s).1 ∧ Touch b none w w' := by
  unfold fRestart
  have Cs := Lib.hid h.cells
  by_cases hd : s.down = false
  · rw [if_pos hd]
    obtain ⟨c0, c1, c2, c3, fr, hlt⟩ := Cs.out
    rw [hd] at c3
    clear hd
    go_enter Try.func31, Try.ntmps31
    go_wp2
    go_returns
    exact ⟨rfl, _, h, Touch.refl _ _ _⟩
  rw [if_neg hd]
  have hdt : s.down = true := by simpa using hd
  obtain ⟨c0, c1, c2, c3, fr, hlt⟩ := Cs.out
  rw [hdt] at c3
  clear hd hdt
  by_cases hk : keep < 0
  · rw [if_pos hk]
    go_enter Try.func31, Try.ntmps31
    go_wp2
    go_returns
    exact ⟨rfl, _, h, Touch.refl _ _ _⟩
  rw [if_neg hk]
  obtain ⟨k, rfl⟩ : ∃ k : Nat, keep = (k : Int) := ⟨keep.toNat, by omega⟩
  rw [Int.toNat_natCast]
  obtain ⟨A, c, hv, hc1, hc2, hnil, hrd⟩ := h.reads
  subst hv
  obtain ⟨m, hm⟩ : ∃ m : Nat, m = min k (s.bytes.size - s.syn) := ⟨_, rfl⟩
  rw [← hm]
  have f0 := fr 0
  have f1 := fr 1
  have f2 := fr 2
  have f3 := fr 3
  have wsub : IntKind.i64.wrap ((s.bytes.size : Int) - (s.syn : Int)) = (s.bytes.size : Int) - (s.syn : Int) := IntWalk.i64_in _ (by omega)
  go_enter Try.func31, Try.ntmps31
  go_wp2_with fail
  go_region
  have hif : (if (s.bytes.size : Int) - (s.syn : Int) < (k : Int) then (s.bytes.size : Int) - (s.syn : Int) else (k : Int)) = (m : Int) := by split <;> omega
  rw [hif]
  clear hif
  have h1 : FileAt base w.drew b (.slice A s.bytes.size c) s := h.below (Below.refl _ _).drew
  have t1 : Touch b none w w.drew := Touch.ofBelow (Below.refl _ _).drew
  have hbase1 : base ≤ w.drew.heap.size := hbase
  generalize w.drew = W1 at *
  clear c0 c1 c2 c3 fr hlt f0 f1 f2 f3 hrd hnil wsub
  obtain ⟨c0, c1, c2, c3, fr, hlt⟩ := h1.cells
  obtain ⟨_, _, _, hnil, hrd⟩ := h1.reads1
  have f0 := fr 0
  have hn : s.syn + m ≤ s.bytes.size := by omega
  have htk := strCells_take s.bytes (s.syn + m) hn
  have cc : ∀ w, Below W1.heap.size W1 w → Calls Try.prog 54 #[.slice A (s.syn + m) c] w fun e w' => ∃ A' c', e = .returned (.slice A' (s.syn + m) c') ∧ w'.ownsRow base 5 1 (.slice A' (s.syn + m) c') (s.bytes.extract 0 (s.syn + m)).size (Lib.strCells (s.bytes.extract 0 (s.syn + m))) ∧ Below W1.heap.size W1 w' ∧ w'.cell? ⟨b, 0, none⟩ = some (.slice A s.bytes.size c) ∧ w'.frozen? ⟨b, 0, none⟩ = false ∧ (∀ k, (Value.slice A' (s.syn + m) c').ownBlock = some k → W1.heap.size ≤ k) := fun w hB =>
    (clone_any A (s.syn + m) c ((Lib.strCells s.bytes).take (s.syn + m)) w (by rw [List.length_take, Lib.strCells_length]; omega) (fun e => by have := hnil e; omega) (rd_below (rd_take hrd _) hB) (fun u hu => cells_one _ u (List.mem_of_mem_take hu)) (by omega)).mono fun e w' ⟨v', he, hown, hb⟩ => by
      obtain ⟨A', c', rfl⟩ := row_form hown
      have hB2 : Below W1.heap.size W1 w' := hB.trans (hb.mono hB.size)
      refine ⟨A', c', he, ?_, hB2, (hB2.cell (p := ⟨b, 0, none⟩) hlt).trans c0, (hB2.frozen (p := ⟨b, 0, none⟩) hlt).trans f0, fun k hk => Nat.le_trans hB.size (hown.lt k hk).1⟩
      rw [htk.2, ← htk.1]
      exact row_base hown (Nat.le_trans hbase1 hB.size)
  have wadd : IntKind.i64.wrap ((s.syn : Int) + (m : Int)) = ((s.syn + m : Nat) : Int) := by rw [IntWalk.i64_in _ (by omega)]; omega
  have hle : ((s.syn + m : Nat) : Int) ≤ (c : Int) := by omega
  have H1 := Lib.hid h1
  have T1 := Lib.hid t1
  have CC := Lib.hid cc
  have Hm := Lib.hid hm
  have Ht := Lib.hid htk.2
  clear h1 t1 cc hm htk hrd hnil h Cs
  generalize hN : s.syn + m = N at *
  have HN := Lib.hid hN
  clear hN
  go_wp2_with fail
  go_region_with (go_at_call 54; refine (CC.out _ (by go_grown)).mono ?_; rintro e w3 ⟨A', c', rfl, hown, B3, k0, q0, fsh⟩)
  all_goals
    have h3 : FileAt base w3 b (.slice A s.bytes.size c) s := H1.out.below B3
    have h4 := h3.row0 hown
    have t4 : Touch b none w (w3.setCell ⟨b, 0, none⟩ (.slice A' N c')) := (T1.out.trans (Touch.ofBelow B3)).setCell 0 _
    have ht := Ht.out
    have hfsh : ∀ k, (Value.slice A' N c').ownBlock = some k → w.heap.size ≤ k := fun k hk => Nat.le_trans T1.out.size (fsh k hk)
    clear fsh
    generalize hT : s.bytes.extract 0 N = T at *
    have HT := Lib.hid hT
    clear hT
    generalize w3.setCell ⟨b, 0, none⟩ (.slice A' N c') = W4 at *
    clear h3 hown B3 k0 q0 c0 c1 c2 c3 fr hlt f0 H1 T1 CC Ht
    by_cases hm0 : m = 0
    · obtain ⟨c0, c1, c2, c3, fr, hlt⟩ := h4.cells
      have f1 := fr 1
      have f2 := fr 2
      have f3 := fr 3
      have i0 : ¬ (0 : Int) < (m : Int) := by omega
      have H4 := Lib.hid h4
      have T4 := Lib.hid t4
      have Hd := Lib.hid (show dmg T m d = T from by unfold dmg; rw [if_neg (by omega)])
      clear h4 t4 fr hm0
      go_wp2_with fail
      go_returns
      rw [HN.out, HT.out, Hd.out]
      exact ⟨rfl, ⟨_, H4.out.set123 N (-1) false⟩, ((T4.out.setCell 1 _).setCell 2 _).setCell 3 _⟩
    · obtain ⟨c0, c1, c2, c3, fr, hlt⟩ := h4.cells
      have hpos : 0 < N := by have := HN.out; omega
      obtain ⟨g, rfl, hNc, hcell, hfro, hset⟩ := row_last h4.row ht hpos
      have hgw := hfsh g rfl
      have hgb := row_ne h4.blk h4.row g rfl
      clear hfsh
      obtain ⟨J, hJ⟩ : ∃ J, J + 1 = N := ⟨N - 1, by omega⟩
      have ck := hcell J (by omega)
      have fk := hfro J
      have hx8 : (T.data.getD J 0).toNat < 256 := UInt8.toNat_lt _
      have hbx : bits .xor .u8 ((T.data.getD J 0).toNat : Int) (d : Int) = (((T.data.getD J 0).toNat ^^^ d : Nat) : Int) := u8_xor_nat _ d hx8 hd8
      have hy8 : (T.data.getD J 0).toNat ^^^ d < 256 := by
        have := Nat.xor_lt_two_pow (x := (T.data.getD J 0).toNat) (y := d) (n := 8) hx8 (by omega)
        omega
      have Hset := Lib.hid (hset J ((T.data.getD J 0).toNat ^^^ d) (by omega) hy8)
      have wJ : IntKind.i64.wrap ((N : Int) - 1) = (J : Int) := by rw [IntWalk.i64_in _ (by omega)]; omega
      have jN : (J : Int) < (N : Int) := by omega
      have Hd := Lib.hid (show dmg T m d = ⟨(T.data.toList.set J (UInt8.ofNat ((T.data.getD J 0).toNat ^^^ d))).toArray⟩ from by unfold dmg; rw [if_pos (by omega), show T.size - 1 = J from by omega])
      have i0 : (0 : Int) < (m : Int) := by omega
      have H4 := Lib.hid h4
      have T4 := Lib.hid t4
      generalize (T.data.getD J 0).toNat ^^^ d = y at *
      generalize (T.data.getD J 0).toNat = x at *
      clear h4 t4 fr hm0 hcell hfro hset hx8
      go_wp2_with fail
      go_region
      have hsz' : (⟨(T.data.toList.set J (UInt8.ofNat y)).toArray⟩ : ByteArray).size = T.size := by
        show (T.data.toList.set J (UInt8.ofNat y)).toArray.size = _
        rw [List.size_toArray, List.length_set]
        rfl
      have h5 : FileAt base (W4.setCell ⟨g, J, none⟩ (.int .u8 (y : Int))).drew b (.slice (some ⟨g, 0, none⟩) N c') { s with bytes := ⟨(T.data.toList.set J (UInt8.ofNat y)).toArray⟩ } :=
        ⟨by show (W4.setCell ⟨g, J, none⟩ (.int .u8 (y : Int))).drew.ownsRow base 5 1 _ (⟨(T.data.toList.set J (UInt8.ofNat y)).toArray⟩ : ByteArray).size _
            rw [hsz']; exact Hset.out, (setCell_far W4 g J b _ (fun e => hgb e.symm)).trans H4.out.blk, H4.out.ge⟩
      have t5 : Touch b none w (W4.setCell ⟨g, J, none⟩ (.int .u8 (y : Int))).drew :=
        ⟨T4.out.os, T4.out.tape, T4.out.output, by show w.heap.size ≤ (W4.heap.modify g _).size; rw [Array.size_modify]; exact T4.out.size, fun k hk h1 h2 => (setCell_far W4 g J k _ (by omega)).trans (T4.out.block k hk h1 h2)⟩
      generalize (W4.setCell ⟨g, J, none⟩ (.int .u8 (y : Int))).drew = W5 at *
      clear c0 c1 c2 c3 hlt ck fk H4 T4 Hset hsz'
      obtain ⟨c0, c1, c2, c3, fr, hlt⟩ := h5.cells
      have f1 := fr 1
      have f2 := fr 2
      have f3 := fr 3
      have H5 := Lib.hid h5
      have T5 := Lib.hid t5
      clear h5 t5 fr
      go_wp2_with fail
      go_returns
      rw [HN.out, HT.out, Hd.out]
      exact ⟨rfl, ⟨_, H5.out.set123 N (-1) false⟩, ((T5.out.setCell 1 _).setCell 2 _).setCell 3 _⟩
end Go.Proofs.Ythfnpakddnnccaa
