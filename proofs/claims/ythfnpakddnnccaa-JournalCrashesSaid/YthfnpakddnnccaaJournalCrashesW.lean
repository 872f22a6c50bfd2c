/- The walk of hemiola/hemiolalaw52.JournalCrashes: it returns true, and writes nothing that was there. -/
import Derived.Test.YthfnpakddnnccaaJw2
import Derived.Test.YthfnpakddnnccaaOpenJ
import Derived.OpenShut
namespace Go.Proofs.Ythfnpakddnnccaa
open Go.RowKit
set_option linter.unusedVariables false
/-- Append to a file that another journal has cut: the number, no error. -/
theorem jw_append_alive (B : Nat) (w : World) (J f : Nat) (rs : List ByteArray) (b : ByteArray) (syn : Nat) (r : ByteArray) (W : World) (h : JX B w J f (jst rs false) ⟨b, syn, -1, false⟩ W)
    (hn : rs.length ≤ 64) (hr0 : r.size ≤ 40) (hb : b.size ≤ 1048576) :
    Calls Try.prog 27 #[.pointer (some ⟨J, 0, none⟩), .string r] W fun e W' => e = .returned (.tuple #[.int .i64 (rs.length : Int), .int .i64 0]) ∧ Below B w W' := by
  obtain ⟨v1, v2, v, h1, h2, h3, h4⟩ := h
  have hA : (fAppend (encS rs.length r) ⟨b, syn, -1, false⟩).2 = 0 := by
    unfold fAppend
    rw [if_neg Bool.false_ne_true, if_neg (by show ¬ ((-1 : Int) = 0); decide)]
  have hc := jappend_ok B J f v1 v2 v (jst rs false) ⟨b, syn, -1, false⟩ r W h1 h2 h4 rfl (by omega) (by show rs.length ≤ 65536; omega) (by rw [jst_len]; show rs.length ≤ 65536; omega) (by show (-1 : Int) ≤ -1; decide) (by show (-1 : Int) < 9223372036854775808; decide)
    (by show b.size + (12 + r.size) ≤ 16777216; omega) hA
  refine hc.mono ?_
  rintro e W' ⟨rfl, v1', v2', v', g1, g2, g3⟩
  exact ⟨rfl, h3.trans g3⟩
theorem crash_same (L : List ByteArray) (m b : Nat) (hmb : m ≤ b) (hb : b ≤ L.length) (hL : L.length ≤ 64) (A A1 : Option Addr) (c c1 : Nat) (W : World) (h1 : Rd W W.heap.size A (recsV ((L.take b).take m))) (h2 : Rd W W.heap.size A1 (recsV L)) :
    Calls Try.prog 33 #[.slice A m c, .slice A1 m c1] W fun e W' => e = .returned (.bool true) ∧ Below W.heap.size W W' := by
  rw [List.take_take, Nat.min_eq_left hmb] at h1
  have h3 := rd_take h2 m
  rw [show (recsV L).take m = recsV (L.take m) from by unfold recsV; rw [List.map_take]] at h3
  have hl : (L.take m).length = m := by rw [List.length_take]; omega
  have := same_any A A1 c c1 (L.take m) (L.take m) W h1 h3 (by omega) (by omega)
  rw [hl] at this
  rwa [decide_eq_true rfl] at this
set_option maxRecDepth 100000 in
set_option maxHeartbeats 16000000 in
theorem walkJournalCrashes {w : World} (A : Option Addr) (c : Nat) (l : List ByteArray) (hc : l.length ≤ c) (hcm : c ≤ maxLen) (hrd : Rd w w.heap.size A (l.map Value.string)) (hs : ∀ s ∈ l, s.size ≤ maxLen) (A2 : Option Addr) (c2 : Nat) (bs : List Bool) (hb : bs.length ≤ c2) (hbm : c2 ≤ maxLen) (hrb : Rd w w.heap.size A2 (bs.map Value.bool)) (hbt : ∀ x ∈ bs, True) (la ke da : Nat) (hla : la < 256) (hke : ke < 256) (hda : da < 256) (_w : World) :
    Calls Try.prog 7 #[.slice A l.length c, .slice A2 bs.length c2, .agg #[.int .u8 (la : Int), .int .u8 (ke : Int), .int .u8 (da : Int)]] w fun e w' => e = .returned (.bool true) ∧ Below w.heap.size w w' := by
  have hb0 : Below w.heap.size w (w.alloc (.cells #[.int .u8 (la : Int), .int .u8 (ke : Int), .int .u8 (da : Int)] 41)) := (Below.refl _ w).alloc (Nat.le_refl _) _
  have cc := cut_any A c l _ hc hcm (rd_below hrd hb0) hs
  have hL := cutL_len l
  have hLs := Lib.hid (cutL_small l)
  generalize cutL l = L at *
  have hbn : bs.length ≤ 9223372036854775807 := by unfold maxLen at hbm; omega
  have Hrb := Lib.hid (rd_below hrb hb0)
  obtain ⟨x0, x1, x2⟩ := later_box3 w (.int .u8 (la : Int)) (.int .u8 (ke : Int)) (.int .u8 (da : Int)) 41
  have Hx := Lib.hid (And.intro x0 (And.intro x1 x2))
  have hsz0 : (w.alloc (.cells #[.int .u8 (la : Int), .int .u8 (ke : Int), .int .u8 (da : Int)] 41)).heap.size = w.heap.size + 1 := by simp
  have Hsz0 := Lib.hid hsz0
  have Hb0 := Lib.hid hb0
  obtain ⟨N, hN⟩ : ∃ N, N = la % 50 := ⟨_, rfl⟩
  have w2 : ((la : Nat) : Int).tmod 50 = (N : Int) := by rw [Int.tmod_eq_emod_of_nonneg (by omega), hN]; rfl
  have hN50 : N < 50 := by omega
  clear hrd hs hrb hbt x0 x1 x2 hsz0 hb0 hN
  go_enter Try.func7, Try.ntmps7
  go_wp2_with fail
  refine cc.mono ?_
  rintro e wa ⟨v, rfl, hacc⟩
  obtain ⟨A1, c1, rfl, hc1, hc1m, hrdL⟩ := acc_form hacc
  have Ba := hacc.below
  have HrdL := Lib.hid hrdL
  clear cc hacc hrdL
  go_wp2_with fail
  refine (known_any _).mono ?_
  rintro e wb ⟨rfl, Bb⟩
  have HrdL := Lib.hid (rd_below HrdL.out Bb)
  have Bw1 := Ba.trans (Bb.mono Ba.size)
  have Hrb := Lib.hid (rd_below Hrb.out Bw1)
  obtain ⟨x0, x1, x2⟩ := Hx.out
  have y0 := x0 ⟨wb, Bw1⟩
  have y1 := x1 ⟨wb, Bw1⟩
  have y2 := x2 ⟨wb, Bw1⟩
  have hBlt : w.heap.size < wb.heap.size := by have := Bw1.size; rw [Hsz0.out] at this; omega
  have hgb : ∀ W, Below wb.heap.size wb W → W.cell? ⟨w.heap.size, 0, none⟩ = some (.int .u8 (la : Int)) ∧ W.cell? ⟨w.heap.size, 1, none⟩ = some (.int .u8 (ke : Int)) ∧ W.cell? ⟨w.heap.size, 2, none⟩ = some (.int .u8 (da : Int)) := fun W hW =>
    ⟨(hW.cell (p := ⟨w.heap.size, 0, none⟩) hBlt).trans y0, (hW.cell (p := ⟨w.heap.size, 1, none⟩) hBlt).trans y1, (hW.cell (p := ⟨w.heap.size, 2, none⟩) hBlt).trans y2⟩
  have Hgb := Lib.hid hgb
  have Bw : Below w.heap.size w wb := Hb0.out.trans (Bw1.mono Hb0.out.size)
  clear Ba Bb Bw1 x0 x1 x2 y0 y1 y2 hgb Hx Hb0 Hsz0
  go_wp2_with fail
  refine (newfile_any _).mono ?_
  rintro e wc ⟨rfl, hF, Bc, hz⟩
  have co := jw_new wb wc hF Bc
  clear hF hz
  go_wp2_with fail
  refine co.mono ?_
  rintro e wd ⟨rfl, hX⟩
  have HX := Lib.hid hX
  generalize hJ : wc.heap.size = J at *
  have cli := jw_limit wb.heap.size wb J wb.heap.size _ _ _ _ _ (N : Int) wd hX
  rw [show max (N : Int) (-1) = (N : Int) from by omega] at cli
  obtain ⟨z0, z1, z2⟩ := Hgb.out wd hX.below
  clear co hX hJ Bc z1 z2
  go_wp2_with fail
  refine cli.mono ?_
  rintro e we ⟨⟨er, rfl⟩, hX⟩
  have HX := Lib.hid hX
  clear cli hX z0
  go_wp2_with fail
  go_loopw [10, 11] (fun tr i wr => ∃ k m : Nat, k ≤ L.length ∧ m ≤ k ∧ i = .int .i64 (k : Int) ∧ tr = .int .i64 (k : Int) ∧
      Hid ((∃ q : Nat, q < 50 ∧ JX wb.heap.size wb J wb.heap.size (jst (L.take k) false) ⟨catR 0 (L.take k), (catR 0 (L.take m)).size, (q : Int), false⟩ wr) ∨
        (JX wb.heap.size wb J wb.heap.size (jst (L.take k) true) ⟨catR 0 (L.take k), (catR 0 (L.take m)).size, 0, true⟩ wr))) (fun _ i _ => L.length - (intOf i).toNat)
  case atStart => exact ⟨0, 0, by omega, by omega, rfl, rfl, Lib.hid (.inl ⟨N, hN50, HX.out⟩)⟩
  case round =>
    clear HX
    obtain ⟨k, m, hk, hm, rfl, rfl, HS⟩ := hrel
    have hln : (L.take k).length = k := by rw [List.length_take]; omega
    have e2 : IntKind.i64.wrap ((k : Int) + 1) = (k : Int) + 1 := IntWalk.i64_in _ (by omega)
    have k0 : (0 : Int) ≤ (k : Int) := by omega
    rcases HS.out with ⟨q, hq, hX⟩ | hX
    · have HX := Lib.hid hX
      have cdn := jw_down wb.heap.size wb J wb.heap.size _ _ wr hX
      dsimp only at cdn
      clear HS hX
      by_cases hlt : k < L.length
      · have k1 : decide ((k : Int) < (L.length : Int)) = true := decide_eq_true (by omega)
        have k2 : (k : Int) < (L.length : Int) := by omega
        obtain ⟨b, off, rfl, hlb, hcell⟩ := rd_pos HrdL.out (by rw [recsV, List.length_map]; omega)
        have c0 := (HX.out.below.cell (p := ⟨b, off + k, none⟩) hlb).trans (hcell k (.string (L.getD k ByteArray.empty)) (by simp [recsV, hlt]))
        have hr40 : (L.getD k ByteArray.empty).size ≤ 40 := by
          have := hLs.out _ (List.getElem_mem hlt)
          simpa [hlt] using this
        have hts := Lib.hid (take_snoc hlt)
        clear hcell
        generalize hx : L.getD k ByteArray.empty = x at *
        clear hx
        go_wp2_with fail
        refine cdn.mono ?_
        rintro e w2 ⟨rfl, rfl⟩
        clear cdn
        rcases Nat.eq_zero_or_pos q with hq0 | hq0
        · have hX2 := HX.out
          rw [hq0] at hX2
          have ca := jw_append_down wb.heap.size wb J wb.heap.size (L.take k) _ x _ hX2 (by omega) (fun q hq => hLs.out q (List.mem_of_mem_take hq)) hr40
          rw [hts.out] at ca
          clear hX2 hq0 hq
          go_wp2_with fail
          refine ca.mono ?_
          rintro e w3 ⟨rfl, hX3⟩
          have HX3 := Lib.hid hX3
          clear ca hX3 c0 HX
          -- the append has failed
          have hma : m ≤ k := by omega
          have hbL : k + 1 ≤ L.length := by omega
          have hla2 : (L.take (k)).length = k := by rw [List.length_take]; omega
          have hlb2 : (L.take (k + 1)).length = k + 1 := by rw [List.length_take]; omega
          have cd := jw_dur wb.heap.size wb J wb.heap.size (L.take (k)) true _ m _ HX3.out (by omega) (by omega) (by show _ = _; rw [List.take_take, Nat.min_eq_left hma])
          go_wp2_with fail
          refine cd.mono ?_
          rintro e t1 ⟨rfl, ht1⟩
          have HX := Lib.hid (HX3.out.later ht1)
          have cdn := jw_down wb.heap.size wb J wb.heap.size _ _ t1 HX.out
          dsimp only at cdn
          have cf := jw_fail wb.heap.size wb J wb.heap.size _ _ _ _ _ t1 HX.out
          clear cd ht1
          go_wp2_with fail
          refine cdn.mono ?_
          rintro e t1 ⟨rfl, rfl⟩
          go_wp2_with fail
          refine cf.mono ?_
          rintro e t2 ⟨⟨er2, rfl⟩, hX⟩
          have hX' := hX
          rw [show (catR 0 (L.take m)).size = (catR 0 ((L.take (k + 1)).take m)).size from by rw [List.take_take, Nat.min_eq_left (by omega)]] at hX'
          have crs := jw_restart wb.heap.size wb J wb.heap.size _ (L.take (k + 1)) m _ ke da t2 hX' hda (by omega) (by omega) (fun q hq => hLs.out q (List.mem_of_mem_take hq))
          obtain ⟨z0, z1, z2⟩ := Hgb.out t2 hX.below
          clear cdn cf hX hX' z0 HX
          go_wp2_with fail
          refine crs.mono ?_
          rintro e t3 ⟨rfl, D, syn', m', hX, hmm, hmb, hDs, hsc, hxx⟩
          have cop := jw_reopen wb.heap.size wb.heap.size wb J _ _ D syn' t3 hX hDs hsc hxx
          rw [hlb2] at hmb
          have hlm : ((L.take (k + 1)).take m').length = m' := by rw [List.length_take]; omega
          clear crs z1 z2 hX hsc hxx hDs
          go_wp2_with fail
          refine cop.mono ?_
          rintro e t4 ⟨rfl, hXn, hXo⟩
          have HXn := Lib.hid hXn
          have HXo := Lib.hid hXo
          generalize t3.heap.size = K at *
          have cln := jw_len wb.heap.size wb K wb.heap.size _ false _ t4 hXn
          rw [hlm] at cln
          clear cop hXn hXo
          have i1 : ¬ (m' : Int) < (m : Int) := by omega
          have i1' : decide ((m' : Int) < (m : Int)) = false := decide_eq_false i1
          have i2 : (m' : Int) ≤ ((k + 1 : Nat) : Int) := by omega
          have i2' : decide (((k + 1 : Nat) : Int) < (m' : Int)) = false := decide_eq_false (by omega)
          rw [show ((k + 1 : Nat) : Int) = (k : Int) + 1 from by omega] at i2 i2'
          go_wp2_with fail
          refine cln.mono ?_
          rintro e t5 ⟨rfl, hb5⟩
          have HXn := Lib.hid (HXn.out.later hb5)
          have HXo := Lib.hid (HXo.out.later hb5)
          have cln := jw_len wb.heap.size wb K wb.heap.size _ false _ t5 HXn.out
          rw [hlm] at cln
          clear hb5
          go_wp2_with fail
          refine cln.mono ?_
          rintro e t6 ⟨rfl, hb6⟩
          have HXn := Lib.hid (HXn.out.later hb6)
          have HXo := Lib.hid (HXo.out.later hb6)
          have cal := jw_all wb.heap.size wb K wb.heap.size _ false _ t6 HXn.out (by omega)
          rw [hlm] at cal
          clear hb6 cln
          go_wp2_with fail
          refine cal.mono ?_
          rintro e t7 ⟨⟨A7, c7, rfl, _, _, hr7, _⟩, hb7⟩
          have HXn := Lib.hid (HXn.out.later hb7)
          have HXo := Lib.hid (HXo.out.later hb7)
          have Hr7 := Lib.hid hr7
          have cln := jw_len wb.heap.size wb K wb.heap.size _ false _ t7 HXn.out
          rw [hlm] at cln
          clear hb7 cal hr7
          go_wp2_with fail
          refine cln.mono ?_
          rintro e t8 ⟨rfl, hb8⟩
          have HXn := Lib.hid (HXn.out.later hb8)
          have HXo := Lib.hid (HXo.out.later hb8)
          have csm := crash_same L m' (k + 1) hmb hbL (by omega) A7 (some ⟨b, off, none⟩) c7 c1 t8 (rd_below Hr7.out hb8) (HXn.out.rd HrdL.out)
          have j0 : (0 : Int) ≤ (m' : Int) := by omega
          have j1 : (m' : Int) ≤ (c1 : Int) := by omega
          clear cln hb8 Hr7
          go_wp2_with fail
          refine csm.mono ?_
          rintro e t9 ⟨rfl, hb9⟩
          have HXn := Lib.hid (HXn.out.later hb9)
          have HXo := Lib.hid (HXo.out.later hb9)
          have cdr := jw_dur wb.heap.size wb K wb.heap.size _ false _ m' t9 HXn.out (by omega) (by omega) (congrArg (fun y => (catR 0 y).size) (List.take_of_length_le (Nat.le_of_eq hlm)).symm)
          clear csm hb9
          go_wp2_with fail
          refine cdr.mono ?_
          rintro e t10 ⟨rfl, hb10⟩
          have HXn := Lib.hid (HXn.out.later hb10)
          have HXo := Lib.hid (HXo.out.later hb10)
          have cln := jw_len wb.heap.size wb K wb.heap.size _ false _ t10 HXn.out
          rw [hlm] at cln
          clear cdr hb10
          go_wp2_with fail
          refine cln.mono ?_
          rintro e t11 ⟨rfl, hb11⟩
          have HXo := Lib.hid (HXo.out.later hb11)
          have cap := jw_append_dead wb.heap.size wb J wb.heap.size _ _ ⟨#[120]⟩ t11 HXo.out
          clear cln hb11 HXn
          go_wp2_with fail
          refine cap.mono ?_
          rintro e t12 ⟨rfl, hX12⟩
          have csd := jw_sync_dead wb.heap.size wb J wb.heap.size _ _ t12 hX12
          clear cap hX12 HXo
          go_wp2_with fail
          refine csd.mono ?_
          rintro e t13 ⟨rfl, hX13⟩
          have hb := hX13.below
          clear hX13 csd
          go_wp2_with fail
          go_returns
          exact ⟨rfl, Bw.trans (hb.mono Bw.size)⟩
        · have ca := jw_append wb.heap.size wb J wb.heap.size (L.take k) _ (q : Int) x _ HX.out (by omega) (by omega) (by omega) (by omega) (fun q hq => hLs.out q (List.mem_of_mem_take hq)) hr40
          rw [hts.out, hln] at ca
          obtain ⟨p, hp⟩ : ∃ p : Nat, p + 1 = q := ⟨q - 1, by omega⟩
          rw [show max ((q : Int) - 1) (-1) = (p : Int) from by omega] at ca
          clear hq0
          go_wp2_with fail
          refine ca.mono ?_
          rintro e w3 ⟨rfl, hX3⟩
          have HX3 := Lib.hid hX3
          clear ca hX3 c0 HX
          by_cases hbk : k < bs.length
          · have k3 : decide ((k : Int) < (bs.length : Int)) = true := decide_eq_true (by omega)
            have k4 : (k : Int) < (bs.length : Int) := by omega
            obtain ⟨b2, off2, rfl, hlb2, hcell2⟩ := rd_pos Hrb.out (by rw [List.length_map]; omega)
            have c0 := (HX3.out.below.cell (p := ⟨b2, off2 + k, none⟩) hlb2).trans (hcell2 k (.bool (bs.getD k false)) (by simp [hbk]))
            clear hcell2
            cases hv : bs.getD k false
            · rw [hv] at c0
              go_wp2_with fail
              go_roundw
              case rel => exact ⟨k + 1, m, by omega, by omega, by go_num, by go_num, Lib.hid (.inl ⟨p, by omega, HX3.out⟩)⟩
              case measure => simp [intOf]; omega
            · rw [hv] at c0
              rcases Nat.eq_zero_or_pos p with hp0 | hp0
              · have hX4 := HX3.out
                rw [hp0] at hX4
                have cs := jw_sync_down wb.heap.size wb J wb.heap.size (L.take (k + 1)) (L.take (k + 1)) _ w3 hX4
                clear hX4 hp0
                go_wp2_with fail
                refine cs.mono ?_
                rintro e w4 ⟨rfl, hX4⟩
                have HX4 := Lib.hid hX4
                clear cs hX4 c0
                go_wp2_with fail
                go_roundw
                case rel => exact ⟨k + 1, m, by omega, by omega, by go_num, by go_num, Lib.hid (.inr HX4.out)⟩
                case measure => simp [intOf]; omega
              · have cs := jw_sync wb.heap.size wb J wb.heap.size (L.take (k + 1)) (L.take (k + 1)) _ (p : Int) w3 HX3.out (by omega) (by omega) (by omega)
                obtain ⟨p', hp'⟩ : ∃ p' : Nat, p' + 1 = p := ⟨p - 1, by omega⟩
                rw [show max ((p : Int) - 1) (-1) = (p' : Int) from by omega] at cs
                clear hp0
                go_wp2_with fail
                refine cs.mono ?_
                rintro e w4 ⟨rfl, hX4⟩
                have HX4 := Lib.hid hX4
                clear cs hX4 c0
                go_wp2_with fail
                go_roundw
                case rel => exact ⟨k + 1, k + 1, by omega, by omega, by go_num, by go_num, Lib.hid (.inl ⟨p', by omega, HX4.out⟩)⟩
                case measure => simp [intOf]; omega
          · have k3 : decide ((k : Int) < (bs.length : Int)) = false := decide_eq_false (by omega)
            go_wp2_with fail
            go_roundw
            case rel => exact ⟨k + 1, m, by omega, by omega, by go_num, by go_num, Lib.hid (.inl ⟨p, by omega, HX3.out⟩)⟩
            case measure => simp [intOf]; omega
      · have k1 : decide ((k : Int) < (L.length : Int)) = false := decide_eq_false (by omega)
        have hkL : k = L.length := by omega
        clear cdn
        -- all are appended
        have hma : m ≤ k := by omega
        have hbL : k ≤ L.length := by omega
        have hla2 : (L.take (k)).length = k := by rw [List.length_take]; omega
        have hlb2 : (L.take (k)).length = k := by rw [List.length_take]; omega
        have cd := jw_dur wb.heap.size wb J wb.heap.size (L.take (k)) false _ m _ HX.out (by omega) (by omega) (by show _ = _; rw [List.take_take, Nat.min_eq_left hma])
        go_wp2_with fail
        refine cd.mono ?_
        rintro e t1 ⟨rfl, ht1⟩
        have HX := Lib.hid (HX.out.later ht1)
        have cdn := jw_down wb.heap.size wb J wb.heap.size _ _ t1 HX.out
        dsimp only at cdn
        have cf := jw_fail wb.heap.size wb J wb.heap.size _ _ _ _ _ t1 HX.out
        clear cd ht1
        go_wp2_with fail
        refine cdn.mono ?_
        rintro e t1 ⟨rfl, rfl⟩
        go_wp2_with fail
        refine cf.mono ?_
        rintro e t2 ⟨⟨er2, rfl⟩, hX⟩
        have hX' := hX
        rw [show (catR 0 (L.take m)).size = (catR 0 ((L.take (k)).take m)).size from by rw [List.take_take, Nat.min_eq_left (by omega)]] at hX'
        have crs := jw_restart wb.heap.size wb J wb.heap.size _ (L.take (k)) m _ ke da t2 hX' hda (by omega) (by omega) (fun q hq => hLs.out q (List.mem_of_mem_take hq))
        obtain ⟨z0, z1, z2⟩ := Hgb.out t2 hX.below
        clear cdn cf hX hX' z0 HX
        go_wp2_with fail
        refine crs.mono ?_
        rintro e t3 ⟨rfl, D, syn', m', hX, hmm, hmb, hDs, hsc, hxx⟩
        have cop := jw_reopen wb.heap.size wb.heap.size wb J _ _ D syn' t3 hX hDs hsc hxx
        rw [hlb2] at hmb
        have hlm : ((L.take (k)).take m').length = m' := by rw [List.length_take]; omega
        clear crs z1 z2 hX hsc hxx hDs
        go_wp2_with fail
        refine cop.mono ?_
        rintro e t4 ⟨rfl, hXn, hXo⟩
        have HXn := Lib.hid hXn
        have HXo := Lib.hid hXo
        generalize t3.heap.size = K at *
        have cln := jw_len wb.heap.size wb K wb.heap.size _ false _ t4 hXn
        rw [hlm] at cln
        clear cop hXn hXo
        have i1 : ¬ (m' : Int) < (m : Int) := by omega
        have i1' : decide ((m' : Int) < (m : Int)) = false := decide_eq_false i1
        have i2 : (m' : Int) ≤ ((k : Nat) : Int) := by omega
        have i2' : decide (((k : Nat) : Int) < (m' : Int)) = false := decide_eq_false (by omega)
        go_wp2_with fail
        refine cln.mono ?_
        rintro e t5 ⟨rfl, hb5⟩
        have HXn := Lib.hid (HXn.out.later hb5)
        have HXo := Lib.hid (HXo.out.later hb5)
        have cln := jw_len wb.heap.size wb K wb.heap.size _ false _ t5 HXn.out
        rw [hlm] at cln
        clear hb5
        go_wp2_with fail
        refine cln.mono ?_
        rintro e t6 ⟨rfl, hb6⟩
        have HXn := Lib.hid (HXn.out.later hb6)
        have HXo := Lib.hid (HXo.out.later hb6)
        have cal := jw_all wb.heap.size wb K wb.heap.size _ false _ t6 HXn.out (by omega)
        rw [hlm] at cal
        clear hb6 cln
        go_wp2_with fail
        refine cal.mono ?_
        rintro e t7 ⟨⟨A7, c7, rfl, _, _, hr7, _⟩, hb7⟩
        have HXn := Lib.hid (HXn.out.later hb7)
        have HXo := Lib.hid (HXo.out.later hb7)
        have Hr7 := Lib.hid hr7
        have cln := jw_len wb.heap.size wb K wb.heap.size _ false _ t7 HXn.out
        rw [hlm] at cln
        clear hb7 cal hr7
        go_wp2_with fail
        refine cln.mono ?_
        rintro e t8 ⟨rfl, hb8⟩
        have HXn := Lib.hid (HXn.out.later hb8)
        have HXo := Lib.hid (HXo.out.later hb8)
        have csm := crash_same L m' (k) hmb hbL (by omega) A7 (A1) c7 c1 t8 (rd_below Hr7.out hb8) (HXn.out.rd HrdL.out)
        have j0 : (0 : Int) ≤ (m' : Int) := by omega
        have j1 : (m' : Int) ≤ (c1 : Int) := by omega
        clear cln hb8 Hr7
        go_wp2_with fail
        refine csm.mono ?_
        rintro e t9 ⟨rfl, hb9⟩
        have HXn := Lib.hid (HXn.out.later hb9)
        have HXo := Lib.hid (HXo.out.later hb9)
        have cdr := jw_dur wb.heap.size wb K wb.heap.size _ false _ m' t9 HXn.out (by omega) (by omega) (congrArg (fun y => (catR 0 y).size) (List.take_of_length_le (Nat.le_of_eq hlm)).symm)
        clear csm hb9
        go_wp2_with fail
        refine cdr.mono ?_
        rintro e t10 ⟨rfl, hb10⟩
        have HXn := Lib.hid (HXn.out.later hb10)
        have HXo := Lib.hid (HXo.out.later hb10)
        have cln := jw_len wb.heap.size wb K wb.heap.size _ false _ t10 HXn.out
        rw [hlm] at cln
        clear cdr hb10
        go_wp2_with fail
        refine cln.mono ?_
        rintro e t11 ⟨rfl, hb11⟩
        have HXo := Lib.hid (HXo.out.later hb11)
        have hsmall := small_catR ((L.take (k)).take m') 0 (fun q hq => hLs.out q (List.mem_of_mem_take (List.mem_of_mem_take hq)))
        rw [hlm] at hsmall
        have cap := jw_append_alive wb.heap.size wb J wb.heap.size (L.take (k)) _ _ ⟨#[120]⟩ t11 HXo.out (by omega) (by decide) (by omega)
        clear cln hb11 HXn
        go_wp2_with fail
        refine cap.mono ?_
        rintro e t12 ⟨rfl, hb⟩
        clear cap HXo
        go_wp2_with fail
        go_returns
        exact ⟨rfl, Bw.trans (hb.mono Bw.size)⟩
    · have HX := Lib.hid hX
      have cdn := jw_down wb.heap.size wb J wb.heap.size _ _ wr hX
      dsimp only at cdn
      clear HS hX
      by_cases hlt : k < L.length
      · have k1 : decide ((k : Int) < (L.length : Int)) = true := decide_eq_true (by omega)
        have k2 : (k : Int) < (L.length : Int) := by omega
        go_wp2_with fail
        refine cdn.mono ?_
        rintro e w2 ⟨rfl, rfl⟩
        clear cdn
        -- the power is down
        have hma : m ≤ k := by omega
        have hbL : k ≤ L.length := by omega
        have hla2 : (L.take (k)).length = k := by rw [List.length_take]; omega
        have hlb2 : (L.take (k)).length = k := by rw [List.length_take]; omega
        have cd := jw_dur wb.heap.size wb J wb.heap.size (L.take (k)) true _ m _ HX.out (by omega) (by omega) (by show _ = _; rw [List.take_take, Nat.min_eq_left hma])
        go_wp2_with fail
        refine cd.mono ?_
        rintro e t1 ⟨rfl, ht1⟩
        have HX := Lib.hid (HX.out.later ht1)
        have cdn := jw_down wb.heap.size wb J wb.heap.size _ _ t1 HX.out
        dsimp only at cdn
        have cf := jw_fail wb.heap.size wb J wb.heap.size _ _ _ _ _ t1 HX.out
        clear cd ht1
        go_wp2_with fail
        refine cdn.mono ?_
        rintro e t1 ⟨rfl, rfl⟩
        go_wp2_with fail
        refine cf.mono ?_
        rintro e t2 ⟨⟨er2, rfl⟩, hX⟩
        have hX' := hX
        rw [show (catR 0 (L.take m)).size = (catR 0 ((L.take (k)).take m)).size from by rw [List.take_take, Nat.min_eq_left (by omega)]] at hX'
        have crs := jw_restart wb.heap.size wb J wb.heap.size _ (L.take (k)) m _ ke da t2 hX' hda (by omega) (by omega) (fun q hq => hLs.out q (List.mem_of_mem_take hq))
        obtain ⟨z0, z1, z2⟩ := Hgb.out t2 hX.below
        clear cdn cf hX hX' z0 HX
        go_wp2_with fail
        refine crs.mono ?_
        rintro e t3 ⟨rfl, D, syn', m', hX, hmm, hmb, hDs, hsc, hxx⟩
        have cop := jw_reopen wb.heap.size wb.heap.size wb J _ _ D syn' t3 hX hDs hsc hxx
        rw [hlb2] at hmb
        have hlm : ((L.take (k)).take m').length = m' := by rw [List.length_take]; omega
        clear crs z1 z2 hX hsc hxx hDs
        go_wp2_with fail
        refine cop.mono ?_
        rintro e t4 ⟨rfl, hXn, hXo⟩
        have HXn := Lib.hid hXn
        have HXo := Lib.hid hXo
        generalize t3.heap.size = K at *
        have cln := jw_len wb.heap.size wb K wb.heap.size _ false _ t4 hXn
        rw [hlm] at cln
        clear cop hXn hXo
        have i1 : ¬ (m' : Int) < (m : Int) := by omega
        have i1' : decide ((m' : Int) < (m : Int)) = false := decide_eq_false i1
        have i2 : (m' : Int) ≤ ((k : Nat) : Int) := by omega
        have i2' : decide (((k : Nat) : Int) < (m' : Int)) = false := decide_eq_false (by omega)
        go_wp2_with fail
        refine cln.mono ?_
        rintro e t5 ⟨rfl, hb5⟩
        have HXn := Lib.hid (HXn.out.later hb5)
        have HXo := Lib.hid (HXo.out.later hb5)
        have cln := jw_len wb.heap.size wb K wb.heap.size _ false _ t5 HXn.out
        rw [hlm] at cln
        clear hb5
        go_wp2_with fail
        refine cln.mono ?_
        rintro e t6 ⟨rfl, hb6⟩
        have HXn := Lib.hid (HXn.out.later hb6)
        have HXo := Lib.hid (HXo.out.later hb6)
        have cal := jw_all wb.heap.size wb K wb.heap.size _ false _ t6 HXn.out (by omega)
        rw [hlm] at cal
        clear hb6 cln
        go_wp2_with fail
        refine cal.mono ?_
        rintro e t7 ⟨⟨A7, c7, rfl, _, _, hr7, _⟩, hb7⟩
        have HXn := Lib.hid (HXn.out.later hb7)
        have HXo := Lib.hid (HXo.out.later hb7)
        have Hr7 := Lib.hid hr7
        have cln := jw_len wb.heap.size wb K wb.heap.size _ false _ t7 HXn.out
        rw [hlm] at cln
        clear hb7 cal hr7
        go_wp2_with fail
        refine cln.mono ?_
        rintro e t8 ⟨rfl, hb8⟩
        have HXn := Lib.hid (HXn.out.later hb8)
        have HXo := Lib.hid (HXo.out.later hb8)
        have csm := crash_same L m' (k) hmb hbL (by omega) A7 (A1) c7 c1 t8 (rd_below Hr7.out hb8) (HXn.out.rd HrdL.out)
        have j0 : (0 : Int) ≤ (m' : Int) := by omega
        have j1 : (m' : Int) ≤ (c1 : Int) := by omega
        clear cln hb8 Hr7
        go_wp2_with fail
        refine csm.mono ?_
        rintro e t9 ⟨rfl, hb9⟩
        have HXn := Lib.hid (HXn.out.later hb9)
        have HXo := Lib.hid (HXo.out.later hb9)
        have cdr := jw_dur wb.heap.size wb K wb.heap.size _ false _ m' t9 HXn.out (by omega) (by omega) (congrArg (fun y => (catR 0 y).size) (List.take_of_length_le (Nat.le_of_eq hlm)).symm)
        clear csm hb9
        go_wp2_with fail
        refine cdr.mono ?_
        rintro e t10 ⟨rfl, hb10⟩
        have HXn := Lib.hid (HXn.out.later hb10)
        have HXo := Lib.hid (HXo.out.later hb10)
        have cln := jw_len wb.heap.size wb K wb.heap.size _ false _ t10 HXn.out
        rw [hlm] at cln
        clear cdr hb10
        go_wp2_with fail
        refine cln.mono ?_
        rintro e t11 ⟨rfl, hb11⟩
        have HXo := Lib.hid (HXo.out.later hb11)
        have cap := jw_append_dead wb.heap.size wb J wb.heap.size _ _ ⟨#[120]⟩ t11 HXo.out
        clear cln hb11 HXn
        go_wp2_with fail
        refine cap.mono ?_
        rintro e t12 ⟨rfl, hX12⟩
        have csd := jw_sync_dead wb.heap.size wb J wb.heap.size _ _ t12 hX12
        clear cap hX12 HXo
        go_wp2_with fail
        refine csd.mono ?_
        rintro e t13 ⟨rfl, hX13⟩
        have hb := hX13.below
        clear hX13 csd
        go_wp2_with fail
        go_returns
        exact ⟨rfl, Bw.trans (hb.mono Bw.size)⟩
      · have k1 : decide ((k : Int) < (L.length : Int)) = false := decide_eq_false (by omega)
        clear cdn
        have hma : m ≤ k := by omega
        have hbL : k ≤ L.length := by omega
        have hla2 : (L.take (k)).length = k := by rw [List.length_take]; omega
        have hlb2 : (L.take (k)).length = k := by rw [List.length_take]; omega
        have cd := jw_dur wb.heap.size wb J wb.heap.size (L.take (k)) true _ m _ HX.out (by omega) (by omega) (by show _ = _; rw [List.take_take, Nat.min_eq_left hma])
        go_wp2_with fail
        refine cd.mono ?_
        rintro e t1 ⟨rfl, ht1⟩
        have HX := Lib.hid (HX.out.later ht1)
        have cdn := jw_down wb.heap.size wb J wb.heap.size _ _ t1 HX.out
        dsimp only at cdn
        have cf := jw_fail wb.heap.size wb J wb.heap.size _ _ _ _ _ t1 HX.out
        clear cd ht1
        go_wp2_with fail
        refine cdn.mono ?_
        rintro e t1 ⟨rfl, rfl⟩
        go_wp2_with fail
        refine cf.mono ?_
        rintro e t2 ⟨⟨er2, rfl⟩, hX⟩
        have hX' := hX
        rw [show (catR 0 (L.take m)).size = (catR 0 ((L.take (k)).take m)).size from by rw [List.take_take, Nat.min_eq_left (by omega)]] at hX'
        have crs := jw_restart wb.heap.size wb J wb.heap.size _ (L.take (k)) m _ ke da t2 hX' hda (by omega) (by omega) (fun q hq => hLs.out q (List.mem_of_mem_take hq))
        obtain ⟨z0, z1, z2⟩ := Hgb.out t2 hX.below
        clear cdn cf hX hX' z0 HX
        go_wp2_with fail
        refine crs.mono ?_
        rintro e t3 ⟨rfl, D, syn', m', hX, hmm, hmb, hDs, hsc, hxx⟩
        have cop := jw_reopen wb.heap.size wb.heap.size wb J _ _ D syn' t3 hX hDs hsc hxx
        rw [hlb2] at hmb
        have hlm : ((L.take (k)).take m').length = m' := by rw [List.length_take]; omega
        clear crs z1 z2 hX hsc hxx hDs
        go_wp2_with fail
        refine cop.mono ?_
        rintro e t4 ⟨rfl, hXn, hXo⟩
        have HXn := Lib.hid hXn
        have HXo := Lib.hid hXo
        generalize t3.heap.size = K at *
        have cln := jw_len wb.heap.size wb K wb.heap.size _ false _ t4 hXn
        rw [hlm] at cln
        clear cop hXn hXo
        have i1 : ¬ (m' : Int) < (m : Int) := by omega
        have i1' : decide ((m' : Int) < (m : Int)) = false := decide_eq_false i1
        have i2 : (m' : Int) ≤ ((k : Nat) : Int) := by omega
        have i2' : decide (((k : Nat) : Int) < (m' : Int)) = false := decide_eq_false (by omega)
        go_wp2_with fail
        refine cln.mono ?_
        rintro e t5 ⟨rfl, hb5⟩
        have HXn := Lib.hid (HXn.out.later hb5)
        have HXo := Lib.hid (HXo.out.later hb5)
        have cln := jw_len wb.heap.size wb K wb.heap.size _ false _ t5 HXn.out
        rw [hlm] at cln
        clear hb5
        go_wp2_with fail
        refine cln.mono ?_
        rintro e t6 ⟨rfl, hb6⟩
        have HXn := Lib.hid (HXn.out.later hb6)
        have HXo := Lib.hid (HXo.out.later hb6)
        have cal := jw_all wb.heap.size wb K wb.heap.size _ false _ t6 HXn.out (by omega)
        rw [hlm] at cal
        clear hb6 cln
        go_wp2_with fail
        refine cal.mono ?_
        rintro e t7 ⟨⟨A7, c7, rfl, _, _, hr7, _⟩, hb7⟩
        have HXn := Lib.hid (HXn.out.later hb7)
        have HXo := Lib.hid (HXo.out.later hb7)
        have Hr7 := Lib.hid hr7
        have cln := jw_len wb.heap.size wb K wb.heap.size _ false _ t7 HXn.out
        rw [hlm] at cln
        clear hb7 cal hr7
        go_wp2_with fail
        refine cln.mono ?_
        rintro e t8 ⟨rfl, hb8⟩
        have HXn := Lib.hid (HXn.out.later hb8)
        have HXo := Lib.hid (HXo.out.later hb8)
        have csm := crash_same L m' (k) hmb hbL (by omega) A7 (A1) c7 c1 t8 (rd_below Hr7.out hb8) (HXn.out.rd HrdL.out)
        have j0 : (0 : Int) ≤ (m' : Int) := by omega
        have j1 : (m' : Int) ≤ (c1 : Int) := by omega
        clear cln hb8 Hr7
        go_wp2_with fail
        refine csm.mono ?_
        rintro e t9 ⟨rfl, hb9⟩
        have HXn := Lib.hid (HXn.out.later hb9)
        have HXo := Lib.hid (HXo.out.later hb9)
        have cdr := jw_dur wb.heap.size wb K wb.heap.size _ false _ m' t9 HXn.out (by omega) (by omega) (congrArg (fun y => (catR 0 y).size) (List.take_of_length_le (Nat.le_of_eq hlm)).symm)
        clear csm hb9
        go_wp2_with fail
        refine cdr.mono ?_
        rintro e t10 ⟨rfl, hb10⟩
        have HXn := Lib.hid (HXn.out.later hb10)
        have HXo := Lib.hid (HXo.out.later hb10)
        have cln := jw_len wb.heap.size wb K wb.heap.size _ false _ t10 HXn.out
        rw [hlm] at cln
        clear cdr hb10
        go_wp2_with fail
        refine cln.mono ?_
        rintro e t11 ⟨rfl, hb11⟩
        have HXo := Lib.hid (HXo.out.later hb11)
        have cap := jw_append_dead wb.heap.size wb J wb.heap.size _ _ ⟨#[120]⟩ t11 HXo.out
        clear cln hb11 HXn
        go_wp2_with fail
        refine cap.mono ?_
        rintro e t12 ⟨rfl, hX12⟩
        have csd := jw_sync_dead wb.heap.size wb J wb.heap.size _ _ t12 hX12
        clear cap hX12 HXo
        go_wp2_with fail
        refine csd.mono ?_
        rintro e t13 ⟨rfl, hX13⟩
        have hb := hX13.below
        clear hX13 csd
        go_wp2_with fail
        go_returns
        exact ⟨rfl, Bw.trans (hb.mono Bw.size)⟩
end Go.Proofs.Ythfnpakddnnccaa
