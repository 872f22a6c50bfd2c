/- The walk of hemiola/hemiolalaw52.JournalContinues: it returns true, and writes nothing that was there. -/
import Derived.Test.YthfnpakddnnccaaJw3
import Derived.Test.YthfnpakddnnccaaOpenJ
import Derived.OpenShut
namespace Go.Proofs.Ythfnpakddnnccaa
open Go.RowKit
set_option linter.unusedVariables false
set_option maxRecDepth 100000 in
set_option maxHeartbeats 16000000 in
theorem walkJournalContinues {w : World} (A : Option Addr) (c : Nat) (l : List ByteArray) (hc : l.length ≤ c) (hcm : c ≤ maxLen) (hrd : Rd w w.heap.size A (l.map Value.string)) (hs : ∀ s ∈ l, s.size ≤ maxLen) (la ke da : Nat) (hla : la < 256) (hke : ke < 256) (hda : da < 256) (_w : World) :
    Calls Try.prog 12 #[.slice A l.length c, .agg #[.int .u8 (la : Int), .int .u8 (ke : Int), .int .u8 (da : Int)]] w fun e w' => e = .returned (.bool true) ∧ Below w.heap.size w w' := by
  have hb0 : Below w.heap.size w (w.alloc (.cells #[.int .u8 (la : Int), .int .u8 (ke : Int), .int .u8 (da : Int)] 41)) := (Below.refl _ w).alloc (Nat.le_refl _) _
  have cc := cut_any A c l _ hc hcm (rd_below hrd hb0) hs
  have hL := cutL_len l
  have hLs := Lib.hid (cutL_small l)
  generalize cutL l = L at *
  obtain ⟨x0, x1, x2⟩ := later_box3 w (.int .u8 (la : Int)) (.int .u8 (ke : Int)) (.int .u8 (da : Int)) 41
  have Hx := Lib.hid (And.intro x0 (And.intro x1 x2))
  have hsz0 : (w.alloc (.cells #[.int .u8 (la : Int), .int .u8 (ke : Int), .int .u8 (da : Int)] 41)).heap.size = w.heap.size + 1 := by simp
  have Hsz0 := Lib.hid hsz0
  have Hb0 := Lib.hid hb0
  obtain ⟨N, hN⟩ : ∃ N, N = la % 20 := ⟨_, rfl⟩
  have w2 : ((la : Nat) : Int).tmod 20 = (N : Int) := by rw [Int.tmod_eq_emod_of_nonneg (by omega), hN]; rfl
  have hN20 : N < 20 := by omega
  clear hrd hs x0 x1 x2 hsz0 hb0 hN
  go_enter Try.func12, Try.ntmps12
  go_wp2_with fail
  refine cc.mono ?_
  rintro e wa ⟨v, rfl, hacc⟩
  obtain ⟨A1, c1, rfl, hc1, hc1m, hrdL⟩ := acc_form hacc
  have Ba := hacc.below
  have HrdL := Lib.hid hrdL
  clear cc hacc hrdL
  go_wp2_with fail
  refine (known_any _).mono ?_
  rintro e wb ⟨rfl, Bb⟩
  have HrdL := Lib.hid (rd_below HrdL.out Bb)
  have Bw1 := Ba.trans (Bb.mono Ba.size)
  obtain ⟨x0, x1, x2⟩ := Hx.out
  have y0 := x0 ⟨wb, Bw1⟩
  have y1 := x1 ⟨wb, Bw1⟩
  have y2 := x2 ⟨wb, Bw1⟩
  have hBlt : w.heap.size < wb.heap.size := by have := Bw1.size; rw [Hsz0.out] at this; omega
  have hgb : ∀ W, Below wb.heap.size wb W → W.cell? ⟨w.heap.size, 0, none⟩ = some (.int .u8 (la : Int)) ∧ W.cell? ⟨w.heap.size, 1, none⟩ = some (.int .u8 (ke : Int)) ∧ W.cell? ⟨w.heap.size, 2, none⟩ = some (.int .u8 (da : Int)) := fun W hW =>
    ⟨(hW.cell (p := ⟨w.heap.size, 0, none⟩) hBlt).trans y0, (hW.cell (p := ⟨w.heap.size, 1, none⟩) hBlt).trans y1, (hW.cell (p := ⟨w.heap.size, 2, none⟩) hBlt).trans y2⟩
  have Hgb := Lib.hid hgb
  have Bw : Below w.heap.size w wb := Hb0.out.trans (Bw1.mono Hb0.out.size)
  clear Ba Bb Bw1 x0 x1 x2 y0 y1 y2 hgb Hx Hb0 Hsz0
  go_wp2_with fail
  refine (newfile_any _).mono ?_
  rintro e wc ⟨rfl, hF, Bc, hz⟩
  have co := jw_new wb wc hF Bc
  clear hF hz
  go_wp2_with fail
  refine co.mono ?_
  rintro e wd ⟨rfl, hX⟩
  have HX := Lib.hid hX
  generalize hJ : wc.heap.size = J at *
  have cli := jw_limit wb.heap.size wb J wb.heap.size _ _ _ _ _ (N : Int) wd hX
  rw [show max (N : Int) (-1) = (N : Int) from by omega] at cli
  obtain ⟨z0, z1, z2⟩ := Hgb.out wd hX.below
  clear co hX hJ Bc z1 z2
  go_wp2_with fail
  refine cli.mono ?_
  rintro e we ⟨⟨er, rfl⟩, hX⟩
  have HX := Lib.hid hX
  clear cli hX z0
  go_wp2_with fail
  go_loopw [8] (fun i wr => ∃ k : Nat, k ≤ L.length ∧ i = .int .i64 (k : Int) ∧
      Hid ((∃ q : Nat, q < 20 ∧ JX wb.heap.size wb J wb.heap.size (jst (L.take k) false) ⟨catR 0 (L.take k), 0, (q : Int), false⟩ wr) ∨
        (∃ a : Nat, a < k ∧ JX wb.heap.size wb J wb.heap.size (jst (L.take a) true) ⟨catR 0 (L.take (a + 1)), 0, 0, true⟩ wr))) (fun i _ => L.length - (intOf i).toNat)
  case atStart => exact ⟨0, by omega, rfl, Lib.hid (.inl ⟨N, hN20, HX.out⟩)⟩
  case round =>
    clear HX
    obtain ⟨k, hk, rfl, HS⟩ := hrel
    have k0 : (0 : Int) ≤ (k : Int) := by omega
    by_cases hlt : k < L.length
    · have k2 : (k : Int) < (L.length : Int) := by omega
      have hln : (L.take k).length = k := by rw [List.length_take]; omega
      have Hln := Lib.hid hln
      have hr40 : (L.getD k ByteArray.empty).size ≤ 40 := by
        have := hLs.out _ (List.getElem_mem hlt)
        simpa [hlt] using this
      have hts := Lib.hid (take_snoc hlt)
      have hBr : Below wb.heap.size wb wr := by
        rcases HS.out with ⟨q, hq, hX⟩ | ⟨a, ha, hX⟩
        · exact hX.below
        · exact hX.below
      obtain ⟨b, off, rfl, hlb, hcell⟩ := rd_pos HrdL.out (by rw [recsV, List.length_map]; omega)
      have c0 := (hBr.cell (p := ⟨b, off + k, none⟩) hlb).trans (hcell k (.string (L.getD k ByteArray.empty)) (by simp [recsV, hlt]))
      clear hcell hBr hln
      generalize hx : L.getD k ByteArray.empty = x at *
      clear hx
      go_wp2_with fail
      rcases HS.out with ⟨q, hq, hX⟩ | ⟨a, ha, hX⟩
      · rcases Nat.eq_zero_or_pos q with hq0 | hq0
        · have hX2 := hX
          rw [hq0] at hX2
          have ca := jw_append_down wb.heap.size wb J wb.heap.size (L.take k) _ x _ hX2 (by rw [Hln.out]; omega) (fun q hq => hLs.out q (List.mem_of_mem_take hq)) hr40
          rw [hts.out] at ca
          clear hX2 hq0 hq hX HS
          refine ca.mono ?_
          rintro e w3 ⟨rfl, hX3⟩
          have HX3 := Lib.hid hX3
          clear ca hX3 c0
          go_wp2_with fail
          go_roundw
          case rel => exact ⟨k + 1, by omega, by go_num, Lib.hid (.inr ⟨k, by omega, HX3.out⟩)⟩
          case measure => simp [intOf]; omega
        · have ca := jw_append wb.heap.size wb J wb.heap.size (L.take k) _ (q : Int) x _ hX (by omega) (by omega) (by omega) (by rw [Hln.out]; omega) (fun q hq => hLs.out q (List.mem_of_mem_take hq)) hr40
          rw [hts.out, Hln.out] at ca
          obtain ⟨p, hp⟩ : ∃ p : Nat, p + 1 = q := ⟨q - 1, by omega⟩
          rw [show max ((q : Int) - 1) (-1) = (p : Int) from by omega] at ca
          clear hq0 hX HS
          refine ca.mono ?_
          rintro e w3 ⟨rfl, hX3⟩
          have HX3 := Lib.hid hX3
          clear ca hX3 c0
          go_wp2_with fail
          go_roundw
          case rel => exact ⟨k + 1, by omega, by go_num, Lib.hid (.inl ⟨p, by omega, HX3.out⟩)⟩
          case measure => simp [intOf]; omega
      · have ca := jw_append_dead wb.heap.size wb J wb.heap.size (L.take a) _ x _ hX
        clear hX HS
        refine ca.mono ?_
        rintro e w3 ⟨rfl, hX3⟩
        have HX3 := Lib.hid hX3
        clear ca hX3 c0
        go_wp2_with fail
        go_roundw
        case rel => exact ⟨k + 1, by omega, by go_num, Lib.hid (.inr ⟨a, by omega, HX3.out⟩)⟩
        case measure => simp [intOf]; omega
    · have hcom : ∃ (s : JS) (rs : List ByteArray) (lim : Int) (dn : Bool), JX wb.heap.size wb J wb.heap.size s ⟨catR 0 rs, 0, lim, dn⟩ wr ∧ rs.length ≤ 20 ∧ ∀ q ∈ rs, q.size ≤ 40 := by
        rcases HS.out with ⟨q, hq, hX⟩ | ⟨a, ha, hX⟩
        · exact ⟨_, _, _, _, hX, by rw [List.length_take]; omega, fun q hq => hLs.out q (List.mem_of_mem_take hq)⟩
        · exact ⟨_, _, _, _, hX, by rw [List.length_take]; omega, fun q hq => hLs.out q (List.mem_of_mem_take hq)⟩
      obtain ⟨s, rs, lim, dn, hX, hrl, hrs⟩ := hcom
      have Hrs := Lib.hid hrs
      have cf := jw_fail wb.heap.size wb J wb.heap.size _ _ _ _ _ wr hX
      clear HS hX hrs
      go_wp2_with fail
      refine cf.mono ?_
      rintro e t2 ⟨⟨er2, rfl⟩, hX⟩
      have hX' := hX
      rw [show (0 : Nat) = (catR 0 (rs.take 0)).size from by rw [List.take_zero]; rfl] at hX'
      have crs := jw_restart wb.heap.size wb J wb.heap.size _ rs 0 _ ke da t2 (by exact hX) hda (by omega) (by omega) Hrs.out
      obtain ⟨z0, z1, z2⟩ := Hgb.out t2 hX.below
      clear cf hX hX' z0
      go_wp2_with fail
      refine crs.mono ?_
      rintro e t3 ⟨rfl, D, syn', m', hX, hmm, hmb, hDs, hsc, hxx⟩
      have cop := jw_reopen wb.heap.size wb.heap.size wb J _ _ D syn' t3 hX hDs hsc hxx
      have hR : (rs.take m').length ≤ 20 := by rw [List.length_take]; omega
      have HR := Lib.hid (fun q (hq : q ∈ rs.take m') => Hrs.out q (List.mem_of_mem_take hq))
      clear crs z1 z2 hX hsc hxx hDs hmm hmb
      generalize rs.take m' = R at *
      go_wp2_with fail
      refine cop.mono ?_
      rintro e t4 ⟨rfl, hXn, hXo⟩
      have HXn := Lib.hid hXn
      generalize t3.heap.size = K at *
      have cal := jw_all wb.heap.size wb K wb.heap.size _ false _ t4 hXn (by omega)
      clear cop hXn hXo
      go_wp2_with fail
      refine cal.mono ?_
      rintro e t7 ⟨⟨A7, c7, rfl, _, _, hr7, hrow⟩, hb7⟩
      have HA := Lib.hid (HXn.out.with hb7 hrow)
      clear cal hr7 hrow hb7 HXn
      obtain ⟨SZ, hSZ⟩ : ∃ SZ, SZ = (catR 0 R).size := ⟨_, rfl⟩
      rw [← hSZ] at HA
      clear hSZ
      go_wp2_with fail
      go_loopw [10, 11] (fun va i wr => ∃ (k : Nat) (T : List ByteArray) (A : Option Addr) (c : Nat), k ≤ L.length ∧ T.length ≤ 20 + k ∧ i = .int .i64 (k : Int) ∧ va = .slice A T.length c ∧ Hid (∀ q ∈ T, q.size ≤ 40) ∧
        Hid (JA wb.heap.size wb K wb.heap.size (jst T false) ⟨catR 0 T, SZ, -1, false⟩ wr (.slice A T.length c) T.length (recsV T))) (fun _ i _ => L.length - (intOf i).toNat)
      case atStart => exact ⟨0, R, A7, c7, by omega, by omega, rfl, rfl, HR, HA⟩
      case round =>
        clear HA HR hR
        obtain ⟨k, T, A, c, hk, hT, rfl, rfl, HT, HJ⟩ := hrel
        have k0 : (0 : Int) ≤ (k : Int) := by omega
        by_cases hlt : k < L.length
        · have k2 : (k : Int) < (L.length : Int) := by omega
          have hr40 : (L.getD k ByteArray.empty).size ≤ 40 := by
            have := hLs.out _ (List.getElem_mem hlt)
            simpa [hlt] using this
          obtain ⟨b, off, rfl, hlb, hcell⟩ := rd_pos HrdL.out (by rw [recsV, List.length_map]; omega)
          have c0 := fun W (hW : Below wb.heap.size wb W) => (hW.cell (p := ⟨b, off + k, none⟩) hlb).trans (hcell k (.string (L.getD k ByteArray.empty)) (by simp [recsV, hlt]))
          clear hcell
          have C0 := Lib.hid c0
          generalize hx : L.getD k ByteArray.empty = x at *
          have c1 := C0.out _ HJ.out.jx.below
          have ca := ja_append wb.heap.size wb K wb.heap.size T _ (-1) x _ _ _ _ HJ.out (by decide) (by decide) (by decide) (by omega) HT.out hr40
          rw [show max ((-1 : Int) - 1) (-1) = -1 from by decide] at ca
          have HTx : Hid (∀ q ∈ T ++ [x], q.size ≤ 40) := Lib.hid (fun q hq => by
            rcases List.mem_append.1 hq with h | h
            · exact HT.out q h
            · rw [List.mem_singleton.1 h]; exact hr40)
          have HTl : Hid ((T ++ [x]).length = T.length + 1) := Lib.hid (by rw [List.length_append]; rfl)
          have HTr : Hid (recsV (T ++ [x]) = recsV T ++ [.string x]) := Lib.hid (by unfold recsV; rw [List.map_append]; rfl)
          have hT6 : T.length + 1 ≤ 65536 := by omega
          clear hx c0
          go_wp2_with fail
          refine ca.mono ?_
          rintro e w3 ⟨rfl, hJ3⟩
          have HJ3 := Lib.hid hJ3
          clear ca c1 hJ3
          have c1 := C0.out _ HJ3.out.jx.below
          go_wp2_with (at_builtin; refine wpList_pushA rfl _ _ rfl x HJ3.out (by rfl) (by rfl) hT6 ?_; intro A' c' w4 hJ4)
          have HJ4 := Lib.hid hJ4
          clear hJ4 c1
          go_roundw
          case rel => exact ⟨k + 1, T ++ [x], A', c', by omega, by rw [HTl.out]; omega, by go_num, by rw [HTl.out], HTx, Lib.hid (by rw [HTl.out, HTr.out]; exact HJ4.out)⟩
          case measure => simp [intOf]; omega
        · have co := ja_open wb.heap.size wb.heap.size wb T (by omega) HT.out _ K _ wr _ _ _ HJ.out
          go_wp2_with fail
          refine co.mono ?_
          rintro e w3 ⟨rfl, hX3, hrow3⟩
          have HX3 := Lib.hid hX3
          have Hrow3 := Lib.hid hrow3
          generalize wr.heap.size = K2 at *
          have cal := jw_all wb.heap.size wb K2 wb.heap.size _ false _ w3 hX3 (by omega)
          clear co hX3 hrow3
          go_wp2_with fail
          refine cal.mono ?_
          rintro e w4 ⟨⟨A8, c8, rfl, _, _, hr8, _⟩, hb8⟩
          have hrow4 := own_below Hrow3.out hb8
          obtain ⟨A9, c9, e9, _, _, _, hrd9⟩ := row_reads hrow4 (by decide)
          cases e9
          have csm := same_any A8 A c8 c T T w4 hr8 hrd9 (by omega) (by omega)
          rw [decide_eq_true rfl] at csm
          have HX4 := Lib.hid (HX3.out.later hb8)
          clear cal hr8 hb8 hrow4 hrd9
          go_wp2_with fail
          refine csm.mono ?_
          rintro e w5 ⟨rfl, hb9⟩
          have hb := (HX4.out.later hb9).below
          clear csm hb9
          go_wp2_with fail
          go_returns
          exact ⟨rfl, Bw.trans (hb.mono Bw.size)⟩
end Go.Proofs.Ythfnpakddnnccaa
