/- The walk of hemiola/hemiolalaw52.JournalAppends: it returns true, and writes nothing that was there. -/
import Derived.Test.YthfnpakddnnccaaJw
import Derived.Test.YthfnpakddnnccaaMake
import Derived.Test.YthfnpakddnnccaaOpenJ
import Derived.OpenShut
namespace Go.Proofs.Ythfnpakddnnccaa
open Go.RowKit
set_option linter.unusedVariables false
theorem app_open (B f : Nat) (w : World) (L : List ByteArray) (hL : L.length ≤ 64) (hLs : ∀ r ∈ L, r.size ≤ 40) (s : JS) (J : Nat) (syn : Nat) (W : World) (h : JX B w J f s ⟨catR 0 L, syn, -1, false⟩ W) :
    Calls Try.prog 24 #[.pointer (some ⟨f, 0, none⟩)] W fun e W' => e = .returned (.tuple #[.pointer (some ⟨W.heap.size, 0, none⟩), .int .i64 0]) ∧ JX B w W.heap.size f (jst L false) ⟨catR 0 L, (catR 0 L).size, -1, false⟩ W' ∧ JX B w J f s ⟨catR 0 L, (catR 0 L).size, -1, false⟩ W' := by
  obtain ⟨v, hF⟩ := h.file
  have hsm := small_catR L 0 hLs
  have hsc := scan_all L (fun r hr => by have := hLs r hr; omega) (by omega)
  exact (jw_open B f w v _ W hF h.below h.hB L rfl rfl (by show (catR 0 L).size ≤ 1048576; omega) hsc (by show (catR 0 L).extract 0 (endOf (scanL (catR 0 L))) = _; rw [hsc, posL_end]; exact ByteArray.extract_zero_size)).mono fun e W' ⟨he, h1, h2⟩ => ⟨he, h1, h.other h2 h1⟩
theorem same_same (B f : Nat) (w : World) (L : List ByteArray) (hL : L.length ≤ 64) (A A1 : Option Addr) (c c1 : Nat) (W : World) (h1 : Rd W W.heap.size A (recsV L)) (h2 : Rd W W.heap.size A1 (recsV L)) :
    Calls Try.prog 33 #[.slice A L.length c, .slice A1 L.length c1] W fun e W' => e = .returned (.bool true) ∧ Below W.heap.size W W' := by
  have := same_any A A1 c c1 L L W h1 h2 (by omega) (by omega)
  rwa [decide_eq_true rfl] at this
set_option maxRecDepth 100000 in
set_option maxHeartbeats 8000000 in
theorem walkJournalAppends {w : World} (A : Option Addr) (c : Nat) (l : List ByteArray) (hc : l.length ≤ c) (hcm : c ≤ maxLen) (hrd : Rd w w.heap.size A (l.map Value.string)) (hs : ∀ s ∈ l, s.size ≤ maxLen) (a : Int) (ha : (Lit.int .u8 a).wf = true) (n : Int) (hn : (Lit.int .i64 n).wf = true) (_w : World) :
    Calls Try.prog 13 #[.slice A l.length c, .int .u8 a, .int .i64 n] w fun e w' => e = .returned (.bool true) ∧ Below w.heap.size w w' := by
  have cc := cut_any A c l w hc hcm hrd hs
  have hL := cutL_len l
  have hLs := Lib.hid (cutL_small l)
  generalize cutL l = L at *
  have ha2 := u8_range ha
  have hn2 := i64_range hn
  obtain ⟨a', rfl⟩ : ∃ k : Nat, a = (k : Int) := ⟨a.toNat, by omega⟩
  clear hrd hs ha hn
  obtain ⟨N, hN⟩ : ∃ N, N = a' % (L.length + 1) := ⟨_, rfl⟩
  have hNL : N ≤ L.length := by have : a' % (L.length + 1) < L.length + 1 := Nat.mod_lt a' (Nat.succ_pos L.length); omega
  have w1 : IntKind.i64.wrap ((L.length : Int) + 1) = (L.length : Int) + 1 := IntWalk.i64_in _ (by omega)
  have w2 : ((a' : Nat) : Int).tmod ((L.length : Int) + 1) = (N : Int) := by
    rw [Int.tmod_eq_emod_of_nonneg (by omega), hN]
    rfl
  have w3 : ((L.length : Int) + 1 == 0) = false := by rw [beq_eq_false_iff_ne]; omega
  clear hN
  go_enter Try.func13, Try.ntmps13
  go_wp2_with fail
  refine cc.mono ?_
  rintro e wa ⟨v, rfl, hacc⟩
  obtain ⟨A1, c1, rfl, hc1, hc1m, hrdL⟩ := acc_form hacc
  have Ba := hacc.below
  have HrdL := Lib.hid hrdL
  clear cc hacc hrdL
  go_wp2_with fail
  refine (known_any _).mono ?_
  rintro e wb ⟨rfl, Bb⟩
  have HrdL := Lib.hid (rd_below HrdL.out Bb)
  have Bw : Below w.heap.size w wb := Ba.trans (Bb.mono Ba.size)
  clear Ba Bb
  go_wp2_with fail
  refine (newfile_any _).mono ?_
  rintro e wc ⟨rfl, hF, Bc, hz⟩
  have co := jw_new wb wc hF Bc
  clear hF hz
  go_wp2_with fail
  refine co.mono ?_
  rintro e wd ⟨rfl, hX⟩
  have HX := Lib.hid hX
  have cl := jw_len wb.heap.size wb wc.heap.size wb.heap.size [] false _ wd hX
  clear co hX
  generalize hJ : wc.heap.size = J at *
  clear hJ Bc
  go_wp2_with fail
  refine cl.mono ?_
  rintro e we ⟨rfl, hbe⟩
  have HX := Lib.hid (HX.out.later hbe)
  clear cl hbe
  go_wp2_with fail
  go_loopw [11] (fun i wr => ∃ k : Nat, k ≤ L.length ∧ i = .int .i64 (k : Int) ∧ Hid (∃ syn, JX wb.heap.size wb J wb.heap.size (jst (L.take k) false) ⟨catR 0 (L.take k), syn, -1, false⟩ wr)) (fun i _ => L.length - (intOf i).toNat)
  case atStart => exact ⟨0, by omega, rfl, Lib.hid ⟨_, HX.out⟩⟩
  case round =>
    clear HX
    obtain ⟨k, hk, rfl, HS⟩ := hrel
    obtain ⟨syn, hX⟩ := HS.out
    have hln : (L.take k).length = k := by rw [List.length_take]; omega
    have e1 : max ((-1 : Int) - 1) (-1) = -1 := by decide
    clear HS
    by_cases hlt : k < L.length
    · have k0 : (0 : Int) ≤ (k : Int) := by omega
      have k1 : (k : Int) < (L.length : Int) := by omega
      obtain ⟨b, off, rfl, hlb, hcell⟩ := rd_pos HrdL.out (by rw [recsV, List.length_map]; omega)
      have hr40 : (L.getD k ByteArray.empty).size ≤ 40 := by
        have := hLs.out _ (List.getElem_mem hlt)
        simpa [hlt] using this
      have step : ∀ (syn : Nat) (W : World), JX wb.heap.size wb J wb.heap.size (jst (L.take k) false) ⟨catR 0 (L.take k), syn, -1, false⟩ W → W.cell? ⟨b, off + k, none⟩ = some (.string (L.getD k ByteArray.empty)) ∧
          Calls Try.prog 27 #[.pointer (some ⟨J, 0, none⟩), .string (L.getD k ByteArray.empty)] W fun e W' => e = .returned (.tuple #[.int .i64 (k : Int), .int .i64 0]) ∧ JX wb.heap.size wb J wb.heap.size (jst (L.take (k + 1)) false) ⟨catR 0 (L.take (k + 1)), syn, -1, false⟩ W' := fun syn W hW => by
        refine ⟨(hW.below.cell (p := ⟨b, off + k, none⟩) hlb).trans (hcell k (.string (L.getD k ByteArray.empty)) (by simp [recsV, hlt])), ?_⟩
        have ca := jw_append wb.heap.size wb J wb.heap.size (L.take k) syn (-1) (L.getD k ByteArray.empty) W hW (by decide) (by decide) (by decide) (by omega) (fun q hq => hLs.out q (List.mem_of_mem_take hq)) hr40
        rw [hln, take_snoc hlt, e1] at ca
        exact ca
      have Step := Lib.hid step
      clear step hcell
      generalize L.getD k ByteArray.empty = x at *
      by_cases hkN : k = N
      · have q1 : ((k : Int) == (N : Int)) = true := by rw [beq_iff_eq]; omega
        have cs := jw_sync wb.heap.size wb J wb.heap.size (L.take k) (L.take k) syn (-1) wr hX (by decide) (by decide) (by decide)
        rw [e1] at cs
        clear hX hkN
        go_wp2_with fail
        refine cs.mono ?_
        rintro e w2 ⟨rfl, hX2⟩
        obtain ⟨c0, ca⟩ := Step.out _ _ hX2
        clear cs hX2
        go_wp2_with fail
        refine ca.mono ?_
        rintro e w3 ⟨rfl, hX3⟩
        have HX3 := Lib.hid hX3
        clear ca hX3
        go_wp2_with fail
        go_roundw
        case rel => exact ⟨k + 1, by omega, by go_num, Lib.hid ⟨_, HX3.out⟩⟩
        case measure => simp [intOf]; omega
      · have q1 : ((k : Int) == (N : Int)) = false := by rw [beq_eq_false_iff_ne]; omega
        obtain ⟨c0, ca⟩ := Step.out _ _ hX
        clear hX hkN
        go_wp2_with fail
        refine ca.mono ?_
        rintro e w3 ⟨rfl, hX3⟩
        have HX3 := Lib.hid hX3
        clear ca hX3
        go_wp2_with fail
        go_roundw
        case rel => exact ⟨k + 1, by omega, by go_num, Lib.hid ⟨_, HX3.out⟩⟩
        case measure => simp [intOf]; omega
    · obtain rfl : k = L.length := by omega
      rw [List.take_length] at hX
      by_cases hNl : N = L.length
      · have q1 : ((N : Int) == (L.length : Int)) = true := by rw [beq_iff_eq]; omega
        have cs := jw_sync wb.heap.size wb J wb.heap.size L L syn (-1) wr hX (by decide) (by decide) (by decide)
        rw [e1] at cs
        clear hX hNl hlt hk hln
        go_wp2_with fail
        refine cs.mono ?_
        rintro e w5 ⟨rfl, hX5⟩
        have HX5 := Lib.hid hX5
        clear cs hX5
        go_wp2_with fail
        have cgt := jw_get wb.heap.size wb J wb.heap.size L false _ n w5 HX5.out (by omega)
        by_cases hin : 0 ≤ n ∧ n < (L.length : Int)
        · rw [if_pos hin] at cgt
          obtain ⟨k, rfl⟩ : ∃ k : Nat, n = (k : Int) := ⟨n.toNat, by omega⟩
          have hk : k < L.length := by omega
          have p0 : (0 : Int) ≤ (k : Int) := hin.1
          have p1 : (k : Int) < (L.length : Int) := hin.2
          have p2 : decide ((0 : Int) ≤ (k : Int)) = true := decide_eq_true p0
          rw [Int.toNat_natCast] at cgt
          obtain ⟨b, off, rfl, hlb, hcell⟩ := rd_pos HrdL.out (by rw [recsV, List.length_map]; omega)
          have q0 := hcell k (.string (L.getD k ByteArray.empty)) (by simp [recsV, hk])
          have q1 := sstr_eq (L.getD k ByteArray.empty) (L.getD k ByteArray.empty) rfl
          have hgb := fun (W : World) (hW : Below wb.heap.size wb W) => (hW.cell (p := ⟨b, off + k, none⟩) hlb).trans q0
          have Hgb := Lib.hid hgb
          clear hcell q0 hgb hin
          generalize L.getD k ByteArray.empty = x at *
          go_wp2_with fail
          refine cgt.mono ?_
          rintro e w7 ⟨rfl, hb7⟩
          have HX6 := Lib.hid (HX5.out.later hb7)
          have q0 := Hgb.out w7 HX6.out.below
          clear cgt hb7 Hgb HX5
          obtain ⟨wm, Z, hm, hcv, hZ, hbZ, _⟩ := make_long w7
          have HX7 := Lib.hid (HX6.out.later hbZ)
          have cg := jw_append_long wb.heap.size wb J wb.heap.size L _ Z wm HX7.out (by omega) (by omega) (by unfold maxLen; omega)
          clear hbZ hZ
          go_wp2_with fail
          refine cg.mono ?_
          rintro e w8 ⟨rfl, hX8⟩
          have co := app_open wb.heap.size wb.heap.size wb L (by omega) hLs.out _ J _ w8 hX8
          clear cg hX8 HX7 hm hcv
          go_wp2_with fail
          refine co.mono ?_
          rintro e w9 ⟨rfl, hXn, hXo⟩
          have HXn := Lib.hid hXn
          have HXo := Lib.hid hXo
          have cal := jw_all wb.heap.size wb J wb.heap.size L false _ w9 hXo (by omega)
          clear co hXn hXo
          generalize w8.heap.size = J2 at *
          go_wp2_with fail
          refine cal.mono ?_
          rintro e w10 ⟨⟨A10, c10, rfl, _, _, hr10, _⟩, hb10⟩
          have HXn := Lib.hid (HXn.out.later hb10)
          have HXo := Lib.hid (HXo.out.later hb10)
          have csm := same_same wb.heap.size wb.heap.size wb L (by omega) A10 (some ⟨b, off, none⟩) c10 c1 w10 hr10 (HXn.out.rd HrdL.out)
          clear cal hb10 hr10
          go_wp2_with fail
          refine csm.mono ?_
          rintro e w11 ⟨rfl, hb11⟩
          have HXn := Lib.hid (HXn.out.later hb11)
          have HXo := Lib.hid (HXo.out.later hb11)
          have cln := jw_len wb.heap.size wb J wb.heap.size L false _ w11 HXo.out
          clear csm hb11
          go_wp2_with fail
          refine cln.mono ?_
          rintro e w12 ⟨rfl, hb12⟩
          have HXn := Lib.hid (HXn.out.later hb12)
          have cal := jw_all wb.heap.size wb J2 wb.heap.size L false _ w12 HXn.out (by omega)
          clear cln hb12 HXo
          go_wp2_with fail
          refine cal.mono ?_
          rintro e w13 ⟨⟨A13, c13, rfl, _, _, hr13, _⟩, hb13⟩
          have HXn := Lib.hid (HXn.out.later hb13)
          have csm := same_same wb.heap.size wb.heap.size wb L (by omega) A13 (some ⟨b, off, none⟩) c13 c1 w13 hr13 (HXn.out.rd HrdL.out)
          clear cal hb13 hr13
          go_wp2_with fail
          refine csm.mono ?_
          rintro e w14 ⟨rfl, hb14⟩
          have HXn := Lib.hid (HXn.out.later hb14)
          have cdr := jw_dur wb.heap.size wb J2 wb.heap.size L false _ L.length w14 HXn.out (by omega) (Nat.le_refl _) (by rw [List.take_length])
          clear csm hb14
          go_wp2_with fail
          refine cdr.mono ?_
          rintro e w15 ⟨rfl, hb15⟩
          have hb := (HXn.out.later hb15).below
          go_wp2_with fail
          go_returns
          exact ⟨rfl, Bw.trans (hb.mono Bw.size)⟩
        · rw [if_neg hin] at cgt
          have z0 : none'.toList = [] := by rw [ByteArray.toList_eq]; rfl
          go_wp2_with fail
          refine cgt.mono ?_
          rintro e w7 ⟨rfl, hb7⟩
          have HX6 := Lib.hid (HX5.out.later hb7)
          clear cgt hb7 HX5
          by_cases p0 : 0 ≤ n
          · have p1 : ¬ n < (L.length : Int) := fun hh => hin ⟨p0, hh⟩
            have p2 : decide ((0 : Int) ≤ n) = true := decide_eq_true p0
            have p3 : decide (n < (L.length : Int)) = false := decide_eq_false p1
            clear hin
            obtain ⟨wm, Z, hm, hcv, hZ, hbZ, _⟩ := make_long w7
            have HX7 := Lib.hid (HX6.out.later hbZ)
            have cg := jw_append_long wb.heap.size wb J wb.heap.size L _ Z wm HX7.out (by omega) (by omega) (by unfold maxLen; omega)
            clear hbZ hZ
            go_wp2_with fail
            refine cg.mono ?_
            rintro e w8 ⟨rfl, hX8⟩
            have co := app_open wb.heap.size wb.heap.size wb L (by omega) hLs.out _ J _ w8 hX8
            clear cg hX8 HX7 hm hcv
            go_wp2_with fail
            refine co.mono ?_
            rintro e w9 ⟨rfl, hXn, hXo⟩
            have HXn := Lib.hid hXn
            have HXo := Lib.hid hXo
            have cal := jw_all wb.heap.size wb J wb.heap.size L false _ w9 hXo (by omega)
            clear co hXn hXo
            generalize w8.heap.size = J2 at *
            go_wp2_with fail
            refine cal.mono ?_
            rintro e w10 ⟨⟨A10, c10, rfl, _, _, hr10, _⟩, hb10⟩
            have HXn := Lib.hid (HXn.out.later hb10)
            have HXo := Lib.hid (HXo.out.later hb10)
            have csm := same_same wb.heap.size wb.heap.size wb L (by omega) A10 A1 c10 c1 w10 hr10 (HXn.out.rd HrdL.out)
            clear cal hb10 hr10
            go_wp2_with fail
            refine csm.mono ?_
            rintro e w11 ⟨rfl, hb11⟩
            have HXn := Lib.hid (HXn.out.later hb11)
            have HXo := Lib.hid (HXo.out.later hb11)
            have cln := jw_len wb.heap.size wb J wb.heap.size L false _ w11 HXo.out
            clear csm hb11
            go_wp2_with fail
            refine cln.mono ?_
            rintro e w12 ⟨rfl, hb12⟩
            have HXn := Lib.hid (HXn.out.later hb12)
            have cal := jw_all wb.heap.size wb J2 wb.heap.size L false _ w12 HXn.out (by omega)
            clear cln hb12 HXo
            go_wp2_with fail
            refine cal.mono ?_
            rintro e w13 ⟨⟨A13, c13, rfl, _, _, hr13, _⟩, hb13⟩
            have HXn := Lib.hid (HXn.out.later hb13)
            have csm := same_same wb.heap.size wb.heap.size wb L (by omega) A13 A1 c13 c1 w13 hr13 (HXn.out.rd HrdL.out)
            clear cal hb13 hr13
            go_wp2_with fail
            refine csm.mono ?_
            rintro e w14 ⟨rfl, hb14⟩
            have HXn := Lib.hid (HXn.out.later hb14)
            have cdr := jw_dur wb.heap.size wb J2 wb.heap.size L false _ L.length w14 HXn.out (by omega) (Nat.le_refl _) (by rw [List.take_length])
            clear csm hb14
            go_wp2_with fail
            refine cdr.mono ?_
            rintro e w15 ⟨rfl, hb15⟩
            have hb := (HXn.out.later hb15).below
            go_wp2_with fail
            go_returns
            exact ⟨rfl, Bw.trans (hb.mono Bw.size)⟩
          · have p2 : decide ((0 : Int) ≤ n) = false := decide_eq_false p0
            clear hin
            obtain ⟨wm, Z, hm, hcv, hZ, hbZ, _⟩ := make_long w7
            have HX7 := Lib.hid (HX6.out.later hbZ)
            have cg := jw_append_long wb.heap.size wb J wb.heap.size L _ Z wm HX7.out (by omega) (by omega) (by unfold maxLen; omega)
            clear hbZ hZ
            go_wp2_with fail
            refine cg.mono ?_
            rintro e w8 ⟨rfl, hX8⟩
            have co := app_open wb.heap.size wb.heap.size wb L (by omega) hLs.out _ J _ w8 hX8
            clear cg hX8 HX7 hm hcv
            go_wp2_with fail
            refine co.mono ?_
            rintro e w9 ⟨rfl, hXn, hXo⟩
            have HXn := Lib.hid hXn
            have HXo := Lib.hid hXo
            have cal := jw_all wb.heap.size wb J wb.heap.size L false _ w9 hXo (by omega)
            clear co hXn hXo
            generalize w8.heap.size = J2 at *
            go_wp2_with fail
            refine cal.mono ?_
            rintro e w10 ⟨⟨A10, c10, rfl, _, _, hr10, _⟩, hb10⟩
            have HXn := Lib.hid (HXn.out.later hb10)
            have HXo := Lib.hid (HXo.out.later hb10)
            have csm := same_same wb.heap.size wb.heap.size wb L (by omega) A10 A1 c10 c1 w10 hr10 (HXn.out.rd HrdL.out)
            clear cal hb10 hr10
            go_wp2_with fail
            refine csm.mono ?_
            rintro e w11 ⟨rfl, hb11⟩
            have HXn := Lib.hid (HXn.out.later hb11)
            have HXo := Lib.hid (HXo.out.later hb11)
            have cln := jw_len wb.heap.size wb J wb.heap.size L false _ w11 HXo.out
            clear csm hb11
            go_wp2_with fail
            refine cln.mono ?_
            rintro e w12 ⟨rfl, hb12⟩
            have HXn := Lib.hid (HXn.out.later hb12)
            have cal := jw_all wb.heap.size wb J2 wb.heap.size L false _ w12 HXn.out (by omega)
            clear cln hb12 HXo
            go_wp2_with fail
            refine cal.mono ?_
            rintro e w13 ⟨⟨A13, c13, rfl, _, _, hr13, _⟩, hb13⟩
            have HXn := Lib.hid (HXn.out.later hb13)
            have csm := same_same wb.heap.size wb.heap.size wb L (by omega) A13 A1 c13 c1 w13 hr13 (HXn.out.rd HrdL.out)
            clear cal hb13 hr13
            go_wp2_with fail
            refine csm.mono ?_
            rintro e w14 ⟨rfl, hb14⟩
            have HXn := Lib.hid (HXn.out.later hb14)
            have cdr := jw_dur wb.heap.size wb J2 wb.heap.size L false _ L.length w14 HXn.out (by omega) (Nat.le_refl _) (by rw [List.take_length])
            clear csm hb14
            go_wp2_with fail
            refine cdr.mono ?_
            rintro e w15 ⟨rfl, hb15⟩
            have hb := (HXn.out.later hb15).below
            go_wp2_with fail
            go_returns
            exact ⟨rfl, Bw.trans (hb.mono Bw.size)⟩
      · have q1 : ((N : Int) == (L.length : Int)) = false := by rw [beq_eq_false_iff_ne]; omega
        have HX5 := Lib.hid hX
        clear hX hNl hlt hk hln
        go_wp2_with fail
        have cgt := jw_get wb.heap.size wb J wb.heap.size L false _ n wr HX5.out (by omega)
        by_cases hin : 0 ≤ n ∧ n < (L.length : Int)
        · rw [if_pos hin] at cgt
          obtain ⟨k, rfl⟩ : ∃ k : Nat, n = (k : Int) := ⟨n.toNat, by omega⟩
          have hk : k < L.length := by omega
          have p0 : (0 : Int) ≤ (k : Int) := hin.1
          have p1 : (k : Int) < (L.length : Int) := hin.2
          have p2 : decide ((0 : Int) ≤ (k : Int)) = true := decide_eq_true p0
          rw [Int.toNat_natCast] at cgt
          obtain ⟨b, off, rfl, hlb, hcell⟩ := rd_pos HrdL.out (by rw [recsV, List.length_map]; omega)
          have q0 := hcell k (.string (L.getD k ByteArray.empty)) (by simp [recsV, hk])
          have q1 := sstr_eq (L.getD k ByteArray.empty) (L.getD k ByteArray.empty) rfl
          have hgb := fun (W : World) (hW : Below wb.heap.size wb W) => (hW.cell (p := ⟨b, off + k, none⟩) hlb).trans q0
          have Hgb := Lib.hid hgb
          clear hcell q0 hgb hin
          generalize L.getD k ByteArray.empty = x at *
          go_wp2_with fail
          refine cgt.mono ?_
          rintro e w7 ⟨rfl, hb7⟩
          have HX6 := Lib.hid (HX5.out.later hb7)
          have q0 := Hgb.out w7 HX6.out.below
          clear cgt hb7 Hgb HX5
          obtain ⟨wm, Z, hm, hcv, hZ, hbZ, _⟩ := make_long w7
          have HX7 := Lib.hid (HX6.out.later hbZ)
          have cg := jw_append_long wb.heap.size wb J wb.heap.size L _ Z wm HX7.out (by omega) (by omega) (by unfold maxLen; omega)
          clear hbZ hZ
          go_wp2_with fail
          refine cg.mono ?_
          rintro e w8 ⟨rfl, hX8⟩
          have co := app_open wb.heap.size wb.heap.size wb L (by omega) hLs.out _ J _ w8 hX8
          clear cg hX8 HX7 hm hcv
          go_wp2_with fail
          refine co.mono ?_
          rintro e w9 ⟨rfl, hXn, hXo⟩
          have HXn := Lib.hid hXn
          have HXo := Lib.hid hXo
          have cal := jw_all wb.heap.size wb J wb.heap.size L false _ w9 hXo (by omega)
          clear co hXn hXo
          generalize w8.heap.size = J2 at *
          go_wp2_with fail
          refine cal.mono ?_
          rintro e w10 ⟨⟨A10, c10, rfl, _, _, hr10, _⟩, hb10⟩
          have HXn := Lib.hid (HXn.out.later hb10)
          have HXo := Lib.hid (HXo.out.later hb10)
          have csm := same_same wb.heap.size wb.heap.size wb L (by omega) A10 (some ⟨b, off, none⟩) c10 c1 w10 hr10 (HXn.out.rd HrdL.out)
          clear cal hb10 hr10
          go_wp2_with fail
          refine csm.mono ?_
          rintro e w11 ⟨rfl, hb11⟩
          have HXn := Lib.hid (HXn.out.later hb11)
          have HXo := Lib.hid (HXo.out.later hb11)
          have cln := jw_len wb.heap.size wb J wb.heap.size L false _ w11 HXo.out
          clear csm hb11
          go_wp2_with fail
          refine cln.mono ?_
          rintro e w12 ⟨rfl, hb12⟩
          have HXn := Lib.hid (HXn.out.later hb12)
          have cal := jw_all wb.heap.size wb J2 wb.heap.size L false _ w12 HXn.out (by omega)
          clear cln hb12 HXo
          go_wp2_with fail
          refine cal.mono ?_
          rintro e w13 ⟨⟨A13, c13, rfl, _, _, hr13, _⟩, hb13⟩
          have HXn := Lib.hid (HXn.out.later hb13)
          have csm := same_same wb.heap.size wb.heap.size wb L (by omega) A13 (some ⟨b, off, none⟩) c13 c1 w13 hr13 (HXn.out.rd HrdL.out)
          clear cal hb13 hr13
          go_wp2_with fail
          refine csm.mono ?_
          rintro e w14 ⟨rfl, hb14⟩
          have HXn := Lib.hid (HXn.out.later hb14)
          have cdr := jw_dur wb.heap.size wb J2 wb.heap.size L false _ L.length w14 HXn.out (by omega) (Nat.le_refl _) (by rw [List.take_length])
          clear csm hb14
          go_wp2_with fail
          refine cdr.mono ?_
          rintro e w15 ⟨rfl, hb15⟩
          have hb := (HXn.out.later hb15).below
          go_wp2_with fail
          go_returns
          exact ⟨rfl, Bw.trans (hb.mono Bw.size)⟩
        · rw [if_neg hin] at cgt
          have z0 : none'.toList = [] := by rw [ByteArray.toList_eq]; rfl
          go_wp2_with fail
          refine cgt.mono ?_
          rintro e w7 ⟨rfl, hb7⟩
          have HX6 := Lib.hid (HX5.out.later hb7)
          clear cgt hb7 HX5
          by_cases p0 : 0 ≤ n
          · have p1 : ¬ n < (L.length : Int) := fun hh => hin ⟨p0, hh⟩
            have p2 : decide ((0 : Int) ≤ n) = true := decide_eq_true p0
            have p3 : decide (n < (L.length : Int)) = false := decide_eq_false p1
            clear hin
            obtain ⟨wm, Z, hm, hcv, hZ, hbZ, _⟩ := make_long w7
            have HX7 := Lib.hid (HX6.out.later hbZ)
            have cg := jw_append_long wb.heap.size wb J wb.heap.size L _ Z wm HX7.out (by omega) (by omega) (by unfold maxLen; omega)
            clear hbZ hZ
            go_wp2_with fail
            refine cg.mono ?_
            rintro e w8 ⟨rfl, hX8⟩
            have co := app_open wb.heap.size wb.heap.size wb L (by omega) hLs.out _ J _ w8 hX8
            clear cg hX8 HX7 hm hcv
            go_wp2_with fail
            refine co.mono ?_
            rintro e w9 ⟨rfl, hXn, hXo⟩
            have HXn := Lib.hid hXn
            have HXo := Lib.hid hXo
            have cal := jw_all wb.heap.size wb J wb.heap.size L false _ w9 hXo (by omega)
            clear co hXn hXo
            generalize w8.heap.size = J2 at *
            go_wp2_with fail
            refine cal.mono ?_
            rintro e w10 ⟨⟨A10, c10, rfl, _, _, hr10, _⟩, hb10⟩
            have HXn := Lib.hid (HXn.out.later hb10)
            have HXo := Lib.hid (HXo.out.later hb10)
            have csm := same_same wb.heap.size wb.heap.size wb L (by omega) A10 A1 c10 c1 w10 hr10 (HXn.out.rd HrdL.out)
            clear cal hb10 hr10
            go_wp2_with fail
            refine csm.mono ?_
            rintro e w11 ⟨rfl, hb11⟩
            have HXn := Lib.hid (HXn.out.later hb11)
            have HXo := Lib.hid (HXo.out.later hb11)
            have cln := jw_len wb.heap.size wb J wb.heap.size L false _ w11 HXo.out
            clear csm hb11
            go_wp2_with fail
            refine cln.mono ?_
            rintro e w12 ⟨rfl, hb12⟩
            have HXn := Lib.hid (HXn.out.later hb12)
            have cal := jw_all wb.heap.size wb J2 wb.heap.size L false _ w12 HXn.out (by omega)
            clear cln hb12 HXo
            go_wp2_with fail
            refine cal.mono ?_
            rintro e w13 ⟨⟨A13, c13, rfl, _, _, hr13, _⟩, hb13⟩
            have HXn := Lib.hid (HXn.out.later hb13)
            have csm := same_same wb.heap.size wb.heap.size wb L (by omega) A13 A1 c13 c1 w13 hr13 (HXn.out.rd HrdL.out)
            clear cal hb13 hr13
            go_wp2_with fail
            refine csm.mono ?_
            rintro e w14 ⟨rfl, hb14⟩
            have HXn := Lib.hid (HXn.out.later hb14)
            have cdr := jw_dur wb.heap.size wb J2 wb.heap.size L false _ L.length w14 HXn.out (by omega) (Nat.le_refl _) (by rw [List.take_length])
            clear csm hb14
            go_wp2_with fail
            refine cdr.mono ?_
            rintro e w15 ⟨rfl, hb15⟩
            have hb := (HXn.out.later hb15).below
            go_wp2_with fail
            go_returns
            exact ⟨rfl, Bw.trans (hb.mono Bw.size)⟩
          · have p2 : decide ((0 : Int) ≤ n) = false := decide_eq_false p0
            clear hin
            obtain ⟨wm, Z, hm, hcv, hZ, hbZ, _⟩ := make_long w7
            have HX7 := Lib.hid (HX6.out.later hbZ)
            have cg := jw_append_long wb.heap.size wb J wb.heap.size L _ Z wm HX7.out (by omega) (by omega) (by unfold maxLen; omega)
            clear hbZ hZ
            go_wp2_with fail
            refine cg.mono ?_
            rintro e w8 ⟨rfl, hX8⟩
            have co := app_open wb.heap.size wb.heap.size wb L (by omega) hLs.out _ J _ w8 hX8
            clear cg hX8 HX7 hm hcv
            go_wp2_with fail
            refine co.mono ?_
            rintro e w9 ⟨rfl, hXn, hXo⟩
            have HXn := Lib.hid hXn
            have HXo := Lib.hid hXo
            have cal := jw_all wb.heap.size wb J wb.heap.size L false _ w9 hXo (by omega)
            clear co hXn hXo
            generalize w8.heap.size = J2 at *
            go_wp2_with fail
            refine cal.mono ?_
            rintro e w10 ⟨⟨A10, c10, rfl, _, _, hr10, _⟩, hb10⟩
            have HXn := Lib.hid (HXn.out.later hb10)
            have HXo := Lib.hid (HXo.out.later hb10)
            have csm := same_same wb.heap.size wb.heap.size wb L (by omega) A10 A1 c10 c1 w10 hr10 (HXn.out.rd HrdL.out)
            clear cal hb10 hr10
            go_wp2_with fail
            refine csm.mono ?_
            rintro e w11 ⟨rfl, hb11⟩
            have HXn := Lib.hid (HXn.out.later hb11)
            have HXo := Lib.hid (HXo.out.later hb11)
            have cln := jw_len wb.heap.size wb J wb.heap.size L false _ w11 HXo.out
            clear csm hb11
            go_wp2_with fail
            refine cln.mono ?_
            rintro e w12 ⟨rfl, hb12⟩
            have HXn := Lib.hid (HXn.out.later hb12)
            have cal := jw_all wb.heap.size wb J2 wb.heap.size L false _ w12 HXn.out (by omega)
            clear cln hb12 HXo
            go_wp2_with fail
            refine cal.mono ?_
            rintro e w13 ⟨⟨A13, c13, rfl, _, _, hr13, _⟩, hb13⟩
            have HXn := Lib.hid (HXn.out.later hb13)
            have csm := same_same wb.heap.size wb.heap.size wb L (by omega) A13 A1 c13 c1 w13 hr13 (HXn.out.rd HrdL.out)
            clear cal hb13 hr13
            go_wp2_with fail
            refine csm.mono ?_
            rintro e w14 ⟨rfl, hb14⟩
            have HXn := Lib.hid (HXn.out.later hb14)
            have cdr := jw_dur wb.heap.size wb J2 wb.heap.size L false _ L.length w14 HXn.out (by omega) (Nat.le_refl _) (by rw [List.take_length])
            clear csm hb14
            go_wp2_with fail
            refine cdr.mono ?_
            rintro e w15 ⟨rfl, hb15⟩
            have hb := (HXn.out.later hb15).below
            go_wp2_with fail
            go_returns
            exact ⟨rfl, Bw.trans (hb.mono Bw.size)⟩
end Go.Proofs.Ythfnpakddnnccaa
