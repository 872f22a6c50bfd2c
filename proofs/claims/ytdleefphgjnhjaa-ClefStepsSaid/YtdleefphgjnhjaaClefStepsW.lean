/- The walk of hemiola/hemiolalaw08.ClefSteps: it returns true, and writes nothing that was there. -/
import Derived.Test.YtdleefphgjnhjaaKnown
import Derived.Test.YtdleefphgjnhjaaRefp
import Derived.Test.YtdleefphgjnhjaaOpen
import Derived.OpenShut
namespace Go.Proofs.Ytdleefphgjnhjaa
open Go.RowKit
set_option linter.unusedVariables false
theorem box3_dn {w : World} {b : Nat} {x y z : Value} (h : Box3 w b x y z) (n : Nat) : Box3 (w.drewN n) b x y z := ⟨h.c0, h.c1, h.c2, h.f, h.lt⟩
set_option maxHeartbeats 4000000 in
theorem walkClefSteps (s al o : Int) (wa0 : (Lit.int .i64 s).wf = true) (wb0 : (Lit.int .i64 al).wf = true) (wc0 : (Lit.int .i64 o).wf = true)
    (t be u : Int) (wa1 : (Lit.int .i64 t).wf = true) (wb1 : (Lit.int .i64 be).wf = true) (wc1 : (Lit.int .i64 u).wf = true) (x y : Int) (wx : (Lit.int .u8 x).wf = true) (wy : (Lit.int .u8 y).wf = true) (w : World) :
    Calls Try.prog 4 #[.agg #[.int .i64 s, .int .i64 al, .int .i64 o], .agg #[.int .i64 t, .int .i64 be, .int .i64 u], .agg #[.int .u8 x, .int .u8 y]] w fun e w' => e = .returned (.bool true) ∧ Below w.heap.size w w' := by
  obtain ⟨x0, x1⟩ := bounds_u8 wx
  obtain ⟨y0, y1⟩ := bounds_u8 wy
  clear wa0 wb0 wc0 wa1 wb1 wc1 wx wy
  have P0 : Box3 (((w.alloc (.cells #[.int .i64 s, .int .i64 al, .int .i64 o] 24)).alloc (.cells #[.int .i64 t, .int .i64 be, .int .i64 u] 24)).alloc (.cells #[.int .u8 x, .int .u8 y] 34)) w.heap.size (.int .i64 s) (.int .i64 al) (.int .i64 o) :=
    box3_alloc (box3_alloc (box3_new _ _ _ _ _) _) _
  have Q0 : Box3 (((w.alloc (.cells #[.int .i64 s, .int .i64 al, .int .i64 o] 24)).alloc (.cells #[.int .i64 t, .int .i64 be, .int .i64 u] 24)).alloc (.cells #[.int .u8 x, .int .u8 y] 34)) (w.heap.size + 1) (.int .i64 t) (.int .i64 be) (.int .i64 u) := by
    have := box3_new (w.alloc (.cells #[.int .i64 s, .int .i64 al, .int .i64 o] 24)) (.int .i64 t) (.int .i64 be) (.int .i64 u) 24
    rw [World.size_alloc] at this
    exact box3_alloc this _
  by_cases hp : okP s al o
  · have Hp := Lib.hid hp
    obtain ⟨s0, s6, a0, a2, o0, o9⟩ := hp.1
    clear hp
    by_cases hq : okP t be u
    · have Hq := Lib.hid hq
      obtain ⟨t0, t6, b0, b2, u0, u9⟩ := hq.1
      clear hq
      obtain ⟨m0, m1⟩ := kMid_bd (c := 1 + x % 9) (by omega) (by omega)
      obtain ⟨m2, m3⟩ := kMid_bd (c := 1 + y % 9) (by omega) (by omega)
      have cx0 : 1 ≤ 1 + x % 9 := by omega
      have cx9 : 1 + x % 9 ≤ 9 := by omega
      have cy0 : 1 ≤ 1 + y % 9 := by omega
      have cy9 : 1 + y % 9 ≤ 9 := by omega
      have z1 : (7 * o + s - kMid (1 + x % 9) - (7 * u + t - kMid (1 + x % 9)) == 7 * o + s - kMid (1 + y % 9) - (7 * u + t - kMid (1 + y % 9))) = true := by simp; omega
      have Z1 := Lib.hid z1
      clear z1
      by_cases hq2 : okP t 0 u
      · have Hq2 := Lib.hid hq2
        clear hq2
        by_cases h9 : o = 9
        · subst h9
          go_enter Try.func4, Try.ntmps4
          go_wp2_with fail
          refine (known_any _).mono ?_
          rintro e w1 ⟨rfl, hb1⟩
          have B1 : Below w.heap.size w w1 := base3 hb1
          have P1 := box3_below (P0) hb1
          have Q1 := box3_below (Q0) hb1
          obtain ⟨p10, p11, p12, pf1, pl1⟩ := id P1
          obtain ⟨q10, q11, q12, qf1, ql1⟩ := id Q1
          have cc0 : w1.cell? ⟨w.heap.size + 1 + 1, 0, none⟩ = some (.int .u8 x) := (hb1.cell (p := ⟨w.heap.size + 1 + 1, 0, none⟩) (by simp)).trans (two_cells _ _ _ _ _ _).1
          have cc1 : w1.cell? ⟨w.heap.size + 1 + 1, 1, none⟩ = some (.int .u8 y) := (hb1.cell (p := ⟨w.heap.size + 1 + 1, 1, none⟩) (by simp)).trans (two_cells _ _ _ _ _ _).2
          have cl : w.heap.size + 1 + 1 < w1.heap.size := by have := hb1.size; simp at this; omega
          go_wp2_with fail
          refine (exists_ok _ _ _ _ Hp.out).mono ?_
          rintro e w2 ⟨rfl, hb2⟩
          have B2 : Below w.heap.size w w2 := next0 (B1) hb2
          have P2 := box3_below (P1) hb2
          have Q2 := box3_below (Q1) hb2
          clear p10 p11 p12 pf1 pl1 q10 q11 q12 qf1 ql1
          obtain ⟨p20, p21, p22, pf2, pl2⟩ := id P2
          obtain ⟨q20, q21, q22, qf2, ql2⟩ := id Q2
          have cc2 := (hb2.cell (p := ⟨w.heap.size + 1 + 1, 0, none⟩) cl).trans cc0
          have cc3 := (hb2.cell (p := ⟨w.heap.size + 1 + 1, 1, none⟩) cl).trans cc1
          have cl2 := Nat.lt_of_lt_of_le cl hb2.size
          clear cc0 cc1
          go_wp2_with fail
          refine (exists_ok _ _ _ _ Hq.out).mono ?_
          rintro e w3 ⟨rfl, hb3⟩
          have B3 : Below w.heap.size w w3 := next0 (B2) hb3
          have P3 := box3_below (P2) hb3
          have Q3 := box3_below (Q2) hb3
          clear p20 p21 p22 pf2 pl2 q20 q21 q22 qf2 ql2
          obtain ⟨p30, p31, p32, pf3, pl3⟩ := id P3
          obtain ⟨q30, q31, q32, qf3, ql3⟩ := id Q3
          have cc4 := (hb3.cell (p := ⟨w.heap.size + 1 + 1, 0, none⟩) cl2).trans cc2
          have cc5 := (hb3.cell (p := ⟨w.heap.size + 1 + 1, 1, none⟩) cl2).trans cc3
          clear cc2 cc3
          go_wp2_with fail
          have e1 : x.tmod 9 = x % 9 := Int.tmod_eq_emod_of_nonneg x0
          have e2 : y.tmod 9 = y % 9 := Int.tmod_eq_emod_of_nonneg y0
          have e3 : IntKind.i64.wrap (1 + x % 9) = 1 + x % 9 := IntWalk.i64_in _ (by omega)
          have e4 : IntKind.i64.wrap (1 + y % 9) = 1 + y % 9 := IntWalk.i64_in _ (by omega)
          have e5 : IntKind.i64.wrap (x % 9) = x % 9 := IntWalk.i64_in _ (by omega)
          have e6 : IntKind.i64.wrap (y % 9) = y % 9 := IntWalk.i64_in _ (by omega)
          have e7 : IntKind.i64.wrap x = x := IntWalk.i64_in _ (by omega)
          have e8 : IntKind.i64.wrap y = y := IntWalk.i64_in _ (by omega)
          go_quiet (fail)
          clear e1 e2 e3 e4 e5 e6 e7 e8 cc4 cc5
          go_wp2_with fail
          refine (position_ok _ _ _ _ _ cx0 cx9 Hp.out).mono ?_
          rintro e w4 ⟨rfl, hb4⟩
          have B4 : Below w.heap.size w w4 := next0 (below_dn B3 nq) hb4
          have P4 := box3_below (box3_dn P3 nq) hb4
          have Q4 := box3_below (box3_dn Q3 nq) hb4
          clear p30 p31 p32 pf3 pl3 q30 q31 q32 qf3 ql3
          obtain ⟨p40, p41, p42, pf4, pl4⟩ := id P4
          obtain ⟨q40, q41, q42, qf4, ql4⟩ := id Q4
          go_wp2_with fail
          refine (position_ok _ _ _ _ _ cx0 cx9 Hq.out).mono ?_
          rintro e w5 ⟨rfl, hb5⟩
          have B5 : Below w.heap.size w w5 := next0 (B4) hb5
          have P5 := box3_below (P4) hb5
          have Q5 := box3_below (Q4) hb5
          clear p40 p41 p42 pf4 pl4 q40 q41 q42 qf4 ql4
          obtain ⟨p50, p51, p52, pf5, pl5⟩ := id P5
          obtain ⟨q50, q51, q52, qf5, ql5⟩ := id Q5
          go_wp2_with fail
          refine (position_ok _ _ _ _ _ cy0 cy9 Hp.out).mono ?_
          rintro e w6 ⟨rfl, hb6⟩
          have B6 : Below w.heap.size w w6 := next0 (B5) hb6
          have P6 := box3_below (P5) hb6
          have Q6 := box3_below (Q5) hb6
          clear p50 p51 p52 pf5 pl5 q50 q51 q52 qf5 ql5
          obtain ⟨p60, p61, p62, pf6, pl6⟩ := id P6
          obtain ⟨q60, q61, q62, qf6, ql6⟩ := id Q6
          go_wp2_with fail
          refine (position_ok _ _ _ _ _ cy0 cy9 Hq.out).mono ?_
          rintro e w7 ⟨rfl, hb7⟩
          have B7 : Below w.heap.size w w7 := next0 (B6) hb7
          have P7 := box3_below (P6) hb7
          have Q7 := box3_below (Q6) hb7
          clear p60 p61 p62 pf6 pl6 q60 q61 q62 qf6 ql6
          obtain ⟨p70, p71, p72, pf7, pl7⟩ := id P7
          obtain ⟨q70, q71, q72, qf7, ql7⟩ := id Q7
          go_wp2_with fail
          refine (position_ok _ _ _ _ _ cx0 cx9 Hq2.out).mono ?_
          rintro e w8 ⟨rfl, hb8⟩
          have B8 : Below w.heap.size w w8 := next0 (B7.setCell (by simp) _) hb8
          have P8 := box3_below (box3_other P7 (by simp) _) hb8
          have Q8 := box3_below (box3_set1 Q7 _) hb8
          clear p70 p71 p72 pf7 pl7 q70 q71 q72 qf7 ql7
          obtain ⟨p80, p81, p82, pf8, pl8⟩ := id P8
          obtain ⟨q80, q81, q82, qf8, ql8⟩ := id Q8
          go_wp2_with fail
          refine (exists_ok _ _ _ _ Hq2.out).mono ?_
          rintro e w9 ⟨rfl, hb9⟩
          have B9 : Below w.heap.size w w9 := next0 (B8) hb9
          have P9 := box3_below (P8) hb9
          have Q9 := box3_below (Q8) hb9
          clear p80 p81 p82 pf8 pl8 q80 q81 q82 qf8 ql8
          obtain ⟨p90, p91, p92, pf9, pl9⟩ := id P9
          obtain ⟨q90, q91, q92, qf9, ql9⟩ := id Q9
          go_wp2_with fail
          go_returns
          exact ⟨rfl, B9⟩
        · have h8 : o ≤ 8 := by omega
          clear h9
          by_cases hp2 : okP s al (o + 1)
          · have Hp2 := Lib.hid hp2
            clear hp2
            go_enter Try.func4, Try.ntmps4
            go_wp2_with fail
            refine (known_any _).mono ?_
            rintro e w1 ⟨rfl, hb1⟩
            have B1 : Below w.heap.size w w1 := base3 hb1
            have P1 := box3_below (P0) hb1
            have Q1 := box3_below (Q0) hb1
            obtain ⟨p10, p11, p12, pf1, pl1⟩ := id P1
            obtain ⟨q10, q11, q12, qf1, ql1⟩ := id Q1
            have cc0 : w1.cell? ⟨w.heap.size + 1 + 1, 0, none⟩ = some (.int .u8 x) := (hb1.cell (p := ⟨w.heap.size + 1 + 1, 0, none⟩) (by simp)).trans (two_cells _ _ _ _ _ _).1
            have cc1 : w1.cell? ⟨w.heap.size + 1 + 1, 1, none⟩ = some (.int .u8 y) := (hb1.cell (p := ⟨w.heap.size + 1 + 1, 1, none⟩) (by simp)).trans (two_cells _ _ _ _ _ _).2
            have cl : w.heap.size + 1 + 1 < w1.heap.size := by have := hb1.size; simp at this; omega
            go_wp2_with fail
            refine (exists_ok _ _ _ _ Hp.out).mono ?_
            rintro e w2 ⟨rfl, hb2⟩
            have B2 : Below w.heap.size w w2 := next0 (B1) hb2
            have P2 := box3_below (P1) hb2
            have Q2 := box3_below (Q1) hb2
            clear p10 p11 p12 pf1 pl1 q10 q11 q12 qf1 ql1
            obtain ⟨p20, p21, p22, pf2, pl2⟩ := id P2
            obtain ⟨q20, q21, q22, qf2, ql2⟩ := id Q2
            have cc2 := (hb2.cell (p := ⟨w.heap.size + 1 + 1, 0, none⟩) cl).trans cc0
            have cc3 := (hb2.cell (p := ⟨w.heap.size + 1 + 1, 1, none⟩) cl).trans cc1
            have cl2 := Nat.lt_of_lt_of_le cl hb2.size
            clear cc0 cc1
            go_wp2_with fail
            refine (exists_ok _ _ _ _ Hq.out).mono ?_
            rintro e w3 ⟨rfl, hb3⟩
            have B3 : Below w.heap.size w w3 := next0 (B2) hb3
            have P3 := box3_below (P2) hb3
            have Q3 := box3_below (Q2) hb3
            clear p20 p21 p22 pf2 pl2 q20 q21 q22 qf2 ql2
            obtain ⟨p30, p31, p32, pf3, pl3⟩ := id P3
            obtain ⟨q30, q31, q32, qf3, ql3⟩ := id Q3
            have cc4 := (hb3.cell (p := ⟨w.heap.size + 1 + 1, 0, none⟩) cl2).trans cc2
            have cc5 := (hb3.cell (p := ⟨w.heap.size + 1 + 1, 1, none⟩) cl2).trans cc3
            clear cc2 cc3
            go_wp2_with fail
            have e1 : x.tmod 9 = x % 9 := Int.tmod_eq_emod_of_nonneg x0
            have e2 : y.tmod 9 = y % 9 := Int.tmod_eq_emod_of_nonneg y0
            have e3 : IntKind.i64.wrap (1 + x % 9) = 1 + x % 9 := IntWalk.i64_in _ (by omega)
            have e4 : IntKind.i64.wrap (1 + y % 9) = 1 + y % 9 := IntWalk.i64_in _ (by omega)
            have e5 : IntKind.i64.wrap (x % 9) = x % 9 := IntWalk.i64_in _ (by omega)
            have e6 : IntKind.i64.wrap (y % 9) = y % 9 := IntWalk.i64_in _ (by omega)
            have e7 : IntKind.i64.wrap x = x := IntWalk.i64_in _ (by omega)
            have e8 : IntKind.i64.wrap y = y := IntWalk.i64_in _ (by omega)
            go_quiet (fail)
            clear e1 e2 e3 e4 e5 e6 e7 e8 cc4 cc5
            go_wp2_with fail
            refine (position_ok _ _ _ _ _ cx0 cx9 Hp.out).mono ?_
            rintro e w4 ⟨rfl, hb4⟩
            have B4 : Below w.heap.size w w4 := next0 (below_dn B3 nq) hb4
            have P4 := box3_below (box3_dn P3 nq) hb4
            have Q4 := box3_below (box3_dn Q3 nq) hb4
            clear p30 p31 p32 pf3 pl3 q30 q31 q32 qf3 ql3
            obtain ⟨p40, p41, p42, pf4, pl4⟩ := id P4
            obtain ⟨q40, q41, q42, qf4, ql4⟩ := id Q4
            go_wp2_with fail
            refine (position_ok _ _ _ _ _ cx0 cx9 Hq.out).mono ?_
            rintro e w5 ⟨rfl, hb5⟩
            have B5 : Below w.heap.size w w5 := next0 (B4) hb5
            have P5 := box3_below (P4) hb5
            have Q5 := box3_below (Q4) hb5
            clear p40 p41 p42 pf4 pl4 q40 q41 q42 qf4 ql4
            obtain ⟨p50, p51, p52, pf5, pl5⟩ := id P5
            obtain ⟨q50, q51, q52, qf5, ql5⟩ := id Q5
            go_wp2_with fail
            refine (position_ok _ _ _ _ _ cy0 cy9 Hp.out).mono ?_
            rintro e w6 ⟨rfl, hb6⟩
            have B6 : Below w.heap.size w w6 := next0 (B5) hb6
            have P6 := box3_below (P5) hb6
            have Q6 := box3_below (Q5) hb6
            clear p50 p51 p52 pf5 pl5 q50 q51 q52 qf5 ql5
            obtain ⟨p60, p61, p62, pf6, pl6⟩ := id P6
            obtain ⟨q60, q61, q62, qf6, ql6⟩ := id Q6
            go_wp2_with fail
            refine (position_ok _ _ _ _ _ cy0 cy9 Hq.out).mono ?_
            rintro e w7 ⟨rfl, hb7⟩
            have B7 : Below w.heap.size w w7 := next0 (B6) hb7
            have P7 := box3_below (P6) hb7
            have Q7 := box3_below (Q6) hb7
            clear p60 p61 p62 pf6 pl6 q60 q61 q62 qf6 ql6
            obtain ⟨p70, p71, p72, pf7, pl7⟩ := id P7
            obtain ⟨q70, q71, q72, qf7, ql7⟩ := id Q7
            go_wp2_with fail
            refine (position_ok _ _ _ _ _ cx0 cx9 Hq2.out).mono ?_
            rintro e w8 ⟨rfl, hb8⟩
            have B8 : Below w.heap.size w w8 := next0 (B7.setCell (by simp) _) hb8
            have P8 := box3_below (box3_other P7 (by simp) _) hb8
            have Q8 := box3_below (box3_set1 Q7 _) hb8
            clear p70 p71 p72 pf7 pl7 q70 q71 q72 qf7 ql7
            obtain ⟨p80, p81, p82, pf8, pl8⟩ := id P8
            obtain ⟨q80, q81, q82, qf8, ql8⟩ := id Q8
            go_wp2_with fail
            refine (exists_ok _ _ _ _ Hq2.out).mono ?_
            rintro e w9 ⟨rfl, hb9⟩
            have B9 : Below w.heap.size w w9 := next0 (B8) hb9
            have P9 := box3_below (P8) hb9
            have Q9 := box3_below (Q8) hb9
            clear p80 p81 p82 pf8 pl8 q80 q81 q82 qf8 ql8
            obtain ⟨p90, p91, p92, pf9, pl9⟩ := id P9
            obtain ⟨q90, q91, q92, qf9, ql9⟩ := id Q9
            go_wp2_with fail
            refine (position_ok _ _ _ _ _ cx0 cx9 Hp2.out).mono ?_
            rintro e w10 ⟨rfl, hb10⟩
            have B10 : Below w.heap.size w w10 := next0 (B9.setCell (by simp) _) hb10
            have P10 := box3_below (box3_set2 P9 _) hb10
            have Q10 := box3_below (box3_other Q9 (by simp) _) hb10
            clear p90 p91 p92 pf9 pl9 q90 q91 q92 qf9 ql9
            obtain ⟨p100, p101, p102, pf10, pl10⟩ := id P10
            obtain ⟨q100, q101, q102, qf10, ql10⟩ := id Q10
            go_wp2_with fail
            refine (exists_ok _ _ _ _ Hp2.out).mono ?_
            rintro e w11 ⟨rfl, hb11⟩
            have B11 : Below w.heap.size w w11 := next0 (B10) hb11
            have P11 := box3_below (P10) hb11
            have Q11 := box3_below (Q10) hb11
            clear p100 p101 p102 pf10 pl10 q100 q101 q102 qf10 ql10
            obtain ⟨p110, p111, p112, pf11, pl11⟩ := id P11
            obtain ⟨q110, q111, q112, qf11, ql11⟩ := id Q11
            go_wp2_with fail
            go_returns
            exact ⟨ret_eq (by first | rfl | (simp; done) | (simp; omega)), B11⟩
          · have Hp2 := Lib.hid hp2
            clear hp2
            go_enter Try.func4, Try.ntmps4
            go_wp2_with fail
            refine (known_any _).mono ?_
            rintro e w1 ⟨rfl, hb1⟩
            have B1 : Below w.heap.size w w1 := base3 hb1
            have P1 := box3_below (P0) hb1
            have Q1 := box3_below (Q0) hb1
            obtain ⟨p10, p11, p12, pf1, pl1⟩ := id P1
            obtain ⟨q10, q11, q12, qf1, ql1⟩ := id Q1
            have cc0 : w1.cell? ⟨w.heap.size + 1 + 1, 0, none⟩ = some (.int .u8 x) := (hb1.cell (p := ⟨w.heap.size + 1 + 1, 0, none⟩) (by simp)).trans (two_cells _ _ _ _ _ _).1
            have cc1 : w1.cell? ⟨w.heap.size + 1 + 1, 1, none⟩ = some (.int .u8 y) := (hb1.cell (p := ⟨w.heap.size + 1 + 1, 1, none⟩) (by simp)).trans (two_cells _ _ _ _ _ _).2
            have cl : w.heap.size + 1 + 1 < w1.heap.size := by have := hb1.size; simp at this; omega
            go_wp2_with fail
            refine (exists_ok _ _ _ _ Hp.out).mono ?_
            rintro e w2 ⟨rfl, hb2⟩
            have B2 : Below w.heap.size w w2 := next0 (B1) hb2
            have P2 := box3_below (P1) hb2
            have Q2 := box3_below (Q1) hb2
            clear p10 p11 p12 pf1 pl1 q10 q11 q12 qf1 ql1
            obtain ⟨p20, p21, p22, pf2, pl2⟩ := id P2
            obtain ⟨q20, q21, q22, qf2, ql2⟩ := id Q2
            have cc2 := (hb2.cell (p := ⟨w.heap.size + 1 + 1, 0, none⟩) cl).trans cc0
            have cc3 := (hb2.cell (p := ⟨w.heap.size + 1 + 1, 1, none⟩) cl).trans cc1
            have cl2 := Nat.lt_of_lt_of_le cl hb2.size
            clear cc0 cc1
            go_wp2_with fail
            refine (exists_ok _ _ _ _ Hq.out).mono ?_
            rintro e w3 ⟨rfl, hb3⟩
            have B3 : Below w.heap.size w w3 := next0 (B2) hb3
            have P3 := box3_below (P2) hb3
            have Q3 := box3_below (Q2) hb3
            clear p20 p21 p22 pf2 pl2 q20 q21 q22 qf2 ql2
            obtain ⟨p30, p31, p32, pf3, pl3⟩ := id P3
            obtain ⟨q30, q31, q32, qf3, ql3⟩ := id Q3
            have cc4 := (hb3.cell (p := ⟨w.heap.size + 1 + 1, 0, none⟩) cl2).trans cc2
            have cc5 := (hb3.cell (p := ⟨w.heap.size + 1 + 1, 1, none⟩) cl2).trans cc3
            clear cc2 cc3
            go_wp2_with fail
            have e1 : x.tmod 9 = x % 9 := Int.tmod_eq_emod_of_nonneg x0
            have e2 : y.tmod 9 = y % 9 := Int.tmod_eq_emod_of_nonneg y0
            have e3 : IntKind.i64.wrap (1 + x % 9) = 1 + x % 9 := IntWalk.i64_in _ (by omega)
            have e4 : IntKind.i64.wrap (1 + y % 9) = 1 + y % 9 := IntWalk.i64_in _ (by omega)
            have e5 : IntKind.i64.wrap (x % 9) = x % 9 := IntWalk.i64_in _ (by omega)
            have e6 : IntKind.i64.wrap (y % 9) = y % 9 := IntWalk.i64_in _ (by omega)
            have e7 : IntKind.i64.wrap x = x := IntWalk.i64_in _ (by omega)
            have e8 : IntKind.i64.wrap y = y := IntWalk.i64_in _ (by omega)
            go_quiet (fail)
            clear e1 e2 e3 e4 e5 e6 e7 e8 cc4 cc5
            go_wp2_with fail
            refine (position_ok _ _ _ _ _ cx0 cx9 Hp.out).mono ?_
            rintro e w4 ⟨rfl, hb4⟩
            have B4 : Below w.heap.size w w4 := next0 (below_dn B3 nq) hb4
            have P4 := box3_below (box3_dn P3 nq) hb4
            have Q4 := box3_below (box3_dn Q3 nq) hb4
            clear p30 p31 p32 pf3 pl3 q30 q31 q32 qf3 ql3
            obtain ⟨p40, p41, p42, pf4, pl4⟩ := id P4
            obtain ⟨q40, q41, q42, qf4, ql4⟩ := id Q4
            go_wp2_with fail
            refine (position_ok _ _ _ _ _ cx0 cx9 Hq.out).mono ?_
            rintro e w5 ⟨rfl, hb5⟩
            have B5 : Below w.heap.size w w5 := next0 (B4) hb5
            have P5 := box3_below (P4) hb5
            have Q5 := box3_below (Q4) hb5
            clear p40 p41 p42 pf4 pl4 q40 q41 q42 qf4 ql4
            obtain ⟨p50, p51, p52, pf5, pl5⟩ := id P5
            obtain ⟨q50, q51, q52, qf5, ql5⟩ := id Q5
            go_wp2_with fail
            refine (position_ok _ _ _ _ _ cy0 cy9 Hp.out).mono ?_
            rintro e w6 ⟨rfl, hb6⟩
            have B6 : Below w.heap.size w w6 := next0 (B5) hb6
            have P6 := box3_below (P5) hb6
            have Q6 := box3_below (Q5) hb6
            clear p50 p51 p52 pf5 pl5 q50 q51 q52 qf5 ql5
            obtain ⟨p60, p61, p62, pf6, pl6⟩ := id P6
            obtain ⟨q60, q61, q62, qf6, ql6⟩ := id Q6
            go_wp2_with fail
            refine (position_ok _ _ _ _ _ cy0 cy9 Hq.out).mono ?_
            rintro e w7 ⟨rfl, hb7⟩
            have B7 : Below w.heap.size w w7 := next0 (B6) hb7
            have P7 := box3_below (P6) hb7
            have Q7 := box3_below (Q6) hb7
            clear p60 p61 p62 pf6 pl6 q60 q61 q62 qf6 ql6
            obtain ⟨p70, p71, p72, pf7, pl7⟩ := id P7
            obtain ⟨q70, q71, q72, qf7, ql7⟩ := id Q7
            go_wp2_with fail
            refine (position_ok _ _ _ _ _ cx0 cx9 Hq2.out).mono ?_
            rintro e w8 ⟨rfl, hb8⟩
            have B8 : Below w.heap.size w w8 := next0 (B7.setCell (by simp) _) hb8
            have P8 := box3_below (box3_other P7 (by simp) _) hb8
            have Q8 := box3_below (box3_set1 Q7 _) hb8
            clear p70 p71 p72 pf7 pl7 q70 q71 q72 qf7 ql7
            obtain ⟨p80, p81, p82, pf8, pl8⟩ := id P8
            obtain ⟨q80, q81, q82, qf8, ql8⟩ := id Q8
            go_wp2_with fail
            refine (exists_ok _ _ _ _ Hq2.out).mono ?_
            rintro e w9 ⟨rfl, hb9⟩
            have B9 : Below w.heap.size w w9 := next0 (B8) hb9
            have P9 := box3_below (P8) hb9
            have Q9 := box3_below (Q8) hb9
            clear p80 p81 p82 pf8 pl8 q80 q81 q82 qf8 ql8
            obtain ⟨p90, p91, p92, pf9, pl9⟩ := id P9
            obtain ⟨q90, q91, q92, qf9, ql9⟩ := id Q9
            go_wp2_with fail
            refine (position_bad _ _ _ _ _ cx0 cx9 Hp2.out).mono ?_
            rintro e w10 ⟨rfl, hb10⟩
            have B10 : Below w.heap.size w w10 := next0 (B9.setCell (by simp) _) hb10
            have P10 := box3_below (box3_set2 P9 _) hb10
            have Q10 := box3_below (box3_other Q9 (by simp) _) hb10
            clear p90 p91 p92 pf9 pl9 q90 q91 q92 qf9 ql9
            obtain ⟨p100, p101, p102, pf10, pl10⟩ := id P10
            obtain ⟨q100, q101, q102, qf10, ql10⟩ := id Q10
            go_wp2_with fail
            refine (exists_bad _ _ _ _ Hp2.out).mono ?_
            rintro e w11 ⟨rfl, hb11⟩
            have B11 : Below w.heap.size w w11 := next0 (B10) hb11
            have P11 := box3_below (P10) hb11
            have Q11 := box3_below (Q10) hb11
            clear p100 p101 p102 pf10 pl10 q100 q101 q102 qf10 ql10
            obtain ⟨p110, p111, p112, pf11, pl11⟩ := id P11
            obtain ⟨q110, q111, q112, qf11, ql11⟩ := id Q11
            go_wp2_with fail
            go_returns
            exact ⟨ret_eq (by first | rfl | (simp; done) | (simp; omega)), B11⟩
      · have Hq2 := Lib.hid hq2
        clear hq2
        by_cases h9 : o = 9
        · subst h9
          go_enter Try.func4, Try.ntmps4
          go_wp2_with fail
          refine (known_any _).mono ?_
          rintro e w1 ⟨rfl, hb1⟩
          have B1 : Below w.heap.size w w1 := base3 hb1
          have P1 := box3_below (P0) hb1
          have Q1 := box3_below (Q0) hb1
          obtain ⟨p10, p11, p12, pf1, pl1⟩ := id P1
          obtain ⟨q10, q11, q12, qf1, ql1⟩ := id Q1
          have cc0 : w1.cell? ⟨w.heap.size + 1 + 1, 0, none⟩ = some (.int .u8 x) := (hb1.cell (p := ⟨w.heap.size + 1 + 1, 0, none⟩) (by simp)).trans (two_cells _ _ _ _ _ _).1
          have cc1 : w1.cell? ⟨w.heap.size + 1 + 1, 1, none⟩ = some (.int .u8 y) := (hb1.cell (p := ⟨w.heap.size + 1 + 1, 1, none⟩) (by simp)).trans (two_cells _ _ _ _ _ _).2
          have cl : w.heap.size + 1 + 1 < w1.heap.size := by have := hb1.size; simp at this; omega
          go_wp2_with fail
          refine (exists_ok _ _ _ _ Hp.out).mono ?_
          rintro e w2 ⟨rfl, hb2⟩
          have B2 : Below w.heap.size w w2 := next0 (B1) hb2
          have P2 := box3_below (P1) hb2
          have Q2 := box3_below (Q1) hb2
          clear p10 p11 p12 pf1 pl1 q10 q11 q12 qf1 ql1
          obtain ⟨p20, p21, p22, pf2, pl2⟩ := id P2
          obtain ⟨q20, q21, q22, qf2, ql2⟩ := id Q2
          have cc2 := (hb2.cell (p := ⟨w.heap.size + 1 + 1, 0, none⟩) cl).trans cc0
          have cc3 := (hb2.cell (p := ⟨w.heap.size + 1 + 1, 1, none⟩) cl).trans cc1
          have cl2 := Nat.lt_of_lt_of_le cl hb2.size
          clear cc0 cc1
          go_wp2_with fail
          refine (exists_ok _ _ _ _ Hq.out).mono ?_
          rintro e w3 ⟨rfl, hb3⟩
          have B3 : Below w.heap.size w w3 := next0 (B2) hb3
          have P3 := box3_below (P2) hb3
          have Q3 := box3_below (Q2) hb3
          clear p20 p21 p22 pf2 pl2 q20 q21 q22 qf2 ql2
          obtain ⟨p30, p31, p32, pf3, pl3⟩ := id P3
          obtain ⟨q30, q31, q32, qf3, ql3⟩ := id Q3
          have cc4 := (hb3.cell (p := ⟨w.heap.size + 1 + 1, 0, none⟩) cl2).trans cc2
          have cc5 := (hb3.cell (p := ⟨w.heap.size + 1 + 1, 1, none⟩) cl2).trans cc3
          clear cc2 cc3
          go_wp2_with fail
          have e1 : x.tmod 9 = x % 9 := Int.tmod_eq_emod_of_nonneg x0
          have e2 : y.tmod 9 = y % 9 := Int.tmod_eq_emod_of_nonneg y0
          have e3 : IntKind.i64.wrap (1 + x % 9) = 1 + x % 9 := IntWalk.i64_in _ (by omega)
          have e4 : IntKind.i64.wrap (1 + y % 9) = 1 + y % 9 := IntWalk.i64_in _ (by omega)
          have e5 : IntKind.i64.wrap (x % 9) = x % 9 := IntWalk.i64_in _ (by omega)
          have e6 : IntKind.i64.wrap (y % 9) = y % 9 := IntWalk.i64_in _ (by omega)
          have e7 : IntKind.i64.wrap x = x := IntWalk.i64_in _ (by omega)
          have e8 : IntKind.i64.wrap y = y := IntWalk.i64_in _ (by omega)
          go_quiet (fail)
          clear e1 e2 e3 e4 e5 e6 e7 e8 cc4 cc5
          go_wp2_with fail
          refine (position_ok _ _ _ _ _ cx0 cx9 Hp.out).mono ?_
          rintro e w4 ⟨rfl, hb4⟩
          have B4 : Below w.heap.size w w4 := next0 (below_dn B3 nq) hb4
          have P4 := box3_below (box3_dn P3 nq) hb4
          have Q4 := box3_below (box3_dn Q3 nq) hb4
          clear p30 p31 p32 pf3 pl3 q30 q31 q32 qf3 ql3
          obtain ⟨p40, p41, p42, pf4, pl4⟩ := id P4
          obtain ⟨q40, q41, q42, qf4, ql4⟩ := id Q4
          go_wp2_with fail
          refine (position_ok _ _ _ _ _ cx0 cx9 Hq.out).mono ?_
          rintro e w5 ⟨rfl, hb5⟩
          have B5 : Below w.heap.size w w5 := next0 (B4) hb5
          have P5 := box3_below (P4) hb5
          have Q5 := box3_below (Q4) hb5
          clear p40 p41 p42 pf4 pl4 q40 q41 q42 qf4 ql4
          obtain ⟨p50, p51, p52, pf5, pl5⟩ := id P5
          obtain ⟨q50, q51, q52, qf5, ql5⟩ := id Q5
          go_wp2_with fail
          refine (position_ok _ _ _ _ _ cy0 cy9 Hp.out).mono ?_
          rintro e w6 ⟨rfl, hb6⟩
          have B6 : Below w.heap.size w w6 := next0 (B5) hb6
          have P6 := box3_below (P5) hb6
          have Q6 := box3_below (Q5) hb6
          clear p50 p51 p52 pf5 pl5 q50 q51 q52 qf5 ql5
          obtain ⟨p60, p61, p62, pf6, pl6⟩ := id P6
          obtain ⟨q60, q61, q62, qf6, ql6⟩ := id Q6
          go_wp2_with fail
          refine (position_ok _ _ _ _ _ cy0 cy9 Hq.out).mono ?_
          rintro e w7 ⟨rfl, hb7⟩
          have B7 : Below w.heap.size w w7 := next0 (B6) hb7
          have P7 := box3_below (P6) hb7
          have Q7 := box3_below (Q6) hb7
          clear p60 p61 p62 pf6 pl6 q60 q61 q62 qf6 ql6
          obtain ⟨p70, p71, p72, pf7, pl7⟩ := id P7
          obtain ⟨q70, q71, q72, qf7, ql7⟩ := id Q7
          go_wp2_with fail
          refine (position_bad _ _ _ _ _ cx0 cx9 Hq2.out).mono ?_
          rintro e w8 ⟨rfl, hb8⟩
          have B8 : Below w.heap.size w w8 := next0 (B7.setCell (by simp) _) hb8
          have P8 := box3_below (box3_other P7 (by simp) _) hb8
          have Q8 := box3_below (box3_set1 Q7 _) hb8
          clear p70 p71 p72 pf7 pl7 q70 q71 q72 qf7 ql7
          obtain ⟨p80, p81, p82, pf8, pl8⟩ := id P8
          obtain ⟨q80, q81, q82, qf8, ql8⟩ := id Q8
          go_wp2_with fail
          refine (exists_bad _ _ _ _ Hq2.out).mono ?_
          rintro e w9 ⟨rfl, hb9⟩
          have B9 : Below w.heap.size w w9 := next0 (B8) hb9
          have P9 := box3_below (P8) hb9
          have Q9 := box3_below (Q8) hb9
          clear p80 p81 p82 pf8 pl8 q80 q81 q82 qf8 ql8
          obtain ⟨p90, p91, p92, pf9, pl9⟩ := id P9
          obtain ⟨q90, q91, q92, qf9, ql9⟩ := id Q9
          go_wp2_with fail
          go_returns
          exact ⟨rfl, B9⟩
        · have h8 : o ≤ 8 := by omega
          clear h9
          by_cases hp2 : okP s al (o + 1)
          · have Hp2 := Lib.hid hp2
            clear hp2
            go_enter Try.func4, Try.ntmps4
            go_wp2_with fail
            refine (known_any _).mono ?_
            rintro e w1 ⟨rfl, hb1⟩
            have B1 : Below w.heap.size w w1 := base3 hb1
            have P1 := box3_below (P0) hb1
            have Q1 := box3_below (Q0) hb1
            obtain ⟨p10, p11, p12, pf1, pl1⟩ := id P1
            obtain ⟨q10, q11, q12, qf1, ql1⟩ := id Q1
            have cc0 : w1.cell? ⟨w.heap.size + 1 + 1, 0, none⟩ = some (.int .u8 x) := (hb1.cell (p := ⟨w.heap.size + 1 + 1, 0, none⟩) (by simp)).trans (two_cells _ _ _ _ _ _).1
            have cc1 : w1.cell? ⟨w.heap.size + 1 + 1, 1, none⟩ = some (.int .u8 y) := (hb1.cell (p := ⟨w.heap.size + 1 + 1, 1, none⟩) (by simp)).trans (two_cells _ _ _ _ _ _).2
            have cl : w.heap.size + 1 + 1 < w1.heap.size := by have := hb1.size; simp at this; omega
            go_wp2_with fail
            refine (exists_ok _ _ _ _ Hp.out).mono ?_
            rintro e w2 ⟨rfl, hb2⟩
            have B2 : Below w.heap.size w w2 := next0 (B1) hb2
            have P2 := box3_below (P1) hb2
            have Q2 := box3_below (Q1) hb2
            clear p10 p11 p12 pf1 pl1 q10 q11 q12 qf1 ql1
            obtain ⟨p20, p21, p22, pf2, pl2⟩ := id P2
            obtain ⟨q20, q21, q22, qf2, ql2⟩ := id Q2
            have cc2 := (hb2.cell (p := ⟨w.heap.size + 1 + 1, 0, none⟩) cl).trans cc0
            have cc3 := (hb2.cell (p := ⟨w.heap.size + 1 + 1, 1, none⟩) cl).trans cc1
            have cl2 := Nat.lt_of_lt_of_le cl hb2.size
            clear cc0 cc1
            go_wp2_with fail
            refine (exists_ok _ _ _ _ Hq.out).mono ?_
            rintro e w3 ⟨rfl, hb3⟩
            have B3 : Below w.heap.size w w3 := next0 (B2) hb3
            have P3 := box3_below (P2) hb3
            have Q3 := box3_below (Q2) hb3
            clear p20 p21 p22 pf2 pl2 q20 q21 q22 qf2 ql2
            obtain ⟨p30, p31, p32, pf3, pl3⟩ := id P3
            obtain ⟨q30, q31, q32, qf3, ql3⟩ := id Q3
            have cc4 := (hb3.cell (p := ⟨w.heap.size + 1 + 1, 0, none⟩) cl2).trans cc2
            have cc5 := (hb3.cell (p := ⟨w.heap.size + 1 + 1, 1, none⟩) cl2).trans cc3
            clear cc2 cc3
            go_wp2_with fail
            have e1 : x.tmod 9 = x % 9 := Int.tmod_eq_emod_of_nonneg x0
            have e2 : y.tmod 9 = y % 9 := Int.tmod_eq_emod_of_nonneg y0
            have e3 : IntKind.i64.wrap (1 + x % 9) = 1 + x % 9 := IntWalk.i64_in _ (by omega)
            have e4 : IntKind.i64.wrap (1 + y % 9) = 1 + y % 9 := IntWalk.i64_in _ (by omega)
            have e5 : IntKind.i64.wrap (x % 9) = x % 9 := IntWalk.i64_in _ (by omega)
            have e6 : IntKind.i64.wrap (y % 9) = y % 9 := IntWalk.i64_in _ (by omega)
            have e7 : IntKind.i64.wrap x = x := IntWalk.i64_in _ (by omega)
            have e8 : IntKind.i64.wrap y = y := IntWalk.i64_in _ (by omega)
            go_quiet (fail)
            clear e1 e2 e3 e4 e5 e6 e7 e8 cc4 cc5
            go_wp2_with fail
            refine (position_ok _ _ _ _ _ cx0 cx9 Hp.out).mono ?_
            rintro e w4 ⟨rfl, hb4⟩
            have B4 : Below w.heap.size w w4 := next0 (below_dn B3 nq) hb4
            have P4 := box3_below (box3_dn P3 nq) hb4
            have Q4 := box3_below (box3_dn Q3 nq) hb4
            clear p30 p31 p32 pf3 pl3 q30 q31 q32 qf3 ql3
            obtain ⟨p40, p41, p42, pf4, pl4⟩ := id P4
            obtain ⟨q40, q41, q42, qf4, ql4⟩ := id Q4
            go_wp2_with fail
            refine (position_ok _ _ _ _ _ cx0 cx9 Hq.out).mono ?_
            rintro e w5 ⟨rfl, hb5⟩
            have B5 : Below w.heap.size w w5 := next0 (B4) hb5
            have P5 := box3_below (P4) hb5
            have Q5 := box3_below (Q4) hb5
            clear p40 p41 p42 pf4 pl4 q40 q41 q42 qf4 ql4
            obtain ⟨p50, p51, p52, pf5, pl5⟩ := id P5
            obtain ⟨q50, q51, q52, qf5, ql5⟩ := id Q5
            go_wp2_with fail
            refine (position_ok _ _ _ _ _ cy0 cy9 Hp.out).mono ?_
            rintro e w6 ⟨rfl, hb6⟩
            have B6 : Below w.heap.size w w6 := next0 (B5) hb6
            have P6 := box3_below (P5) hb6
            have Q6 := box3_below (Q5) hb6
            clear p50 p51 p52 pf5 pl5 q50 q51 q52 qf5 ql5
            obtain ⟨p60, p61, p62, pf6, pl6⟩ := id P6
            obtain ⟨q60, q61, q62, qf6, ql6⟩ := id Q6
            go_wp2_with fail
            refine (position_ok _ _ _ _ _ cy0 cy9 Hq.out).mono ?_
            rintro e w7 ⟨rfl, hb7⟩
            have B7 : Below w.heap.size w w7 := next0 (B6) hb7
            have P7 := box3_below (P6) hb7
            have Q7 := box3_below (Q6) hb7
            clear p60 p61 p62 pf6 pl6 q60 q61 q62 qf6 ql6
            obtain ⟨p70, p71, p72, pf7, pl7⟩ := id P7
            obtain ⟨q70, q71, q72, qf7, ql7⟩ := id Q7
            go_wp2_with fail
            refine (position_bad _ _ _ _ _ cx0 cx9 Hq2.out).mono ?_
            rintro e w8 ⟨rfl, hb8⟩
            have B8 : Below w.heap.size w w8 := next0 (B7.setCell (by simp) _) hb8
            have P8 := box3_below (box3_other P7 (by simp) _) hb8
            have Q8 := box3_below (box3_set1 Q7 _) hb8
            clear p70 p71 p72 pf7 pl7 q70 q71 q72 qf7 ql7
            obtain ⟨p80, p81, p82, pf8, pl8⟩ := id P8
            obtain ⟨q80, q81, q82, qf8, ql8⟩ := id Q8
            go_wp2_with fail
            refine (exists_bad _ _ _ _ Hq2.out).mono ?_
            rintro e w9 ⟨rfl, hb9⟩
            have B9 : Below w.heap.size w w9 := next0 (B8) hb9
            have P9 := box3_below (P8) hb9
            have Q9 := box3_below (Q8) hb9
            clear p80 p81 p82 pf8 pl8 q80 q81 q82 qf8 ql8
            obtain ⟨p90, p91, p92, pf9, pl9⟩ := id P9
            obtain ⟨q90, q91, q92, qf9, ql9⟩ := id Q9
            go_wp2_with fail
            refine (position_ok _ _ _ _ _ cx0 cx9 Hp2.out).mono ?_
            rintro e w10 ⟨rfl, hb10⟩
            have B10 : Below w.heap.size w w10 := next0 (B9.setCell (by simp) _) hb10
            have P10 := box3_below (box3_set2 P9 _) hb10
            have Q10 := box3_below (box3_other Q9 (by simp) _) hb10
            clear p90 p91 p92 pf9 pl9 q90 q91 q92 qf9 ql9
            obtain ⟨p100, p101, p102, pf10, pl10⟩ := id P10
            obtain ⟨q100, q101, q102, qf10, ql10⟩ := id Q10
            go_wp2_with fail
            refine (exists_ok _ _ _ _ Hp2.out).mono ?_
            rintro e w11 ⟨rfl, hb11⟩
            have B11 : Below w.heap.size w w11 := next0 (B10) hb11
            have P11 := box3_below (P10) hb11
            have Q11 := box3_below (Q10) hb11
            clear p100 p101 p102 pf10 pl10 q100 q101 q102 qf10 ql10
            obtain ⟨p110, p111, p112, pf11, pl11⟩ := id P11
            obtain ⟨q110, q111, q112, qf11, ql11⟩ := id Q11
            go_wp2_with fail
            go_returns
            exact ⟨ret_eq (by first | rfl | (simp; done) | (simp; omega)), B11⟩
          · have Hp2 := Lib.hid hp2
            clear hp2
            go_enter Try.func4, Try.ntmps4
            go_wp2_with fail
            refine (known_any _).mono ?_
            rintro e w1 ⟨rfl, hb1⟩
            have B1 : Below w.heap.size w w1 := base3 hb1
            have P1 := box3_below (P0) hb1
            have Q1 := box3_below (Q0) hb1
            obtain ⟨p10, p11, p12, pf1, pl1⟩ := id P1
            obtain ⟨q10, q11, q12, qf1, ql1⟩ := id Q1
            have cc0 : w1.cell? ⟨w.heap.size + 1 + 1, 0, none⟩ = some (.int .u8 x) := (hb1.cell (p := ⟨w.heap.size + 1 + 1, 0, none⟩) (by simp)).trans (two_cells _ _ _ _ _ _).1
            have cc1 : w1.cell? ⟨w.heap.size + 1 + 1, 1, none⟩ = some (.int .u8 y) := (hb1.cell (p := ⟨w.heap.size + 1 + 1, 1, none⟩) (by simp)).trans (two_cells _ _ _ _ _ _).2
            have cl : w.heap.size + 1 + 1 < w1.heap.size := by have := hb1.size; simp at this; omega
            go_wp2_with fail
            refine (exists_ok _ _ _ _ Hp.out).mono ?_
            rintro e w2 ⟨rfl, hb2⟩
            have B2 : Below w.heap.size w w2 := next0 (B1) hb2
            have P2 := box3_below (P1) hb2
            have Q2 := box3_below (Q1) hb2
            clear p10 p11 p12 pf1 pl1 q10 q11 q12 qf1 ql1
            obtain ⟨p20, p21, p22, pf2, pl2⟩ := id P2
            obtain ⟨q20, q21, q22, qf2, ql2⟩ := id Q2
            have cc2 := (hb2.cell (p := ⟨w.heap.size + 1 + 1, 0, none⟩) cl).trans cc0
            have cc3 := (hb2.cell (p := ⟨w.heap.size + 1 + 1, 1, none⟩) cl).trans cc1
            have cl2 := Nat.lt_of_lt_of_le cl hb2.size
            clear cc0 cc1
            go_wp2_with fail
            refine (exists_ok _ _ _ _ Hq.out).mono ?_
            rintro e w3 ⟨rfl, hb3⟩
            have B3 : Below w.heap.size w w3 := next0 (B2) hb3
            have P3 := box3_below (P2) hb3
            have Q3 := box3_below (Q2) hb3
            clear p20 p21 p22 pf2 pl2 q20 q21 q22 qf2 ql2
            obtain ⟨p30, p31, p32, pf3, pl3⟩ := id P3
            obtain ⟨q30, q31, q32, qf3, ql3⟩ := id Q3
            have cc4 := (hb3.cell (p := ⟨w.heap.size + 1 + 1, 0, none⟩) cl2).trans cc2
            have cc5 := (hb3.cell (p := ⟨w.heap.size + 1 + 1, 1, none⟩) cl2).trans cc3
            clear cc2 cc3
            go_wp2_with fail
            have e1 : x.tmod 9 = x % 9 := Int.tmod_eq_emod_of_nonneg x0
            have e2 : y.tmod 9 = y % 9 := Int.tmod_eq_emod_of_nonneg y0
            have e3 : IntKind.i64.wrap (1 + x % 9) = 1 + x % 9 := IntWalk.i64_in _ (by omega)
            have e4 : IntKind.i64.wrap (1 + y % 9) = 1 + y % 9 := IntWalk.i64_in _ (by omega)
            have e5 : IntKind.i64.wrap (x % 9) = x % 9 := IntWalk.i64_in _ (by omega)
            have e6 : IntKind.i64.wrap (y % 9) = y % 9 := IntWalk.i64_in _ (by omega)
            have e7 : IntKind.i64.wrap x = x := IntWalk.i64_in _ (by omega)
            have e8 : IntKind.i64.wrap y = y := IntWalk.i64_in _ (by omega)
            go_quiet (fail)
            clear e1 e2 e3 e4 e5 e6 e7 e8 cc4 cc5
            go_wp2_with fail
            refine (position_ok _ _ _ _ _ cx0 cx9 Hp.out).mono ?_
            rintro e w4 ⟨rfl, hb4⟩
            have B4 : Below w.heap.size w w4 := next0 (below_dn B3 nq) hb4
            have P4 := box3_below (box3_dn P3 nq) hb4
            have Q4 := box3_below (box3_dn Q3 nq) hb4
            clear p30 p31 p32 pf3 pl3 q30 q31 q32 qf3 ql3
            obtain ⟨p40, p41, p42, pf4, pl4⟩ := id P4
            obtain ⟨q40, q41, q42, qf4, ql4⟩ := id Q4
            go_wp2_with fail
            refine (position_ok _ _ _ _ _ cx0 cx9 Hq.out).mono ?_
            rintro e w5 ⟨rfl, hb5⟩
            have B5 : Below w.heap.size w w5 := next0 (B4) hb5
            have P5 := box3_below (P4) hb5
            have Q5 := box3_below (Q4) hb5
            clear p40 p41 p42 pf4 pl4 q40 q41 q42 qf4 ql4
            obtain ⟨p50, p51, p52, pf5, pl5⟩ := id P5
            obtain ⟨q50, q51, q52, qf5, ql5⟩ := id Q5
            go_wp2_with fail
            refine (position_ok _ _ _ _ _ cy0 cy9 Hp.out).mono ?_
            rintro e w6 ⟨rfl, hb6⟩
            have B6 : Below w.heap.size w w6 := next0 (B5) hb6
            have P6 := box3_below (P5) hb6
            have Q6 := box3_below (Q5) hb6
            clear p50 p51 p52 pf5 pl5 q50 q51 q52 qf5 ql5
            obtain ⟨p60, p61, p62, pf6, pl6⟩ := id P6
            obtain ⟨q60, q61, q62, qf6, ql6⟩ := id Q6
            go_wp2_with fail
            refine (position_ok _ _ _ _ _ cy0 cy9 Hq.out).mono ?_
            rintro e w7 ⟨rfl, hb7⟩
            have B7 : Below w.heap.size w w7 := next0 (B6) hb7
            have P7 := box3_below (P6) hb7
            have Q7 := box3_below (Q6) hb7
            clear p60 p61 p62 pf6 pl6 q60 q61 q62 qf6 ql6
            obtain ⟨p70, p71, p72, pf7, pl7⟩ := id P7
            obtain ⟨q70, q71, q72, qf7, ql7⟩ := id Q7
            go_wp2_with fail
            refine (position_bad _ _ _ _ _ cx0 cx9 Hq2.out).mono ?_
            rintro e w8 ⟨rfl, hb8⟩
            have B8 : Below w.heap.size w w8 := next0 (B7.setCell (by simp) _) hb8
            have P8 := box3_below (box3_other P7 (by simp) _) hb8
            have Q8 := box3_below (box3_set1 Q7 _) hb8
            clear p70 p71 p72 pf7 pl7 q70 q71 q72 qf7 ql7
            obtain ⟨p80, p81, p82, pf8, pl8⟩ := id P8
            obtain ⟨q80, q81, q82, qf8, ql8⟩ := id Q8
            go_wp2_with fail
            refine (exists_bad _ _ _ _ Hq2.out).mono ?_
            rintro e w9 ⟨rfl, hb9⟩
            have B9 : Below w.heap.size w w9 := next0 (B8) hb9
            have P9 := box3_below (P8) hb9
            have Q9 := box3_below (Q8) hb9
            clear p80 p81 p82 pf8 pl8 q80 q81 q82 qf8 ql8
            obtain ⟨p90, p91, p92, pf9, pl9⟩ := id P9
            obtain ⟨q90, q91, q92, qf9, ql9⟩ := id Q9
            go_wp2_with fail
            refine (position_bad _ _ _ _ _ cx0 cx9 Hp2.out).mono ?_
            rintro e w10 ⟨rfl, hb10⟩
            have B10 : Below w.heap.size w w10 := next0 (B9.setCell (by simp) _) hb10
            have P10 := box3_below (box3_set2 P9 _) hb10
            have Q10 := box3_below (box3_other Q9 (by simp) _) hb10
            clear p90 p91 p92 pf9 pl9 q90 q91 q92 qf9 ql9
            obtain ⟨p100, p101, p102, pf10, pl10⟩ := id P10
            obtain ⟨q100, q101, q102, qf10, ql10⟩ := id Q10
            go_wp2_with fail
            refine (exists_bad _ _ _ _ Hp2.out).mono ?_
            rintro e w11 ⟨rfl, hb11⟩
            have B11 : Below w.heap.size w w11 := next0 (B10) hb11
            have P11 := box3_below (P10) hb11
            have Q11 := box3_below (Q10) hb11
            clear p100 p101 p102 pf10 pl10 q100 q101 q102 qf10 ql10
            obtain ⟨p110, p111, p112, pf11, pl11⟩ := id P11
            obtain ⟨q110, q111, q112, qf11, ql11⟩ := id Q11
            go_wp2_with fail
            go_returns
            exact ⟨ret_eq (by first | rfl | (simp; done) | (simp; omega)), B11⟩
    · have Hq := Lib.hid hq
      clear hq
      go_enter Try.func4, Try.ntmps4
      go_wp2_with fail
      refine (known_any _).mono ?_
      rintro e w1 ⟨rfl, hb1⟩
      have B1 : Below w.heap.size w w1 := base3 hb1
      have P1 := box3_below (P0) hb1
      have Q1 := box3_below (Q0) hb1
      obtain ⟨p10, p11, p12, pf1, pl1⟩ := id P1
      obtain ⟨q10, q11, q12, qf1, ql1⟩ := id Q1
      go_wp2_with fail
      refine (exists_ok _ _ _ _ Hp.out).mono ?_
      rintro e w2 ⟨rfl, hb2⟩
      have B2 : Below w.heap.size w w2 := next0 (B1) hb2
      have P2 := box3_below (P1) hb2
      have Q2 := box3_below (Q1) hb2
      clear p10 p11 p12 pf1 pl1 q10 q11 q12 qf1 ql1
      obtain ⟨p20, p21, p22, pf2, pl2⟩ := id P2
      obtain ⟨q20, q21, q22, qf2, ql2⟩ := id Q2
      go_wp2_with fail
      refine (exists_bad _ _ _ _ Hq.out).mono ?_
      rintro e w3 ⟨rfl, hb3⟩
      have B3 : Below w.heap.size w w3 := next0 (B2) hb3
      have P3 := box3_below (P2) hb3
      have Q3 := box3_below (Q2) hb3
      clear p20 p21 p22 pf2 pl2 q20 q21 q22 qf2 ql2
      obtain ⟨p30, p31, p32, pf3, pl3⟩ := id P3
      obtain ⟨q30, q31, q32, qf3, ql3⟩ := id Q3
      go_wp2_with fail
      refine (known_any _).mono ?_
      rintro e w4 ⟨rfl, hb4⟩
      have B4 : Below w.heap.size w w4 := next0 (B3) hb4
      have P4 := box3_below (P3) hb4
      have Q4 := box3_below (Q3) hb4
      clear p30 p31 p32 pf3 pl3 q30 q31 q32 qf3 ql3
      obtain ⟨p40, p41, p42, pf4, pl4⟩ := id P4
      obtain ⟨q40, q41, q42, qf4, ql4⟩ := id Q4
      go_wp2_with fail
      go_returns
      exact ⟨rfl, B4⟩
  · have Hp := Lib.hid hp
    clear hp
    go_enter Try.func4, Try.ntmps4
    go_wp2_with fail
    refine (known_any _).mono ?_
    rintro e w1 ⟨rfl, hb1⟩
    have B1 : Below w.heap.size w w1 := base3 hb1
    have P1 := box3_below (P0) hb1
    have Q1 := box3_below (Q0) hb1
    obtain ⟨p10, p11, p12, pf1, pl1⟩ := id P1
    obtain ⟨q10, q11, q12, qf1, ql1⟩ := id Q1
    go_wp2_with fail
    refine (exists_bad _ _ _ _ Hp.out).mono ?_
    rintro e w2 ⟨rfl, hb2⟩
    have B2 : Below w.heap.size w w2 := next0 (B1) hb2
    have P2 := box3_below (P1) hb2
    have Q2 := box3_below (Q1) hb2
    clear p10 p11 p12 pf1 pl1 q10 q11 q12 qf1 ql1
    obtain ⟨p20, p21, p22, pf2, pl2⟩ := id P2
    obtain ⟨q20, q21, q22, qf2, ql2⟩ := id Q2
    go_wp2_with fail
    refine (known_any _).mono ?_
    rintro e w3 ⟨rfl, hb3⟩
    have B3 : Below w.heap.size w w3 := next0 (B2) hb3
    have P3 := box3_below (P2) hb3
    have Q3 := box3_below (Q2) hb3
    clear p20 p21 p22 pf2 pl2 q20 q21 q22 qf2 ql2
    obtain ⟨p30, p31, p32, pf3, pl3⟩ := id P3
    obtain ⟨q30, q31, q32, qf3, ql3⟩ := id Q3
    go_wp2_with fail
    go_returns
    exact ⟨rfl, B3⟩
end Go.Proofs.Ytdleefphgjnhjaa
