/- The walk of hemiola/hemiolalaw52.JournalClones: it returns true, and writes nothing that was there. -/
import Derived.Test.YthfnpakddnnccaaOpenJ
import Derived.Test.YthfnpakddnnccaaNil
import Derived.Test.YthfnpakddnnccaaEqual
import Derived.Deep.CutRange
import Derived.OpenShut
namespace Go.Proofs.Ythfnpakddnnccaa
open Go.RowKit
set_option linter.unusedVariables false
theorem str_eq (a b : ByteArray) (h : a = b) : (a.toList == b.toList) = true := by rw [h, beq_self_eq_true]
theorem str_ne (a b : ByteArray) (h : a ≠ b) : (a.toList == b.toList) = false := by
  rw [beq_eq_false_iff_ne, ByteArray.toList_eq, ByteArray.toList_eq]
  intro e
  exact h (ByteArray.ext (Array.toList_inj.1 e))
/-- What lies in memory behind the two plays and the clone. -/
structure ClonesI (b1 m1 b2 m2 : Nat) (v1 v2 : Value) (B1 B2 : Nat) (S T : FS) (W : World) : Prop where
  x : FileAt B1 W b1 v1 S
  f : ModelAt W m1 S
  y : FileAt B2 W b2 v2 T
  g : ModelAt W m2 T
theorem ClonesI.below {b1 m1 b2 m2 : Nat} {v1 v2 : Value} {B1 B2 : Nat} {S T : FS} {W W' : World} (h : ClonesI b1 m1 b2 m2 v1 v2 B1 B2 S T W) (hb : Below W.heap.size W W') : ClonesI b1 m1 b2 m2 v1 v2 B1 B2 S T W' :=
  ⟨h.x.below hb, h.f.below hb, h.y.below hb, h.g.below hb⟩
theorem eqS_comm (s t : FS) : eqS s t = eqS t s := by
  unfold eqS
  congr 1
  exact propext ⟨fun h => ⟨h.1.symm, h.2.1.symm, h.2.2.symm⟩, fun h => ⟨h.1.symm, h.2.1.symm, h.2.2.symm⟩⟩
theorem eqS_self (s : FS) : eqS s s = true := decide_eq_true ⟨rfl, rfl, rfl⟩
/-- The clone too, in the state C. -/
structure ClonesC (b1 m1 b2 m2 : Nat) (v1 v2 : Value) (B1 B2 : Nat) (S T : FS) (N bc : Nat) (vc : Value) (C : FS) (W : World) : Prop where
  i : ClonesI b1 m1 b2 m2 v1 v2 B1 B2 S T W
  c : FileAt N W bc vc C
  n : N ≤ W.heap.size
theorem ClonesC.below {b1 m1 b2 m2 : Nat} {v1 v2 : Value} {B1 B2 : Nat} {S T : FS} {N bc : Nat} {vc : Value} {C : FS} {W W' : World} (h : ClonesC b1 m1 b2 m2 v1 v2 B1 B2 S T N bc vc C W) (hb : Below W.heap.size W W') : ClonesC b1 m1 b2 m2 v1 v2 B1 B2 S T N bc vc C W' :=
  ⟨h.i.below hb, h.c.below hb, Nat.le_trans h.n hb.size⟩
/-- The files of the plays lie below N. -/
structure Low (b1 m1 b2 m2 : Nat) (v1 v2 : Value) (N : Nat) : Prop where
  b1 : b1 < N
  m1 : m1 < N
  b2 : b2 < N
  m2 : m2 < N
  v1 : ∀ k, v1.ownBlock = some k → k < N
  v2 : ∀ k, v2.ownBlock = some k → k < N
theorem ClonesI.low {b1 m1 b2 m2 : Nat} {v1 v2 : Value} {B1 B2 : Nat} {S T : FS} {W : World} (h : ClonesI b1 m1 b2 m2 v1 v2 B1 B2 S T W) : Low b1 m1 b2 m2 v1 v2 W.heap.size :=
  ⟨h.x.cells.2.2.2.2.2, h.f.cells.2.2.2.2.2, h.y.cells.2.2.2.2.2, h.g.cells.2.2.2.2.2, fun k hk => (h.x.row.lt k hk).2, fun k hk => (h.y.row.lt k hk).2⟩
theorem ClonesI.kept {b1 m1 b2 m2 : Nat} {v1 v2 : Value} {B1 B2 : Nat} {S T : FS} {W W' : World} {N : Nat} (h : ClonesI b1 m1 b2 m2 v1 v2 B1 B2 S T W) (l : Low b1 m1 b2 m2 v1 v2 N) (hb : Below N W W') : ClonesI b1 m1 b2 m2 v1 v2 B1 B2 S T W' :=
  ⟨⟨row_touch h.x.row fun k hk _ => hb.block k (l.v1 k hk), (hb.block b1 l.b1).trans h.x.blk, h.x.ge⟩, (hb.block m1 l.m1).trans h.f,
   ⟨row_touch h.y.row fun k hk _ => hb.block k (l.v2 k hk), (hb.block b2 l.b2).trans h.y.blk, h.y.ge⟩, (hb.block m2 l.m2).trans h.g⟩
/-- A step of the clone alone. -/
theorem ClonesC.step {b1 m1 b2 m2 : Nat} {v1 v2 : Value} {B1 B2 : Nat} {S T : FS} {N bc : Nat} {vc vc' : Value} {C C' : FS} {W W' : World} {row : Option Nat} (h : ClonesC b1 m1 b2 m2 v1 v2 B1 B2 S T N bc vc C W) (l : Low b1 m1 b2 m2 v1 v2 N)
    (hc : FileAt N W' bc vc' C') (ht : Touch bc row W W') (hr : ∀ k, row = some k → N ≤ k) : ClonesC b1 m1 b2 m2 v1 v2 B1 B2 S T N bc vc' C' W' ∧ Below N W W' :=
  have hb := ht.below h.n h.c.ge hr
  ⟨⟨h.i.kept l hb, hc, Nat.le_trans h.n hb.size⟩, hb⟩
def oneX : ByteArray := ⟨#[120]⟩
def afterC (S : FS) : FS := ⟨if S.down = true then S.bytes else S.bytes ++ oneX, S.syn, -1, true⟩
set_option maxRecDepth 100000 in
set_option maxHeartbeats 8000000 in
theorem clones_walk {w : World} (A : Option Addr) (c : Nat) (ops : List OpD) (hc : ops.length ≤ c) (hrd : RdOps w w.heap.size A ops) (hok : ∀ o ∈ ops, o.okR) (hn : ops.length ≤ 30)
    (A2 : Option Addr) (c2 : Nat) (ops2 : List OpD) (hc2 : ops2.length ≤ c2) (hrd2 : RdOps w w.heap.size A2 ops2) (hok2 : ∀ o ∈ ops2, o.okR) (hn2 : ops2.length ≤ 30) :
    Calls Try.prog 8 #[.slice A ops.length c, .slice A2 ops2.length c2] w fun e w' => e = .returned (.bool true) ∧ Below w.heap.size w w' := by
  have Hok := Lib.hid hok
  have Hrd := Lib.hid hrd
  have Hok2 := Lib.hid hok2
  have Hrd2 := Lib.hid hrd2
  clear hok hrd hok2 hrd2
  go_enter Try.func8, Try.ntmps8
  go_wp2_with fail
  refine (known_any _).mono ?_
  rintro e w1 ⟨rfl, B1⟩
  have z1 := B1.size
  have cp := play_any A c ops w1 (by omega) hc Hok.out (Hrd.out.below B1)
  have hS := play_ok ops Hok.out ops.length (Nat.le_refl _)
  have hT := play_ok ops2 Hok2.out ops2.length (Nat.le_refl _)
  rw [List.take_length] at hS hT
  have hS1 : (playS ops).bytes.size ≤ 1200 ∧ (playS ops).syn ≤ (playS ops).bytes.size := ⟨by have := hS.2.2.1; omega, hS.2.2.2⟩
  have hT1 : (playS ops2).bytes.size ≤ 1200 ∧ (playS ops2).syn ≤ (playS ops2).bytes.size := ⟨by have := hT.2.2.1; omega, hT.2.2.2⟩
  obtain ⟨hS2, hS3⟩ := hS1
  obtain ⟨hT2, hT3⟩ := hT1
  go_wp2_with fail
  refine cp.mono ?_
  rintro e w2 ⟨rfl, v1, hI⟩
  have B2 : Below w.heap.size w w2 := B1.trans (hI.below.mono z1)
  have cp2 := play_any A2 c2 ops2 w2 (by omega) hc2 Hok2.out (Hrd2.out.below B2)
  have HI := Lib.hid hI
  clear hS hT hI cp B1
  go_wp2_with fail
  refine cp2.mono ?_
  rintro e w3 ⟨rfl, v2, hJ⟩
  have B3 : Below w.heap.size w w3 := next0 B2 hJ.below
  have hC : ClonesI w1.heap.size (w1.heap.size + 1) w2.heap.size (w2.heap.size + 1) v1 v2 w1.heap.size w2.heap.size (playS ops) (playS ops2) w3 :=
    ⟨HI.out.file.below hJ.below, HI.out.model.below hJ.below, hJ.file, hJ.model⟩
  clear HI hJ cp2 B2 Hok Hok2 Hrd Hrd2 z1
  generalize playS ops = S at *
  generalize playS ops2 = T at *
  generalize w1.heap.size = n1 at *
  generalize w2.heap.size = n2 at *
  go_upto_region 7 with (fail)
  go_cut [9] from 48 to 78 (fun s9 wx => s9 = .bool (eqS S T) ∧ Below w3.heap.size w3 wx)
  case first =>
    obtain ⟨c0, c1, c2, c3, fr, hlt⟩ := hC.f.cells
    obtain ⟨d0, d1, d2, d3, fr', hlt'⟩ := hC.g.cells
    clear c2 d2 fr fr' hC
    by_cases e1 : S.bytes = T.bytes
    · have q1 := str_eq _ _ e1
      by_cases e2 : S.syn = T.syn
      · have q2 : ((S.syn : Int) == (T.syn : Int)) = true := by rw [beq_iff_eq]; omega
        have hfin := Lib.hid (show eqS S T = (S.down == T.down) from by
          unfold eqS
          cases hd : S.down <;> cases hd' : T.down <;> simp [e1, e2])
        clear e1 e2
        go_quiet (fail)
        go_wp2_with fail
        go_meet
        exact ⟨by rw [hfin.out], below_dn (Below.refl _ _) _⟩
      · have q2 : ((S.syn : Int) == (T.syn : Int)) = false := by rw [beq_eq_false_iff_ne]; omega
        have hfin := Lib.hid (show eqS S T = false from decide_eq_false (fun hh => e2 hh.2.1))
        clear e1 e2
        go_quiet (fail)
        go_wp2_with fail
        go_meet
        exact ⟨by rw [hfin.out], below_dn (Below.refl _ _) _⟩
    · have q1 := str_ne _ _ e1
      have hfin := Lib.hid (show eqS S T = false from decide_eq_false (fun hh => e1 hh.1))
      clear e1
      go_quiet (fail)
      go_wp2_with fail
      go_meet
      exact ⟨by rw [hfin.out], below_dn (Below.refl _ _) _⟩
  case rest =>
    obtain ⟨rfl, hb⟩ := hcut
    have hC4 := hC.below hb
    have B4 := next0 B3 hb
    have HC4 := Lib.hid hC4
    clear hC hC4 hb B3
    obtain ⟨q, hq⟩ : ∃ q, Hid (eqS S T = q) := ⟨_, Lib.hid rfl⟩
    rw [hq.out]
    have cc := fileClone_any _ _ _ _ _ HC4.out.x (by omega)
    have hlow := HC4.out.low
    go_wp2_with fail
    refine cc.mono ?_
    rintro e w5 ⟨bc, vc, rfl, hcl, hb5⟩
    have hC5 : ClonesC n1 (n1 + 1) n2 (n2 + 1) v1 v2 n1 n2 S T wc.heap.size bc vc S w5 := ⟨HC4.out.below hb5, hcl, hb5.size⟩
    have B5 := next0 B4 hb5
    have NB := Lib.hid B4.size
    clear HC4 cc hcl hb5 B4
    generalize wc.heap.size = N at *
    have E1 := equal_any _ _ _ _ _ _ _ _ _ hC5.i.x hC5.i.y (by omega) (by omega)
    rw [hq.out] at E1
    have HC5 := Lib.hid hC5
    clear hC5
    go_wp2_with fail
    refine E1.mono ?_
    rintro e w6 ⟨rfl, hb6⟩
    have hC6 := HC5.out.below hb6
    have B6 := next0 B5 hb6
    have E2 := equal_any _ _ _ _ _ _ _ _ _ hC6.i.y hC6.i.x (by omega) (by omega)
    rw [eqS_comm, hq.out] at E2
    have HC6 := Lib.hid hC6
    clear hC6 HC5 E1 hb6 B5
    go_wp2_with fail
    refine E2.mono ?_
    rintro e w7 ⟨rfl, hb7⟩
    have hC7 := HC6.out.below hb7
    have B7 := next0 B6 hb7
    have E3 := equal_any _ _ _ _ _ _ _ _ _ hC7.c hC7.i.x (by omega) (by omega)
    rw [eqS_self] at E3
    have HC7 := Lib.hid hC7
    clear hC7 HC6 E2 hb7 B6
    go_wp2_with fail
    refine E3.mono ?_
    rintro e w8 ⟨rfl, hb8⟩
    have hC8 := HC7.out.below hb8
    have B8 := next0 B7 hb8
    have E4 := setlimit_any _ _ _ _ (-1) _ hC8.c
    have HC8 := Lib.hid hC8
    clear hC8 HC7 E3 hb8 B7
    go_wp2_with fail
    refine E4.mono ?_
    rintro e w9 ⟨⟨r9, rfl⟩, hc9, ht9⟩
    obtain ⟨hC9, hb9⟩ := HC8.out.step hlow hc9 ht9 (fun k hk => by cases hk)
    have B9 : Below w.heap.size w w9 := B8.trans (hb9.mono NB.out)
    rw [show max (-1 : Int) (-1) = -1 from rfl] at hC9
    have E5 := fileAppend_any _ _ _ _ oneX _ hC9.c (by show (-1 : Int) ≤ -1; omega) (by show (-1 : Int) < _; omega) (by show S.bytes.size + 1 ≤ _; omega) hC9.n
    have HC9 := Lib.hid hC9
    clear hC9 hc9 ht9 HC8 E4 hb9 B8
    unfold oneX at E5
    go_wp2_with fail
    refine E5.mono ?_
    rintro e w10 ⟨rfl, vc10, hc10, ht10⟩
    obtain ⟨hC10, hb10⟩ := HC9.out.step hlow hc10 ht10 (fun k hk => (HC9.out.c.row.lt k hk).1)
    have B10 : Below w.heap.size w w10 := B9.trans (hb10.mono NB.out)
    have E6 := fail_any _ _ _ _ _ hC10.c
    have HC10 := Lib.hid hC10
    clear hC10 hc10 ht10 HC9 E5 hb10 B9
    go_wp2_with fail
    refine E6.mono ?_
    rintro e w11 ⟨⟨r11, rfl⟩, hc11, ht11⟩
    obtain ⟨hC11, hb11⟩ := HC10.out.step hlow hc11 ht11 (fun k hk => by cases hk)
    have B11 : Below w.heap.size w w11 := B10.trans (hb11.mono NB.out)
    have hC : Hid (({ (fAppend ⟨#[120]⟩ { S with lim := -1 }).1 with down := true } : FS) = afterC S) := by
      refine Lib.hid ?_
      unfold fAppend afterC
      by_cases hd : S.down = true
      · rw [if_pos hd, if_pos hd]
      · rw [if_neg hd, if_neg hd, if_neg (by show ¬ (-1 : Int) = 0; omega)]
        rfl
    rw [hC.out] at hC11
    have HC11 := Lib.hid hC11
    clear hC11 hc11 ht11 HC10 E6 hb11 B10 hC
    go_wp2_with fail
    refine (nil_open _).mono ?_
    rintro e w12 ⟨rfl, hb12⟩
    have hC12 := HC11.out.below hb12
    have B12 := next0 B11 hb12
    have HC12 := Lib.hid hC12
    clear hC12 HC11 hb12 B11
    go_wp2_with fail
    refine (nil_jappend _ _).mono ?_
    rintro e w13 ⟨rfl, hb13⟩
    have hC13 := HC12.out.below hb13
    have B13 := next0 B12 hb13
    have HC13 := Lib.hid hC13
    clear hC13 HC12 hb13 B12
    go_wp2_with fail
    refine (nil_get _ _).mono ?_
    rintro e w14 ⟨rfl, hb14⟩
    have hC14 := HC13.out.below hb14
    have B14 := next0 B13 hb14
    have HC14 := Lib.hid hC14
    clear hC14 HC13 hb14 B13
    have I1 := is_any _ _ _ _ _ _ HC14.out.i.x HC14.out.i.f
    go_wp2_with fail
    refine I1.mono ?_
    rintro e w15 ⟨rfl, hb15⟩
    have hC15 := HC14.out.below hb15
    have B15 := next0 B14 hb15
    have hCd : Hid ((afterC S).down = true) := Lib.hid rfl
    have hCz : (afterC S).bytes.size ≤ 16777216 := by
      unfold afterC
      split
      · show S.bytes.size ≤ _; omega
      · show (S.bytes ++ oneX).size ≤ _; rw [ByteArray.size_append]; show S.bytes.size + 1 ≤ _; omega
    have E7 := equal_any _ _ _ _ _ _ _ _ _ hC15.c hC15.i.y hCz (by omega)
    have HC15 := Lib.hid hC15
    clear hC15 HC14 I1 hb15 B14
    generalize afterC S = C at *
    go_wp2_with fail
    refine E7.mono ?_
    rintro e w16 ⟨rfl, hb16⟩
    have hC16 := HC15.out.below hb16
    have BB := next0 B15 hb16
    have b1 := bytes_any _ _ _ _ _ hC16.c
    have b2 := bytes_any _ _ _ _ _ hC16.i.y
    have s1 := synced_any _ _ _ _ _ hC16.c
    have s2 := synced_any _ _ _ _ _ hC16.i.y
    have d2 := down_any _ _ _ _ _ hC16.i.y
    clear hC16 HC15 E7 hb16 B15
    by_cases e1 : C.bytes = T.bytes
    · have q1 := str_eq _ _ e1
      by_cases e2 : C.syn = T.syn
      · have q2 : ((C.syn : Int) == (T.syn : Int)) = true := by rw [beq_iff_eq]; omega
        have hfin : eqS C T = T.down := by
          unfold eqS
          rw [hCd.out]
          cases hd' : T.down <;> simp [e1, e2]
        rw [hfin]
        clear e1 e2 hfin hCd
        generalize T.down = dT at *
        go_wp2_with fail
        refine b1.mono ?_
        rintro e w17 ⟨rfl, rfl⟩
        go_wp2_with fail
        refine b2.mono ?_
        rintro e w17 ⟨rfl, rfl⟩
        go_wp2_with fail
        refine s1.mono ?_
        rintro e w17 ⟨rfl, rfl⟩
        go_wp2_with fail
        refine s2.mono ?_
        rintro e w17 ⟨rfl, rfl⟩
        go_wp2_with fail
        refine d2.mono ?_
        rintro e w17 ⟨rfl, rfl⟩
        clear b1 b2 s1 s2 d2
        go_wp2_with (first
          | (go_at_call 38; refine (nil_append _ _).mono ?_; rintro e wn ⟨rfl, hbn⟩; replace BB := next0 BB hbn; clear hbn)
          | (go_at_call 31; refine (nil_restart _ _ _).mono ?_; rintro e wn ⟨rfl, hbn⟩; replace BB := next0 BB hbn; clear hbn)
          | (go_at_call 28; refine (nil_jsync _).mono ?_; rintro e wn ⟨rfl, hbn⟩; replace BB := next0 BB hbn; clear hbn)
          | (go_at_call 41; refine (nil_bytes _).mono ?_; rintro e wn ⟨rfl, hbn⟩; replace BB := next0 BB hbn; clear hbn)
          | (go_at_call 42; refine (nil_synced _).mono ?_; rintro e wn ⟨rfl, hbn⟩; replace BB := next0 BB hbn; clear hbn)
          | (go_at_call 32; refine (nil_len _).mono ?_; rintro e wn ⟨rfl, hbn⟩; replace BB := next0 BB hbn; clear hbn)
          | (go_at_call 29; refine (nil_durable _).mono ?_; rintro e wn ⟨rfl, hbn⟩; replace BB := next0 BB hbn; clear hbn)
          | (go_at_call 34; refine (nil_all _).mono ?_; rintro e wn ⟨rfl, hbn⟩; replace BB := next0 BB hbn; clear hbn)
          | (go_at_call 26; refine (nil_down _).mono ?_; rintro e wn ⟨rfl, hbn⟩; replace BB := next0 BB hbn; clear hbn)
          | (go_at_call 36; refine (nil_clone _).mono ?_; rintro e wn ⟨rfl, hbn⟩; replace BB := next0 BB hbn; clear hbn))
        refine (nil_equal _).mono ?_
        rintro e wn ⟨rfl, hbn⟩
        replace BB := next0 BB hbn
        clear hbn
        go_wp2_with fail
        refine (nil_equal2 _ _).mono ?_
        rintro e wm ⟨rfl, hbn⟩
        replace BB := next0 BB hbn
        go_wp2_with fail
        go_returns
        exact ⟨rfl, BB⟩
      · have q2 : ((C.syn : Int) == (T.syn : Int)) = false := by rw [beq_eq_false_iff_ne]; omega
        have hfin : eqS C T = false := decide_eq_false (fun hh => e2 hh.2.1)
        rw [hfin]
        clear e1 e2 hfin hCd
        go_wp2_with fail
        refine b1.mono ?_
        rintro e w17 ⟨rfl, rfl⟩
        go_wp2_with fail
        refine b2.mono ?_
        rintro e w17 ⟨rfl, rfl⟩
        go_wp2_with fail
        refine s1.mono ?_
        rintro e w17 ⟨rfl, rfl⟩
        go_wp2_with fail
        refine s2.mono ?_
        rintro e w17 ⟨rfl, rfl⟩
        clear b1 b2 s1 s2 d2
        go_wp2_with (first
          | (go_at_call 38; refine (nil_append _ _).mono ?_; rintro e wn ⟨rfl, hbn⟩; replace BB := next0 BB hbn; clear hbn)
          | (go_at_call 31; refine (nil_restart _ _ _).mono ?_; rintro e wn ⟨rfl, hbn⟩; replace BB := next0 BB hbn; clear hbn)
          | (go_at_call 28; refine (nil_jsync _).mono ?_; rintro e wn ⟨rfl, hbn⟩; replace BB := next0 BB hbn; clear hbn)
          | (go_at_call 41; refine (nil_bytes _).mono ?_; rintro e wn ⟨rfl, hbn⟩; replace BB := next0 BB hbn; clear hbn)
          | (go_at_call 42; refine (nil_synced _).mono ?_; rintro e wn ⟨rfl, hbn⟩; replace BB := next0 BB hbn; clear hbn)
          | (go_at_call 32; refine (nil_len _).mono ?_; rintro e wn ⟨rfl, hbn⟩; replace BB := next0 BB hbn; clear hbn)
          | (go_at_call 29; refine (nil_durable _).mono ?_; rintro e wn ⟨rfl, hbn⟩; replace BB := next0 BB hbn; clear hbn)
          | (go_at_call 34; refine (nil_all _).mono ?_; rintro e wn ⟨rfl, hbn⟩; replace BB := next0 BB hbn; clear hbn)
          | (go_at_call 26; refine (nil_down _).mono ?_; rintro e wn ⟨rfl, hbn⟩; replace BB := next0 BB hbn; clear hbn)
          | (go_at_call 36; refine (nil_clone _).mono ?_; rintro e wn ⟨rfl, hbn⟩; replace BB := next0 BB hbn; clear hbn))
        refine (nil_equal _).mono ?_
        rintro e wn ⟨rfl, hbn⟩
        replace BB := next0 BB hbn
        clear hbn
        go_wp2_with fail
        refine (nil_equal2 _ _).mono ?_
        rintro e wm ⟨rfl, hbn⟩
        replace BB := next0 BB hbn
        go_wp2_with fail
        go_returns
        exact ⟨rfl, BB⟩
    · have q1 := str_ne _ _ e1
      have hfin : eqS C T = false := decide_eq_false (fun hh => e1 hh.1)
      rw [hfin]
      clear e1 hfin hCd
      go_wp2_with fail
      refine b1.mono ?_
      rintro e w17 ⟨rfl, rfl⟩
      go_wp2_with fail
      refine b2.mono ?_
      rintro e w17 ⟨rfl, rfl⟩
      clear b1 b2 s1 s2 d2
      go_wp2_with (first
        | (go_at_call 38; refine (nil_append _ _).mono ?_; rintro e wn ⟨rfl, hbn⟩; replace BB := next0 BB hbn; clear hbn)
        | (go_at_call 31; refine (nil_restart _ _ _).mono ?_; rintro e wn ⟨rfl, hbn⟩; replace BB := next0 BB hbn; clear hbn)
        | (go_at_call 28; refine (nil_jsync _).mono ?_; rintro e wn ⟨rfl, hbn⟩; replace BB := next0 BB hbn; clear hbn)
        | (go_at_call 41; refine (nil_bytes _).mono ?_; rintro e wn ⟨rfl, hbn⟩; replace BB := next0 BB hbn; clear hbn)
        | (go_at_call 42; refine (nil_synced _).mono ?_; rintro e wn ⟨rfl, hbn⟩; replace BB := next0 BB hbn; clear hbn)
        | (go_at_call 32; refine (nil_len _).mono ?_; rintro e wn ⟨rfl, hbn⟩; replace BB := next0 BB hbn; clear hbn)
        | (go_at_call 29; refine (nil_durable _).mono ?_; rintro e wn ⟨rfl, hbn⟩; replace BB := next0 BB hbn; clear hbn)
        | (go_at_call 34; refine (nil_all _).mono ?_; rintro e wn ⟨rfl, hbn⟩; replace BB := next0 BB hbn; clear hbn)
        | (go_at_call 26; refine (nil_down _).mono ?_; rintro e wn ⟨rfl, hbn⟩; replace BB := next0 BB hbn; clear hbn)
        | (go_at_call 36; refine (nil_clone _).mono ?_; rintro e wn ⟨rfl, hbn⟩; replace BB := next0 BB hbn; clear hbn))
      refine (nil_equal _).mono ?_
      rintro e wn ⟨rfl, hbn⟩
      replace BB := next0 BB hbn
      clear hbn
      go_wp2_with fail
      refine (nil_equal2 _ _).mono ?_
      rintro e wm ⟨rfl, hbn⟩
      replace BB := next0 BB hbn
      go_wp2_with fail
      go_returns
      exact ⟨rfl, BB⟩
set_option maxRecDepth 100000 in
set_option maxHeartbeats 4000000 in
theorem clones_long {w : World} (A : Option Addr) (c : Nat) (ops : List OpD) (A2 : Option Addr) (c2 : Nat) (ops2 : List OpD) (hn : 30 < ops.length ∨ (ops.length ≤ 30 ∧ 30 < ops2.length)) :
    Calls Try.prog 8 #[.slice A ops.length c, .slice A2 ops2.length c2] w fun e w' => e = .returned (.bool true) ∧ Below w.heap.size w w' := by
  rcases hn with hn | ⟨hn, hn2⟩
  all_goals
    go_enter Try.func8, Try.ntmps8
    go_wp2_with fail
    refine (known_any _).mono ?_
    rintro e w1 ⟨rfl, B1⟩
    have z1 := B1.size
    go_wp2_with fail
    refine (known_any _).mono ?_
    rintro e w2 ⟨rfl, B2⟩
    go_wp2_with fail
    go_returns
    exact ⟨rfl, B1.trans (B2.mono z1)⟩
theorem walkJournalClones {w : World} (A : Option Addr) (c : Nat) (ops : List OpD) (hc : ops.length ≤ c) (hrd : RdOps w w.heap.size A ops) (hok : ∀ o ∈ ops, o.okR)
    (A2 : Option Addr) (c2 : Nat) (ops2 : List OpD) (hc2 : ops2.length ≤ c2) (hrd2 : RdOps w w.heap.size A2 ops2) (hok2 : ∀ o ∈ ops2, o.okR) (_w : World) :
    Calls Try.prog 8 #[.slice A ops.length c, .slice A2 ops2.length c2] w fun e w' => e = .returned (.bool true) ∧ Below w.heap.size w w' := by
  by_cases h1 : ops.length ≤ 30
  · by_cases h2 : ops2.length ≤ 30
    · exact clones_walk A c ops hc hrd hok h1 A2 c2 ops2 hc2 hrd2 hok2 h2
    · exact clones_long A c ops A2 c2 ops2 (.inr ⟨h1, by omega⟩)
  · exact clones_long A c ops A2 c2 ops2 (.inl (by omega))
end Go.Proofs.Ythfnpakddnnccaa
