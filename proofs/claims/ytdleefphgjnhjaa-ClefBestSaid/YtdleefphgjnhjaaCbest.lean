/- Best of package clef and of the reference: contracts. -/
import Derived.Test.YtdleefphgjnhjaaCpits
import Derived.Test.YtdleefphgjnhjaaClef
import Derived.Test.YtdleefphgjnhjaaRefc
import Derived.Test.YtdleefphgjnhjaaRefp
import Derived.BigQuiet
namespace Go.Proofs.Ytdleefphgjnhjaa
open Go.RowKit
set_option linter.unusedVariables false

/-- The ledger lines that the first k pitches need. -/
def lnT (c : Int) (L : List Pit) : Nat → Int
  | 0 => 0
  | k + 1 => lnT c L k + ((ledger (7 * (L.getD k default).2.2 + (L.getD k default).1 - kMid c)).length : Int)
theorem ledger_len (p : Int) : (ledger p).length ≤ 400 := by
  unfold ledger
  split
  · exact Nat.zero_le _
  · rw [List.length_append, ups_len, downs_len]; omega
theorem lnT_bd (c : Int) (L : List Pit) : ∀ k, 0 ≤ lnT c L k ∧ lnT c L k ≤ 400 * (k : Int) := by
  intro k
  induction k with
  | zero => exact ⟨Int.le_refl _, by show (0 : Int) ≤ 400 * ((0 : Nat) : Int); omega⟩
  | succ k ih =>
    have h := ledger_len (7 * (L.getD k default).2.2 + (L.getD k default).1 - kMid c)
    show 0 ≤ lnT c L k + _ ∧ lnT c L k + _ ≤ _
    omega
/-- What Best answers. -/
inductive BeE (cs : List Int) (L : List Pit) : Int → Int → Prop where
  | short : cs.length = 0 → BeE cs L 0 4
  | kind : cs.length ≠ 0 → (∃ k, k < cs.length ∧ (cs.getD k 0 < 1 ∨ 9 < cs.getD k 0)) → BeE cs L 0 11
  | pitch : cs.length ≠ 0 → (∀ k, k < cs.length → 1 ≤ cs.getD k 0 ∧ cs.getD k 0 ≤ 9) → (∃ k, k < L.length ∧ ¬ okQ (L.getD k default)) → BeE cs L 0 18
  | best : cs.length ≠ 0 → (∀ k, k < cs.length → 1 ≤ cs.getD k 0 ∧ cs.getD k 0 ≤ 9) → (∀ k, k < L.length → okQ (L.getD k default)) → BeE cs L (cs.getD (bestI (fun i => lnT (cs.getD i 0) L L.length) cs.length) 0) 0
theorem BeE.uniq {cs : List Int} {L : List Pit} {x e x' e' : Int} (h : BeE cs L x e) (h' : BeE cs L x' e') : x = x' ∧ e = e' := by
  have hk : ∀ (h1 : ∃ k, k < cs.length ∧ (cs.getD k 0 < 1 ∨ 9 < cs.getD k 0)) (h2 : ∀ k, k < cs.length → 1 ≤ cs.getD k 0 ∧ cs.getD k 0 ≤ 9), False := fun ⟨k, h1, h3⟩ h2 => by
    have := h2 k h1; omega
  have hp : ∀ (h1 : ∃ k, k < L.length ∧ ¬ okQ (L.getD k default)) (h2 : ∀ k, k < L.length → okQ (L.getD k default)), False := fun ⟨k, h1, h3⟩ h2 => h3 (h2 k h1)
  cases h with
  | short a => cases h' with
    | short => exact ⟨rfl, rfl⟩
    | kind b => exact absurd a b
    | pitch b => exact absurd a b
    | best b => exact absurd a b
  | kind a b => cases h' with
    | short c => exact absurd c a
    | kind => exact ⟨rfl, rfl⟩
    | pitch _ c => exact (hk b c).elim
    | best _ c => exact (hk b c).elim
  | pitch a b c => cases h' with
    | short d => exact absurd d a
    | kind _ d => exact (hk d b).elim
    | pitch => exact ⟨rfl, rfl⟩
    | best _ _ d => exact (hp c d).elim
  | best a b c => cases h' with
    | short d => exact absurd d a
    | kind _ d => exact (hk d b).elim
    | pitch _ _ d => exact (hp d c).elim
    | best => exact ⟨rfl, rfl⟩

theorem rposition_c (c s al o : Int) (w : World) (h1 : 1 ≤ c) (h9 : c ≤ 9) (h : okP s al o) :
    Calls Try.prog 26 #[.int .i64 c, .agg #[.int .i64 s, .int .i64 al, .int .i64 o]] w fun e w' => e = .returned (.int .i64 (7 * o + s - kMid c)) ∧ Below w.heap.size w w' := by
  obtain ⟨k, rfl⟩ : ∃ k : Nat, c = (k : Int) + 1 := ⟨(c - 1).toNat, by omega⟩
  obtain ⟨s0, s6, _, _, o0, o9⟩ := h.1
  exact rposition_any k s al o w (by omega) s0 s6 o0 o9

set_option maxHeartbeats 4000000 in
theorem lines_any (c : Int) (A : Option Addr) (n : Nat) (L : List Pit) (w : World) (h1 : 1 ≤ c) (h9 : c ≤ 9) (hA : Rd w w.heap.size A (pitsC L)) (hn : L.length ≤ 1000) (hL : ∀ k, k < L.length → okQ (L.getD k default)) :
    Calls Try.prog 39 #[.int .i64 c, .slice A L.length n] w fun e w' => e = .returned (.int .i64 (lnT c L L.length)) ∧ Below w.heap.size w w' := by
  have HA := Lib.hid hA
  have HL := Lib.hid hL
  clear hA hL
  go_enter Try.func39, Try.ntmps39
  go_wp2_with fail
  go_loopw [5, 6] (fun m i wr => ∃ k : Nat, k ≤ L.length ∧ i = .int .i64 (k : Int) ∧ m = .int .i64 (lnT c L k) ∧ Below w.heap.size w wr) (fun _ i _ => L.length - (intOf i).toNat)
  case atStart => exact ⟨0, by omega, rfl, rfl, Below.refl _ _⟩
  case round =>
    obtain ⟨k, hk, rfl, rfl, hb⟩ := hrel
    have hbd := lnT_bd c L k
    by_cases hlt : k < L.length
    · have k0 : (0 : Int) ≤ (k : Int) := by omega
      have k1 : (k : Int) < (L.length : Int) := by omega
      obtain ⟨b, off, rfl, hlb, q0, q1, q2⟩ := rdP HA.out hlt
      have hok := HL.out k hlt
      have l1 : lnT c L (k + 1) = lnT c L k + ((ledger (7 * (L.getD k default).2.2 + (L.getD k default).1 - kMid c)).length : Int) := rfl
      generalize L.getD k default = p at *
      obtain ⟨s, al, o⟩ := p
      have c0 := (hb.cell (p := ⟨b, off + k * 3, none⟩) hlb).trans q0
      have c1 := (hb.cell (p := ⟨b, off + k * 3 + 1, none⟩) hlb).trans q1
      have c2 := (hb.cell (p := ⟨b, off + k * 3 + 2, none⟩) hlb).trans q2
      have Hok : Hid (okP s al o) := Lib.hid hok
      obtain ⟨s0, s6, _, _, o0, o9⟩ := Hok.out.1
      have hkm := kMid_bd h1 h9
      have Hl : Hid (lnT c L (k + 1) = lnT c L k + ((ledger (7 * o + s - kMid c)).length : Int)) := Lib.hid l1
      have hll := ledger_len (7 * o + s - kMid c)
      try dsimp only at c0 c1 c2
      clear l1 hok q0 q1 q2
      generalize lnT c L k = m at *
      have cl := fun w => ref_ledger_any (7 * o + s - kMid c) w (by omega) (by omega)
      have CL := Lib.hid cl
      clear cl
      have cp := fun w => rposition_c c s al o w h1 h9 Hok.out
      have CP := Lib.hid cp
      clear cp
      generalize kMid c = kc at *
      generalize 7 * o + s - kc = pos at *
      go_wp2_with (go_at_call 26; refine (CP.out _).mono ?_; rintro e w1 ⟨rfl, hb1⟩)
      refine (CL.out _).mono ?_
      rintro e w2 ⟨v, rfl, hacc⟩
      obtain ⟨A5, c5, hv, _, _, _⟩ := acc_form hacc
      have hb2 := hacc.below
      subst hv
      clear hacc
      generalize (ledger pos).length = ll at *
      go_wp2_with fail
      go_roundw
      case rel => exact ⟨k + 1, by omega, by go_num, by rw [Hl.out], next0 (next0 hb hb1) hb2⟩
      case measure => simp [intOf]; omega
    · obtain rfl : k = L.length := by omega
      generalize hm : lnT c L L.length = m at *
      have HM := Lib.hid hm
      clear hm
      go_wp2_with fail
      go_returns
      exact ⟨by rw [HM.out]; rfl, hb⟩

theorem bI_less (g : Nat → Int) {k : Nat} (h : g k < g (bestI g k)) : bestI g (k + 1) = k := if_pos h
theorem bI_more (g : Nat → Int) {k : Nat} (h : ¬ g k < g (bestI g k)) : bestI g (k + 1) = bestI g k := if_neg h
theorem bI_one (g : Nat → Int) : bestI g 1 = 0 := by unfold bestI; split <;> rfl
def BePost (cs : List Int) (L : List Pit) (w : World) (e : Ending) (w' : World) : Prop := ∃ x y, e = .returned (.tuple #[.int .i64 x, .int .i64 y]) ∧ BeE cs L x y ∧ Below w.heap.size w w'
set_option maxHeartbeats 4000000 in
theorem rbest_any (A B : Option Addr) (ca cb : Nat) (cs : List Int) (L : List Pit) (w : World) (hA : Rd w w.heap.size A (ints cs)) (hB : Rd w w.heap.size B (pitsC L)) (hn : cs.length ≤ 100) (hn' : L.length ≤ 100) :
    Calls Try.prog 32 #[.slice A cs.length ca, .slice B L.length cb] w (BePost cs L w) := by
  have HA := Lib.hid hA
  have HB := Lib.hid hB
  clear hA hB
  by_cases hz : cs.length = 0
  · have Hz := Lib.hid hz
    rw [hz]
    clear hz
    go_enter Try.func32, Try.ntmps32
    go_wp2_with fail
    go_returns
    exact ⟨0, 4, rfl, .short Hz.out, by go_grown⟩
  have hbz : ((cs.length : Int) == 0) = false := by rw [beq_eq_false_iff_ne]; omega
  have hpos : 0 < cs.length := by omega
  have cpos : (0 : Int) < (cs.length : Int) := by omega
  have Hz := Lib.hid hz
  clear hz
  go_enter Try.func32, Try.ntmps32
  go_wp2_with fail
  go_loopw [6] (fun i wr => ∃ k : Nat, k ≤ cs.length ∧ i = .int .i64 (k : Int) ∧ Hid (∀ i, i < k → 1 ≤ cs.getD i 0 ∧ cs.getD i 0 ≤ 9) ∧ Below w.heap.size w wr) (fun i _ => cs.length - (intOf i).toNat)
  case atStart => exact ⟨0, by omega, rfl, Lib.hid (fun i hi => absurd hi (Nat.not_lt_zero _)), Below.refl _ _⟩
  case round =>
    obtain ⟨k, hk, rfl, HI, hb⟩ := hrel
    by_cases hlt : k < cs.length
    · have k0 : (0 : Int) ≤ (k : Int) := by omega
      have k1 : (k : Int) < (cs.length : Int) := by omega
      obtain ⟨b, off, rfl, hlb, q0⟩ := rdI HA.out hlt
      have c0 := (hb.cell (p := ⟨b, off + k, none⟩) hlb).trans q0
      clear q0
      by_cases hv : cs.getD k 0 < 1 ∨ 9 < cs.getD k 0
      · have Hbad := Lib.hid (show ∃ k, k < cs.length ∧ (cs.getD k 0 < 1 ∨ 9 < cs.getD k 0) from ⟨k, hlt, hv⟩)
        have Hv := Lib.hid hv
        clear hv
        generalize cs.getD k 0 = x at *
        go_wp2_with (go_at_call 14; refine (valid_bad _ _ Hv.out).mono ?_; rintro e w1 ⟨rfl, hb1⟩)
        go_returns
        exact ⟨0, 11, rfl, .kind Hz.out Hbad.out, next0 hb hb1⟩
      · have v1 : 1 ≤ cs.getD k 0 := by omega
        have v9 : cs.getD k 0 ≤ 9 := by omega
        have HI1 := Lib.hid (show ∀ i, i < k + 1 → 1 ≤ cs.getD i 0 ∧ cs.getD i 0 ≤ 9 from fun i hi => by
          by_cases e : i = k
          · subst e; exact ⟨v1, v9⟩
          · exact HI.out i (by omega))
        clear hv
        generalize cs.getD k 0 = x at *
        go_wp2_with (go_at_call 14; refine (valid_ok _ _ v1 v9).mono ?_; rintro e w1 ⟨rfl, hb1⟩)
        go_roundw
        case rel => exact ⟨k + 1, by omega, by go_num, HI1, next0 hb hb1⟩
        case measure => simp [intOf]; omega
    · obtain rfl : k = cs.length := by omega
      have hbw := hb
      generalize hW : wr = W1 at *
      clear hW hb hlt
      go_wp2_with fail
      go_loopw [7] (fun i wr => ∃ k : Nat, k ≤ L.length ∧ i = .int .i64 (k : Int) ∧ Hid (∀ i, i < k → okQ (L.getD i default)) ∧ Below w.heap.size w wr) (fun i _ => L.length - (intOf i).toNat)
      case atStart => exact ⟨0, by omega, rfl, Lib.hid (fun i hi => absurd hi (Nat.not_lt_zero _)), hbw⟩
      case round =>
        obtain ⟨k, hk', rfl, HJ, hb⟩ := hrel
        by_cases hlt : k < L.length
        · have k0 : (0 : Int) ≤ (k : Int) := by omega
          have k1 : (k : Int) < (L.length : Int) := by omega
          obtain ⟨b, off, rfl, hlb, q0, q1, q2⟩ := rdP HB.out hlt
          by_cases hv : okQ (L.getD k default)
          · have HJ1 := Lib.hid (show ∀ i, i < k + 1 → okQ (L.getD i default) from fun i hi => by
              by_cases e : i = k
              · subst e; exact hv
              · exact HJ.out i (by omega))
            generalize L.getD k default = p at *
            obtain ⟨s, al, o⟩ := p
            have Hok : Hid (okP s al o) := Lib.hid hv
            have c0 := (hb.cell (p := ⟨b, off + k * 3, none⟩) hlb).trans q0
            have c1 := (hb.cell (p := ⟨b, off + k * 3 + 1, none⟩) hlb).trans q1
            have c2 := (hb.cell (p := ⟨b, off + k * 3 + 2, none⟩) hlb).trans q2
            try dsimp only at c0 c1 c2
            clear q0 q1 q2 hv
            go_wp2_with (go_at_call 17; refine (exists_ok _ _ _ _ Hok.out).mono ?_; rintro e w1 ⟨rfl, hb1⟩)
            go_roundw
            case rel => exact ⟨k + 1, by omega, by go_num, HJ1, next0 hb hb1⟩
            case measure => simp [intOf]; omega
          · have Hbad := Lib.hid (show ∃ k, k < L.length ∧ ¬ okQ (L.getD k default) from ⟨k, hlt, hv⟩)
            generalize L.getD k default = p at *
            obtain ⟨s, al, o⟩ := p
            have Hok : Hid (¬ okP s al o) := Lib.hid hv
            have c0 := (hb.cell (p := ⟨b, off + k * 3, none⟩) hlb).trans q0
            have c1 := (hb.cell (p := ⟨b, off + k * 3 + 1, none⟩) hlb).trans q1
            have c2 := (hb.cell (p := ⟨b, off + k * 3 + 2, none⟩) hlb).trans q2
            try dsimp only at c0 c1 c2
            clear q0 q1 q2 hv
            go_wp2_with (go_at_call 17; refine (exists_bad _ _ _ _ Hok.out).mono ?_; rintro e w1 ⟨rfl, hb1⟩)
            go_returns
            exact ⟨0, 18, rfl, .pitch Hz.out HI.out Hbad.out, next0 hb hb1⟩
        · obtain rfl : k = L.length := by omega
          obtain ⟨b, off, rfl, hlb, q0⟩ := rdI HA.out hpos
          rw [Nat.add_zero] at q0
          have c0 := (hb.cell (p := ⟨b, off, none⟩) hlb).trans q0
          have hbw2 := hb
          generalize hW : wr = W2 at *
          clear hW hb hlt hbw q0
          obtain ⟨z0, hz0⟩ : ∃ z, z = cs.getD 0 0 := ⟨_, rfl⟩
          rw [← hz0] at c0
          have Hz0 := Lib.hid hz0
          clear hz0
          go_wp2_with fail
          clear c0
          go_loopw [8, 9] (fun x i wr => ∃ k : Nat, 0 < k ∧ k ≤ cs.length ∧ i = .int .i64 (k : Int) ∧ x = .int .i64 (cs.getD (bestI (fun i => lnT (cs.getD i 0) L L.length) k) 0) ∧ Below w.heap.size w wr) (fun _ i _ => cs.length - (intOf i).toNat)
          case atStart => exact ⟨1, by omega, by omega, rfl, by rw [bI_one, ← Hz0.out], hbw2⟩
          case round =>
            obtain ⟨k, hk0, hk, rfl, rfl, hb⟩ := hrel
            by_cases hlt : k < cs.length
            · have k0 : (0 : Int) ≤ (k : Int) := by omega
              have k1 : (k : Int) < (cs.length : Int) := by omega
              obtain ⟨b', off', eA, _, q0⟩ := rdI HA.out hlt
              obtain ⟨rfl, rfl⟩ : b' = b ∧ off' = off := by
                injection eA with eA
                injection eA with e1 e2
                exact ⟨e1.symm, e2.symm⟩
              have hil := bestI_lt (fun i => lnT (cs.getD i 0) L L.length) k hk0
              have Hless := Lib.hid (fun h => bI_less (fun i => lnT (cs.getD i 0) L L.length) (k := k) h)
              have Hmore := Lib.hid (fun h => bI_more (fun i => lnT (cs.getD i 0) L L.length) (k := k) h)
              generalize bestI (fun i => lnT (cs.getD i 0) L L.length) k = m at *
              have vk := HI.out k hlt
              have vm := HI.out m (by omega)
              have hlw : b' < wr.heap.size := Nat.lt_of_lt_of_le hlb hb.size
              have c0 := (hb.cell (p := ⟨b', off' + k, none⟩) hlb).trans q0
              have HNk := Lib.hid (fun wx (h : Below w.heap.size w wx) => lines_any (cs.getD k 0) B cb L wx vk.1 vk.2 (rd_below HB.out h) (by omega) HJ.out)
              have HNm := Lib.hid (fun wx (h : Below w.heap.size w wx) => lines_any (cs.getD m 0) B cb L wx vm.1 vm.2 (rd_below HB.out h) (by omega) HJ.out)
              clear q0 eA vk vm
              try dsimp only at Hless Hmore
              generalize hxk : cs.getD k 0 = xk at *
              generalize hxm : cs.getD m 0 = xm at *
              have Hxk := Lib.hid hxk
              have Hxm := Lib.hid hxm
              clear hxk hxm
              go_wp2_with fail
              refine (HNk.out _ hb).mono ?_
              rintro e w2 ⟨rfl, hb2⟩
              have hbb2 := next0 hb hb2
              go_wp2_with fail
              refine (HNm.out _ hbb2).mono ?_
              rintro e w3 ⟨rfl, hb3⟩
              have hbb3 := next0 hbb2 hb3
              have c3 := ((next0 hb2 hb3).cell (p := ⟨b', off' + k, none⟩) hlw).trans c0
              clear HNk HNm c0
              by_cases hl : lnT xk L L.length < lnT xm L L.length
              · have e := Lib.hid (Hless.out hl)
                clear Hless Hmore
                generalize lnT xk L L.length = y at *
                generalize lnT xm L L.length = z at *
                go_wp2_with fail
                go_roundw
                case rel => exact ⟨k + 1, by omega, by omega, by go_num, by rw [e.out, Hxk.out], hbb3⟩
                case measure => simp [intOf]; omega
              · have e := Lib.hid (Hmore.out (by first | exact hl | omega))
                clear Hless Hmore
                generalize lnT xk L L.length = y at *
                generalize lnT xm L L.length = z at *
                go_wp2_with fail
                go_roundw
                case rel => exact ⟨k + 1, by omega, by omega, by go_num, by rw [e.out, Hxm.out], hbb3⟩
                case measure => simp [intOf]; omega
            · obtain rfl : k = cs.length := by omega
              go_wp2_with fail
              go_returns
              exact ⟨_, 0, rfl, .best Hz.out HI.out HJ.out, hb⟩
/-- The best so far and what it needs; none before the first. -/
structure BeI (cs : List Int) (L : List Pit) (k : Nat) (bv lv : Int) : Prop where
  zero : k = 0 → lv = -1
  pos : k ≠ 0 → bv = cs.getD (bestI (fun i => lnT (cs.getD i 0) L L.length) k) 0 ∧ lv = lnT bv L L.length
set_option maxHeartbeats 8000000 in
theorem cbest_any (A B : Option Addr) (ca cb : Nat) (cs : List Int) (L : List Pit) (w : World) (hA : Rd w w.heap.size A (ints cs)) (hB : Rd w w.heap.size B (pitsC L)) (hn : cs.length ≤ 100) (hn' : L.length ≤ 100) :
    Calls Try.prog 31 #[.slice A cs.length ca, .slice B L.length cb] w (BePost cs L w) := by
  have HA := Lib.hid hA
  have HB := Lib.hid hB
  clear hA hB
  by_cases hz : cs.length = 0
  · have Hz := Lib.hid hz
    rw [hz]
    clear hz
    go_enter Try.func31, Try.ntmps31
    go_wp2_with fail
    go_returns
    exact ⟨0, 4, rfl, .short Hz.out, by go_grown⟩
  have hbz : ((cs.length : Int) == 0) = false := by rw [beq_eq_false_iff_ne]; omega
  have Hz := Lib.hid hz
  clear hz
  go_enter Try.func31, Try.ntmps31
  go_wp2_with fail
  go_loopw [26] (fun i wr => ∃ k : Nat, k ≤ cs.length ∧ i = .int .i64 (k : Int) ∧ Hid (∀ i, i < k → 1 ≤ cs.getD i 0 ∧ cs.getD i 0 ≤ 9) ∧ Below w.heap.size w wr) (fun i _ => cs.length - (intOf i).toNat)
  case atStart => exact ⟨0, by omega, rfl, Lib.hid (fun i hi => absurd hi (Nat.not_lt_zero _)), Below.refl _ _⟩
  case round =>
    obtain ⟨k, hk, rfl, HI, hb⟩ := hrel
    by_cases hlt : k < cs.length
    · have k0 : (0 : Int) ≤ (k : Int) := by omega
      have k1 : (k : Int) < (cs.length : Int) := by omega
      obtain ⟨b, off, rfl, hlb, q0⟩ := rdI HA.out hlt
      have c0 := (hb.cell (p := ⟨b, off + k, none⟩) hlb).trans q0
      clear q0
      by_cases hv : cs.getD k 0 < 1 ∨ 9 < cs.getD k 0
      · have Hbad := Lib.hid (show ∃ k, k < cs.length ∧ (cs.getD k 0 < 1 ∨ 9 < cs.getD k 0) from ⟨k, hlt, hv⟩)
        have Hv := Lib.hid hv
        clear hv
        generalize cs.getD k 0 = x at *
        go_wp2_with (go_at_call 25; refine (ccheck_bad _ _ Hv.out).mono ?_; rintro e w1 ⟨rfl, hb1⟩)
        go_returns
        exact ⟨0, 11, rfl, .kind Hz.out Hbad.out, next0 hb hb1⟩
      · have v1 : 1 ≤ cs.getD k 0 := by omega
        have v9 : cs.getD k 0 ≤ 9 := by omega
        have HI1 := Lib.hid (show ∀ i, i < k + 1 → 1 ≤ cs.getD i 0 ∧ cs.getD i 0 ≤ 9 from fun i hi => by
          by_cases e : i = k
          · subst e; exact ⟨v1, v9⟩
          · exact HI.out i (by omega))
        clear hv
        generalize cs.getD k 0 = x at *
        go_wp2_with (go_at_call 25; refine (ccheck_ok _ _ v1 v9).mono ?_; rintro e w1 ⟨rfl, hb1⟩)
        go_roundw
        case rel => exact ⟨k + 1, by omega, by go_num, HI1, next0 hb hb1⟩
        case measure => simp [intOf]; omega
    · obtain rfl : k = cs.length := by omega
      have hbw := hb
      generalize hW : wr = W1 at *
      clear hW hb hlt
      go_wp2_with fail
      go_loopw [38] (fun i wr => ∃ k : Nat, k ≤ L.length ∧ i = .int .i64 (k : Int) ∧ Hid (∀ i, i < k → okQ (L.getD i default)) ∧ Below w.heap.size w wr) (fun i _ => L.length - (intOf i).toNat)
      case atStart => exact ⟨0, by omega, rfl, Lib.hid (fun i hi => absurd hi (Nat.not_lt_zero _)), hbw⟩
      case round =>
        obtain ⟨k, hk', rfl, HJ, hb⟩ := hrel
        by_cases hlt : k < L.length
        · have k0 : (0 : Int) ≤ (k : Int) := by omega
          have k1 : (k : Int) < (L.length : Int) := by omega
          obtain ⟨b, off, rfl, hlb, q0, q1, q2⟩ := rdP HB.out hlt
          by_cases hv : okQ (L.getD k default)
          · have HJ1 := Lib.hid (show ∀ i, i < k + 1 → okQ (L.getD i default) from fun i hi => by
              by_cases e : i = k
              · subst e; exact hv
              · exact HJ.out i (by omega))
            generalize L.getD k default = p at *
            obtain ⟨s, al, o⟩ := p
            have Hok : Hid (okP s al o) := Lib.hid hv
            have c0 := (hb.cell (p := ⟨b, off + k * 3, none⟩) hlb).trans q0
            have c1 := (hb.cell (p := ⟨b, off + k * 3 + 1, none⟩) hlb).trans q1
            have c2 := (hb.cell (p := ⟨b, off + k * 3 + 2, none⟩) hlb).trans q2
            try dsimp only at c0 c1 c2
            clear q0 q1 q2 hv
            go_wp2_with (go_at_call 38; refine (check_ok _ _ _ _ Hok.out).mono ?_; rintro e w1 ⟨rfl, hb1⟩)
            go_roundw
            case rel => exact ⟨k + 1, by omega, by go_num, HJ1, next1 hb hb1⟩
            case measure => simp [intOf]; omega
          · have Hbad := Lib.hid (show ∃ k, k < L.length ∧ ¬ okQ (L.getD k default) from ⟨k, hlt, hv⟩)
            generalize L.getD k default = p at *
            obtain ⟨s, al, o⟩ := p
            have Hok : Hid (¬ okP s al o) := Lib.hid hv
            have c0 := (hb.cell (p := ⟨b, off + k * 3, none⟩) hlb).trans q0
            have c1 := (hb.cell (p := ⟨b, off + k * 3 + 1, none⟩) hlb).trans q1
            have c2 := (hb.cell (p := ⟨b, off + k * 3 + 2, none⟩) hlb).trans q2
            try dsimp only at c0 c1 c2
            clear q0 q1 q2 hv
            go_wp2_with (go_at_call 38; refine (check_bad _ _ _ _ Hok.out).mono ?_; rintro e w1 ⟨rfl, hb1⟩)
            go_returns
            exact ⟨0, 18, rfl, .pitch Hz.out HI.out Hbad.out, next1 hb hb1⟩
        · obtain rfl : k = L.length := by omega
          have hbw2 := hb
          generalize hW : wr = W2 at *
          clear hW hb hlt hbw
          go_wp2_with fail
          go_loopw [12, 13, 50] (fun bv lv i wr => ∃ (k : Nat) (b l : Int), k ≤ cs.length ∧ i = .int .i64 (k : Int) ∧ bv = .int .i64 b ∧ lv = .int .i64 l ∧ (-1 ≤ l ∧ l ≤ 40000) ∧ Hid (BeI cs L k b l) ∧ Below w.heap.size w wr) (fun _ _ i _ => cs.length - (intOf i).toNat)
          case atStart => exact ⟨0, 0, -1, by omega, rfl, rfl, rfl, by omega, Lib.hid ⟨fun _ => rfl, fun h => absurd rfl h⟩, hbw2⟩
          case round =>
            obtain ⟨k, bv, lv, hk, rfl, rfl, rfl, hlv, HK, hb⟩ := hrel
            by_cases hlt : k < cs.length
            · have k0 : (0 : Int) ≤ (k : Int) := by omega
              have k1 : (k : Int) < (cs.length : Int) := by omega
              obtain ⟨b, off, rfl, hlb, q0⟩ := rdI HA.out hlt
              have c0 := (hb.cell (p := ⟨b, off + k, none⟩) hlb).trans q0
              have vk := HI.out k hlt
              obtain ⟨xk, hxk⟩ : ∃ x, x = cs.getD k 0 := ⟨_, rfl⟩
              rw [← hxk] at c0 vk
              have Hxk := Lib.hid hxk
              obtain ⟨v1, v9⟩ := vk
              have hkm := kMid_bd v1 v9
              clear q0 hxk
              go_wp2_with fail
              clear c0
              have hbw3 := hb
              generalize hW : wr = W3 at *
              clear hW hb
              go_loopw [16, 56] (fun m i wr => ∃ j : Nat, j ≤ L.length ∧ i = .int .i64 (j : Int) ∧ m = .int .i64 (lnT xk L j) ∧ Below w.heap.size w wr) (fun _ i _ => L.length - (intOf i).toNat)
              case atStart => exact ⟨0, by omega, rfl, rfl, hbw3⟩
              case round =>
                obtain ⟨j, hj, rfl, rfl, hb⟩ := hrel
                have hbd := lnT_bd xk L j
                by_cases hltj : j < L.length
                · have j0 : (0 : Int) ≤ (j : Int) := by omega
                  have j1 : (j : Int) < (L.length : Int) := by omega
                  obtain ⟨b', off', rfl, hlb', q0, q1, q2⟩ := rdP HB.out hltj
                  have hok := HJ.out j hltj
                  have l1 : lnT xk L (j + 1) = lnT xk L j + ((ledger (7 * (L.getD j default).2.2 + (L.getD j default).1 - kMid xk)).length : Int) := rfl
                  generalize L.getD j default = p at *
                  obtain ⟨s, al, o⟩ := p
                  have c0 := (hb.cell (p := ⟨b', off' + j * 3, none⟩) hlb').trans q0
                  have c1 := (hb.cell (p := ⟨b', off' + j * 3 + 1, none⟩) hlb').trans q1
                  have c2 := (hb.cell (p := ⟨b', off' + j * 3 + 2, none⟩) hlb').trans q2
                  have Hok : Hid (okP s al o) := Lib.hid hok
                  obtain ⟨s0, s6, _, _, o0, o9⟩ := Hok.out.1
                  have Hl : Hid (lnT xk L (j + 1) = lnT xk L j + ((ledger (7 * o + s - kMid xk)).length : Int)) := Lib.hid l1
                  have hll := ledger_len (7 * o + s - kMid xk)
                  try dsimp only at c0 c1 c2
                  clear l1 hok q0 q1 q2
                  generalize lnT xk L j = m at *
                  have CL := Lib.hid (fun w => ledger_any (7 * o + s - kMid xk) w (by omega) (by omega))
                  have CP := Lib.hid (fun w => position_ok xk s al o w v1 v9 Hok.out)
                  generalize kMid xk = kc at *
                  generalize 7 * o + s - kc = pos at *
                  go_wp2_with fail
                  refine (CP.out _).mono ?_
                  rintro e w1 ⟨rfl, hb1⟩
                  go_wp2_with fail
                  refine (CL.out _).mono ?_
                  rintro e w2 ⟨v, rfl, hacc⟩
                  obtain ⟨A5, c5, hv, _, _, _⟩ := acc_form hacc
                  have hb2 := hacc.below
                  subst hv
                  clear hacc
                  generalize (ledger pos).length = ll at *
                  go_wp2_with fail
                  go_roundw
                  case rel => exact ⟨j + 1, by omega, by go_num, by rw [Hl.out], next0 (next1 hb hb1) hb2⟩
                  case measure => simp [intOf]; omega
                · obtain rfl : j = L.length := by omega
                  obtain ⟨m, hm⟩ : ∃ m, m = lnT xk L L.length := ⟨_, rfl⟩
                  rw [← hm] at hbd ⊢
                  have Hm := Lib.hid hm
                  clear hm
                  by_cases hz : k = 0
                  · have hlv1 := HK.out.zero hz
                    subst hlv1
                    have Hz0 := Lib.hid hz
                    clear hz
                    go_wp2_with fail
                    go_roundw
                    case rel => exact ⟨k + 1, xk, m, by omega, by go_num, rfl, rfl, by omega, Lib.hid ⟨fun h => absurd h (Nat.succ_ne_zero _), fun _ => ⟨by rw [Hxk.out, Hz0.out, bI_one], Hm.out⟩⟩, hb⟩
                    case measure => simp [intOf]; omega
                  · obtain ⟨e1, e2⟩ := HK.out.pos hz
                    have hlv0 : 0 ≤ lv := by rw [e2]; exact (lnT_bd bv L L.length).1
                    by_cases hl : m < lv
                    · have HN := Lib.hid (show BeI cs L (k + 1) xk m from ⟨fun h => absurd h (Nat.succ_ne_zero _), fun _ => ⟨by
                        rw [bI_less _ (by rw [← e1, ← e2, ← Hxk.out, ← Hm.out]; exact hl)]; exact Hxk.out, Hm.out⟩⟩)
                      clear e1 e2
                      go_wp2_with fail
                      go_roundw
                      case rel => exact ⟨k + 1, xk, m, by omega, by go_num, rfl, rfl, by omega, HN, hb⟩
                      case measure => simp [intOf]; omega
                    · have HN := Lib.hid (show BeI cs L (k + 1) bv lv from ⟨fun h => absurd h (Nat.succ_ne_zero _), fun _ => ⟨by
                        rw [bI_more _ (by rw [← e1, ← e2, ← Hxk.out, ← Hm.out]; exact hl)]; exact e1, e2⟩⟩)
                      clear e1 e2
                      go_wp2_with fail
                      go_roundw
                      case rel => exact ⟨k + 1, bv, lv, by omega, by go_num, rfl, rfl, by omega, HN, hb⟩
                      case measure => simp [intOf]; omega
            · obtain rfl : k = cs.length := by omega
              obtain ⟨e1, e2⟩ := HK.out.pos Hz.out
              have HE1 := Lib.hid e1
              clear e1 e2
              go_wp2_with fail
              go_returns
              exact ⟨bv, 0, rfl, by rw [HE1.out]; exact .best Hz.out HI.out HJ.out, hb⟩
end Go.Proofs.Ytdleefphgjnhjaa
