/- The reference: Enharmonics, Scale: contracts. -/
import Derived.Test.YtdmhjcnijebfgaaSscale
namespace Go.Proofs.Ytdmhjcnijebfgaa
open Go.RowKit
set_option linter.unusedVariables false

theorem own_base {w : World} {base base' size n : Nat} {e : TypeId} {v : Value} {xs : List Value} (h : w.ownsRow base e size v n xs) (hb : base' ≤ base) : w.ownsRow base' e size v n xs := by
  refine ⟨h.1, ?_⟩
  rcases h.2 with hn | ⟨g, cap, cur, hv, hg, rest⟩
  · exact .inl hn
  · exact .inr ⟨g, cap, cur, hv, Nat.le_trans hb hg, rest⟩
theorem acc_base {E : TypeId} {size : Nat} {w W w' : World} {v : Value} {n : Nat} {xs : List Value} (hb : Below w.heap.size w W) (h : Acc E size W w' v n xs) : Acc E size w w' v n xs :=
  ⟨own_base h.own hb.size, hb.trans (h.below.mono hb.size)⟩
/-- Of a list, the pitches with number n among the first j. -/
def nuT (n : Int) (L : List Pit) (j : Nat) : List Pit := (L.take j).filter fun p => numQ p == n
theorem nuT_hit {n : Int} {L : List Pit} {j : Nat} (hj : j < L.length) (h : numQ (L.getD j default) = n) : nuT n L (j + 1) = nuT n L j ++ [L.getD j default] := by
  unfold nuT
  rw [List.take_succ_eq_append_getElem hj, get_getD L default hj, List.filter_append, List.filter_cons, if_pos (by rw [beq_iff_eq]; exact h), List.filter_nil]
theorem nuT_miss {n : Int} {L : List Pit} {j : Nat} (hj : j < L.length) (h : numQ (L.getD j default) ≠ n) : nuT n L (j + 1) = nuT n L j := by
  unfold nuT
  rw [List.take_succ_eq_append_getElem hj, get_getD L default hj, List.filter_append, List.filter_cons, if_neg (by rw [beq_iff_eq]; exact h), List.filter_nil, List.append_nil]
theorem nuT_all {n : Int} (h0 : 0 ≤ n) (h1 : n ≤ 127) : nuT n (allT 385) (allT 385).length = enh n := by
  rw [enh_eq h0 h1]
  unfold nuT enhR
  rw [List.take_length]
theorem allT_ok (k : Nat) : ∀ p ∈ allT k, okQ p := by
  intro p hp
  have := (List.mem_filter.1 hp).2
  simpa using this
set_option maxHeartbeats 4000000 in
theorem renharm_any (n : Int) (w : World) (h0 : 0 ≤ n) (h1 : n ≤ 127) :
    Calls Try.prog 39 #[.int .i64 n] w fun e w' => ∃ v, e = .returned v ∧ AccP w w' v (enh n) := by
  have HE := Lib.hid (nuT_all h0 h1)
  have HO := Lib.hid (allT_ok 385)
  have hML := allT_len 385
  go_enter Try.func39, Try.ntmps39
  go_wp2_with fail
  refine (rall_any _).mono ?_
  rintro e W ⟨v0, rfl, ha⟩
  obtain ⟨A, c, hv, hc, hcm, hrd⟩ := acc_form ha
  have hbW := ha.below
  have HA := Lib.hid hrd
  clear hrd ha
  subst hv
  generalize allT 385 = M at *
  go_wp2_with fail
  go_loopw [3, 5] (fun v i wr => ∃ j : Nat, j ≤ M.length ∧ i = .int .i64 (j : Int) ∧ AccP W wr v (nuT n M j)) (fun _ i _ => M.length - (intOf i).toNat)
  case atStart => exact ⟨0, by omega, rfl, accP_nil _⟩
  case round =>
    obtain ⟨j, hj, rfl, hacc⟩ := hrel
    by_cases hlt : j < M.length
    · have j0 : (0 : Int) ≤ (j : Int) := by omega
      have j1 : (j : Int) < (M.length : Int) := by omega
      obtain ⟨b, off, rfl, hlb, q0, q1, q2⟩ := rdP HA.out hlt
      have c0 := fun wq (h : Below W.heap.size W wq) => (h.cell (p := ⟨b, off + j * 3, none⟩) hlb).trans q0
      have c1 := fun wq (h : Below W.heap.size W wq) => (h.cell (p := ⟨b, off + j * 3 + 1, none⟩) hlb).trans q1
      have c2 := fun wq (h : Below W.heap.size W wq) => (h.cell (p := ⟨b, off + j * 3 + 2, none⟩) hlb).trans q2
      have hok := HO.out _ (getD_memL M default hlt)
      have hl6 : (nuT n M j).length ≤ 60000 := by
        unfold nuT; exact Nat.le_trans (List.length_filter_le _ _) (by rw [List.length_take]; omega)
      have C0 := Lib.hid c0
      have C1 := Lib.hid c1
      have C2 := Lib.hid c2
      clear q0 q1 q2 c0 c1 c2
      by_cases ho : numQ (M.getD j default) = n
      · have Hhit := Lib.hid (nuT_hit hlt ho)
        have ho' := ho
        generalize M.getD j default = p at *
        obtain ⟨s, al, o⟩ := p
        have g0 := C0.out _ hacc.below
        have g1 := C1.out _ hacc.below
        have g2 := C2.out _ hacc.below
        try dsimp only at g0 g1 g2
        have ho2 : (num s al o == n) = true := by rw [beq_iff_eq]; exact ho'
        have Hok : Hid (okP s al o) := Lib.hid hok
        clear ho' ho hok
        go_wp2_with fail
        refine (rnumber_any _ _ _ _ Hok.out.1).mono ?_
        rintro e w2 ⟨rfl, hb2⟩
        have haccb := acc_below hacc hb2
        clear g0 g1 g2
        have g0 := C0.out _ haccb.below
        have g1 := C1.out _ haccb.below
        have g2 := C2.out _ haccb.below
        try dsimp only at g0 g1 g2
        go_wp2_with (at_builtin; refine wpList_pushP rfl _ _ rfl s al o haccb (by rfl) (by rfl) hl6 ?_; intro v' w3 hacc3)
        go_roundw
        case rel => exact ⟨j + 1, by omega, by go_num, by rw [Hhit.out]; exact hacc3⟩
        case measure => simp [intOf]; omega
      · have Hmiss := Lib.hid (nuT_miss hlt ho)
        have ho' := ho
        generalize M.getD j default = p at *
        obtain ⟨s, al, o⟩ := p
        have g0 := C0.out _ hacc.below
        have g1 := C1.out _ hacc.below
        have g2 := C2.out _ hacc.below
        try dsimp only at g0 g1 g2
        have ho2 : (num s al o == n) = false := by rw [beq_eq_false_iff_ne]; exact ho'
        have Hok : Hid (okP s al o) := Lib.hid hok
        clear ho' ho hok
        go_wp2_with fail
        refine (rnumber_any _ _ _ _ Hok.out.1).mono ?_
        rintro e w2 ⟨rfl, hb2⟩
        have haccb := acc_below hacc hb2
        go_wp2_with fail
        go_roundw
        case rel => exact ⟨j + 1, by omega, by go_num, by rw [Hmiss.out]; exact haccb⟩
        case measure => simp [intOf]; omega
    · obtain rfl : j = M.length := by omega
      rw [HE.out] at hacc
      go_wp2_with fail
      go_returns
      exact ⟨_, rfl, acc_base hbW hacc⟩
def RscPost (f n : Int) (w : World) (e : Ending) (w' : World) : Prop := ∃ (L : List Pit) (v : Value), IsSc f n L ∧ e = .returned v ∧ AccP w w' v L
set_option maxHeartbeats 4000000 in
theorem rscale_ok (f n : Int) (w : World) (hf : -7 ≤ f) (hf' : f ≤ 7) (h0 : 0 ≤ n) (h1 : n ≤ 116) :
    Calls Try.prog 23 #[.int .i64 f, .int .i64 n] w (RscPost f n w) := by
  go_enter Try.func23, Try.ntmps23
  go_wp2_with fail
  go_loopw [5, 6] (fun v i wr => ∃ k : Nat, n + (k : Int) ≤ 128 ∧ i = .int .i64 (n + (k : Int)) ∧ Hid ((scT f n k).length ≤ 7) ∧ AccP w wr v (scT f n k)) (fun _ i _ => (128 - intOf i).toNat)
  case atStart => exact ⟨0, by omega, by simp, Lib.hid (Nat.zero_le _), accP_nil _⟩
  case round =>
    obtain ⟨k, hk, rfl, H7, hacc⟩ := hrel
    obtain ⟨A1, c1, hv, _, _, _⟩ := acc_form hacc
    subst hv
    by_cases hgo : (scT f n k).length < 7 ∧ n + (k : Int) ≤ 127
    · obtain ⟨g1, g2⟩ := hgo
      have k1'' : ((scT f n k).length : Int) < 7 := by omega
      have k1' : decide (((scT f n k).length : Int) < 7) = true := decide_eq_true k1''
      have k3 : decide (n + (k : Int) ≤ 127) = true := decide_eq_true g2
      have k2 : (0 : Int) ≤ n + (k : Int) := by omega
      have hin := inK_le hf hf' k2 g2
      have hst : scT f n (k + 1) = scT f n k ++ inK f (n + (k : Int)) := rfl
      have hl7 : (scT f n (k + 1)).length ≤ 7 := by rw [hst, List.length_append]; omega
      have hml := enh_small k2 g2
      have hok : ∀ p ∈ enh (n + (k : Int)), okQ p := fun p hp => (enh_all hp).1
      have hinT : inK f (n + (k : Int)) = inT f (enh (n + (k : Int))) (enh (n + (k : Int))).length := (inT_all _ _).symm
      have hone : ∀ j, (inT f (enh (n + (k : Int))) j).length ≤ 1 := fun j => Nat.le_trans (inT_le f _ j) hin
      have hstep : n + ((k + 1 : Nat) : Int) = n + (k : Int) + 1 := by omega
      have Hst := Lib.hid hst
      have Hl7 := Lib.hid hl7
      have Hok := Lib.hid hok
      have HinT := Lib.hid hinT
      have Hstep := Lib.hid hstep
      have Hone := Lib.hid hone
      clear hst hl7 hok hinT hin H7 hstep hone
      generalize hscT : scT f n k = D at *
      clear hscT
      obtain ⟨m, hm⟩ : ∃ m, m = n + (k : Int) := ⟨_, rfl⟩
      have Hm := Lib.hid hm
      rw [← hm] at g2 k2 hml Hok HinT Hst Hstep Hone k3 ⊢
      clear hm
      go_wp2_with (go_at_call 39; refine (renharm_any _ _ k2 g2).mono ?_; rintro e w1 ⟨v1, rfl, ha1⟩; obtain ⟨b, off, c2, cs, fr, hv1, hcs, hacc1⟩ := AccE.make hacc ha1 (enh_ne k2 g2); subst hv1)
      have Hcs := Lib.hid hcs
      clear hcs hacc ha1
      generalize enh m = E at *
      have hD7 : D.length < 7 := by omega
      go_loopw [5, 8] (fun v i wr => ∃ j : Nat, j ≤ E.length ∧ i = .int .i64 (j : Int) ∧ AccE w wr v (D ++ inT f E j) b (.cells cs PIT fr)) (fun _ i _ => E.length - (intOf i).toNat)
      case atStart => exact ⟨0, by omega, rfl, by rw [inT_zero, List.append_nil]; exact hacc1⟩
      case round =>
        clear hacc1
        obtain ⟨j, hj, rfl, hacc⟩ := hrel
        by_cases hlt : j < E.length
        · have j0 : (0 : Int) ≤ (j : Int) := by omega
          have j1 : (j : Int) < (E.length : Int) := by omega
          obtain ⟨c0, c1, c2⟩ := blkP hacc.blk Hcs.out hlt
          have hokp := Hok.out _ (getD_memL E default hlt)
          have hl6 : (D ++ inT f E j).length ≤ 60000 := by
            have : (inT f E j).length ≤ j := by unfold inT; exact Nat.le_trans (List.length_filter_le _ _) (by rw [List.length_take]; omega)
            rw [List.length_append]; omega
          by_cases ho : outQ f (E.getD j default) = 0
          · have hhit := inT_hit hlt ho
            have hlen7 : (D ++ inT f E j).length < 7 := by
              have h2 := Hone.out (j + 1)
              rw [hhit, List.length_append] at h2
              have h3 : (inT f E j).length = 0 := by have h4 : ([E.getD j default] : List Pit).length = 1 := rfl; omega
              rw [List.length_append]; omega
            have Hhit := Lib.hid hhit
            have Hcs2 := Lib.hid (fun (wq : World) (h : wq.heap[b]? = some (.cells cs PIT fr)) => blkP h Hcs.out hlt)
            have ho' := ho
            clear hhit
            obtain ⟨A4, c4, hv4, _, _, _⟩ := acc_form hacc.acc
            subst hv4
            generalize E.getD j default = p at *
            obtain ⟨s, al, o⟩ := p
            dsimp only at c0 c1 c2
            have ho2 : (outQ f (s, al, o) == 0) = true := by rw [beq_iff_eq]; exact ho'
            have Hokp := Lib.hid hokp
            clear ho' ho hokp
            generalize hD2 : D ++ inT f E j = D2 at *
            have HD2 := Lib.hid hD2
            clear hD2
            have e7 : (D2.length : Int) < 7 := by omega
            have e7' : decide ((D2.length : Int) < 7) = true := decide_eq_true e7
            go_wp2_with (first
              | (go_at_call 36; refine (routside_any _ _ _ _ _ Hokp.out hf hf').mono ?_; rintro e w2 ⟨rfl, hb2⟩; have haccb := hacc.below hb2; obtain ⟨d0, d1, d2⟩ := Hcs2.out _ haccb.blk; try dsimp only at d0 d1 d2)
              | (at_builtin; refine wpList_pushPE rfl _ _ rfl s al o haccb (by rfl) (by rfl) hl6 ?_; intro v3 w3 hacc3))
            go_roundw
            case rel => exact ⟨j + 1, by omega, by go_num, by rw [Hhit.out, ← List.append_assoc, HD2.out]; exact hacc3⟩
            case measure => simp [intOf]; omega
          · have Hmiss := Lib.hid (inT_miss hlt ho)
            have ho' := ho
            generalize E.getD j default = p at *
            obtain ⟨s, al, o⟩ := p
            try dsimp only at c0 c1 c2
            have ho2 : (outQ f (s, al, o) == 0) = false := by rw [beq_eq_false_iff_ne]; exact ho'
            have Hokp := Lib.hid hokp
            clear ho' ho hokp
            go_wp2_with (go_at_call 36; refine (routside_any _ _ _ _ _ Hokp.out hf hf').mono ?_; rintro e w2 ⟨rfl, hb2⟩; have haccb := hacc.below hb2)
            go_roundw
            case rel => exact ⟨j + 1, by omega, by go_num, by rw [Hmiss.out]; exact haccb⟩
            case measure => simp [intOf]; omega
        · obtain rfl : j = E.length := by omega
          have hacc := hacc.acc
          rw [← HinT.out, ← Hst.out] at hacc
          go_wp2_with fail
          go_roundw
          case rel => exact ⟨k + 1, by rw [Hstep.out]; omega, by rw [Hstep.out], Hl7, hacc⟩
          case measure => simp [intOf]; omega
    · have h7 : (scT f n k).length = 7 := by
        have := H7.out
        by_cases hlt : (scT f n k).length < 7
        · exfalso
          have hk128 : n + (k : Int) = 128 := by omega
          have := scT_twelve f n hf hf' h0 h1
          rw [show (128 - n).toNat = k from by omega] at this
          omega
        · omega
      have HIs := Lib.hid (show IsSc f n (scT f n k) from ⟨h7, k, rfl⟩)
      have k2 : ¬ ((scT f n k).length : Int) < 7 := by omega
      have k3 : decide (((scT f n k).length : Int) < 7) = false := decide_eq_false k2
      clear hgo H7 h7
      by_cases h128 : n + (k : Int) ≤ 127
      · have k4 : decide (n + (k : Int) ≤ 127) = true := decide_eq_true h128
        go_wp2_with fail
        go_returns
        exact ⟨_, _, HIs.out, rfl, hacc⟩
      · have k4 : decide (n + (k : Int) ≤ 127) = false := decide_eq_false h128
        go_wp2_with fail
        go_returns
        exact ⟨_, _, HIs.out, rfl, hacc⟩
end Go.Proofs.Ytdmhjcnijebfgaa
