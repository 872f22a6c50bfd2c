/- Chord of the reference: contract. -/
import Derived.Test.YtdmhjcnijebfgaaSrspell
import Derived.Test.YtdmhjcnijebfgaaSchord
namespace Go.Proofs.Ytdmhjcnijebfgaa
open Go.RowKit
set_option linter.unusedVariables false

/-- The first spelling of a chord of the least weight. -/
def wbst (f : Int) (E : List (List Pit)) : List Pit := (prod E).getD (lIdx (wtQ f) (prod E) (prod E).length) []
set_option maxHeartbeats 4000000 in
theorem rchord_any (A : Option Addr) (c : Nat) (l : List Int) (f : Int) (w : World) (hf : -7 ≤ f) (hf' : f ≤ 7) (hA : Rd w w.heap.size A (ints l)) (hn : l.length ≤ 5) (hl : ∀ n ∈ l, 0 ≤ n ∧ n ≤ 127) :
    Calls Try.prog 26 #[.slice A l.length c, .int .i64 f] w fun e w' => (∃ A' c', e = .returned (.slice A' (wbst f (l.map enh)).length c') ∧ (wbst f (l.map enh)).length ≤ c' ∧ c' ≤ maxLen ∧ Rd w' w'.heap.size A' (pitsC (wbst f (l.map enh)))) ∧ Below w.heap.size w w' := by
  have ca := rallS_any A c l w hA hn hl
  have hE : ∀ L ∈ l.map enh, L ≠ [] ∧ ∀ p ∈ L, okQ p := fun L hL => by
    obtain ⟨n, hn, rfl⟩ := List.mem_map.1 hL
    exact ⟨enh_ne (hl n hn).1 (hl n hn).2, fun p hp => (enh_all hp).1⟩
  have hne : 0 < (prod (l.map enh)).length := by
    obtain ⟨y, hy⟩ := prod_ne (l.map enh) (fun L hL => (hE L hL).1)
    exact List.length_pos_iff.2 (fun e => by rw [e] at hy; cases hy)
  have hP : ∀ y ∈ prod (l.map enh), (1 < (prod (l.map enh)).length → 0 < y.length) ∧ y.length ≤ 5 ∧ ∀ p ∈ y, okQ p := fun y hy => by
    refine ⟨fun h1 => ?_, by rw [prod_each hy, List.length_map]; exact hn, fun p hp => ?_⟩
    · rw [prod_each hy, List.length_map]
      rcases Nat.eq_zero_or_pos l.length with e | e
      · rw [List.eq_nil_of_length_eq_zero e] at h1
        exact absurd h1 (by decide)
      · exact e
    obtain ⟨i, hi, rfl⟩ := List.getElem_of_mem hp
    have hi' : i < (l.map enh).length := by rw [← prod_each hy]; exact hi
    have hat : ∀ (E : List (List Pit)) (y : List Pit), y ∈ prod E → ∀ i, i < E.length → y.getD i default ∈ E.getD i [] := by
      intro E
      induction E with
      | nil => intro y _ i hi; exact absurd hi (Nat.not_lt_zero _)
      | cons l E ih =>
        intro y hy i hi
        simp only [prod, List.mem_flatMap, List.mem_map] at hy
        obtain ⟨q, hq, z, hz, rfl⟩ := hy
        cases i with
        | zero => exact hq
        | succ i => exact ih z hz i (by simpa using hi)
    have h1 := hat _ y hy i hi'
    rw [← get_getD y default hi] at h1
    exact (hE _ (getD_memL (l.map enh) [] hi')).2 _ h1
  have hsm : (prod (l.map enh)).length ≤ 1000 := by
    have h1 := prod_small (l.map enh) 0 (fun L hL => by
      obtain ⟨n, hn, rfl⟩ := List.mem_map.1 hL
      exact enh_small (hl n hn).1 (hl n hn).2)
    rw [List.length_map] at h1
    have h3 : 3 ^ l.length ≤ 3 ^ 5 := Nat.pow_le_pow_right (by decide) hn
    have h4 : (3 : Nat) ^ 5 = 243 := rfl
    omega
  have hb : (prod (l.map enh)).getD (lIdx (wtQ f) (prod (l.map enh)) (prod (l.map enh)).length) [] = wbst f (l.map enh) := rfl
  obtain ⟨D, hD⟩ : ∃ D, D = wbst f (l.map enh) := ⟨_, rfl⟩
  rw [← hD] at hb ⊢
  have HP := Lib.hid hP
  have Hb := Lib.hid hb
  clear hA hl hE hP hb hD
  generalize prod (l.map enh) = P at *
  go_enter Try.func26, Try.ntmps26
  go_wp2_with fail
  refine ca.mono ?_
  rintro e W ⟨⟨A1, c1, rfl, hc1, hcm1, hr2⟩, hbW⟩
  have HR := Lib.hid hr2
  clear ca hr2 hcm1
  go_wp2_with fail
  go_loopw [6, 7] (fun b i wr => ∃ k : Nat, 0 < k ∧ k ≤ P.length ∧ i = .int .i64 (k : Int) ∧ b = .int .i64 (lIdx (wtQ f) P k : Nat) ∧ Below W.heap.size W wr) (fun _ i _ => P.length - (intOf i).toNat)
  case atStart => exact ⟨1, by omega, by omega, rfl, by rw [lIdx_one]; rfl, Below.refl _ _⟩
  case round =>
    obtain ⟨k, hk0, hk, rfl, rfl, hb⟩ := hrel
    by_cases hlt : k < P.length
    · have k0 : (0 : Int) ≤ (k : Int) := by omega
      have k1 : (k : Int) < (P.length : Int) := by omega
      have hil := lIdx_lt (wtQ f) P hk0
      have hless := lIdx_less (wtQ f) P (k := k)
      have hmore := lIdx_more (wtQ f) P (k := k)
      have HR' := Lib.hid (HR.out.below hb)
      generalize lIdx (wtQ f) P k = m at *
      have hml : m < P.length := by omega
      have m0 : (0 : Int) ≤ (m : Int) := by omega
      have m1 : (m : Int) < (P.length : Int) := by omega
      obtain ⟨b1, off1, Ak, ck, rfl, hl1, qk, _, _, hrk⟩ := HR'.out.at hlt
      obtain ⟨b2, off2, Am, cm, eA, hl2, qm, _, _, hrm⟩ := HR'.out.at hml
      obtain ⟨rfl, rfl⟩ : b2 = b1 ∧ off2 = off1 := by
        injection eA with eA
        injection eA with e1 e2
        exact ⟨e1.symm, e2.symm⟩
      have pk := HP.out _ (getD_memL P [] hlt)
      have pm := HP.out _ (getD_memL P [] hml)
      have hNk := fun sx : Later wr.heap.size wr => later_calls (s := sx) (Nat.le_refl _) (weight_any Ak ck (P.getD k []) f sx.w hf hf' (rd_below hrk sx.h) (pk.1 (by omega)) (by have := pk.2.1; omega) pk.2.2)
      have hNm := fun sx : Later wr.heap.size wr => later_calls (s := sx) (Nat.le_refl _) (weight_any Am cm (P.getD m []) f sx.w hf hf' (rd_below hrm sx.h) (pm.1 (by omega)) (by have := pm.2.1; omega) pm.2.2)
      have f1 : ∀ sx : Later wr.heap.size wr, sx.w.cell? ⟨b2, off2 + k, none⟩ = some (.slice Ak (P.getD k []).length ck) := fun sx => later_cell qk hl1 sx
      have f2 : ∀ sx : Later wr.heap.size wr, sx.w.cell? ⟨b2, off2 + m, none⟩ = some (.slice Am (P.getD m []).length cm) := fun sx => later_cell qm hl1 sx
      have HNk := Lib.hid hNk
      have HNm := Lib.hid hNm
      have Hless := Lib.hid hless
      have Hmore := Lib.hid hmore
      clear hNk hNm hrk hrm qk qm eA pk pm hless hmore
      generalize P.getD k [] = yk at *
      generalize P.getD m [] = ym at *
      go_wp2_with fail
      refine wp_region_later (by kernel_rfl) (by kernel_rfl) ?_
      repeat (go_big_quiet_step ((first | with_reducible exact HNk.out _ | with_reducible exact HNm.out _)))
      refine wpQuiet_nil ?_
      intro w5 hb5
      clear f1 f2 HNk HNm
      by_cases hlc : wtQ f yk < wtQ f ym
      · have e := Lib.hid (Hless.out hlc)
        clear Hless Hmore
        go_wp2
        go_roundw
        case rel => exact ⟨k + 1, by omega, by omega, by go_num, by rw [e.out], next0 hb hb5⟩
        case measure => simp [intOf]; omega
      · have e := Lib.hid (Hmore.out (by first | exact hlc | omega))
        clear Hless Hmore
        go_wp2
        go_roundw
        case rel => exact ⟨k + 1, by omega, by omega, by go_num, by rw [e.out], next0 hb hb5⟩
        case measure => simp [intOf]; omega
    · obtain rfl : k = P.length := by omega
      have hil := lIdx_lt (wtQ f) P hk0
      have Hb' := Hb.out
      have HR' := Lib.hid (HR.out.below hb)
      generalize lIdx (wtQ f) P P.length = m at *
      have m0 : (0 : Int) ≤ (m : Int) := by omega
      have m1 : (m : Int) < (P.length : Int) := by omega
      obtain ⟨b2, off2, Am, cm, rfl, hl2, qm, hcm, hmm, hrm⟩ := HR'.out.at hil
      rw [Hb'] at qm hcm hrm
      have Hrm := Lib.hid hrm
      clear hrm Hb' Hb
      go_wp2_with fail
      go_returns
      exact ⟨⟨Am, cm, rfl, hcm, hmm, Hrm.out⟩, next0 hbW hb⟩
end Go.Proofs.Ytdmhjcnijebfgaa
