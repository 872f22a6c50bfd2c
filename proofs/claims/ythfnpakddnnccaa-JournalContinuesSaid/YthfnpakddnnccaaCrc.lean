/- Checksum of package journal and checksum of the law: contracts over one plain fold. -/
import Derived.Test.YthfnpakddnnccaaKit
import Derived.Test.YthfnpakddnnccaaProg
import Derived.Laws.BitsAllLaws
namespace Go.Proofs.Ythfnpakddnnccaa
open Go.RowKit
set_option linter.unusedVariables false

/-- One bit, eight bits, one byte, all bytes. -/
def crcBit (c : Nat) : Nat := if c % 2 = 1 then (c / 2) ^^^ 3988292384 else c / 2
def crcBits (c : Nat) : Nat → Nat
  | 0 => c
  | k + 1 => crcBit (crcBits c k)
def crcByte (c : Nat) (b : UInt8) : Nat := crcBits (c ^^^ b.toNat) 8
def crcFrom (c : Nat) (l : List UInt8) : Nat := l.foldl crcByte c
def crc (s : ByteArray) : Nat := 4294967295 - crcFrom 4294967295 s.data.toList

theorem crcBit_lt {c : Nat} (h : c < 4294967296) : crcBit c < 4294967296 := by
  unfold crcBit
  split
  · have := Nat.xor_lt_two_pow (x := c / 2) (y := 3988292384) (n := 32) (by omega) (by omega)
    omega
  · omega
theorem crcBits_lt {c : Nat} (h : c < 4294967296) : ∀ k, crcBits c k < 4294967296
  | 0 => h
  | k + 1 => crcBit_lt (crcBits_lt h k)
theorem crcByte_lt {c : Nat} (h : c < 4294967296) (b : UInt8) : crcByte c b < 4294967296 := by
  have hb : b.toNat < 256 := b.toNat_lt
  have := Nat.xor_lt_two_pow (x := c) (y := b.toNat) (n := 32) (by omega) (by omega)
  exact crcBits_lt (by omega) 8
theorem crcFrom_lt : ∀ (l : List UInt8) {c : Nat} (h : c < 4294967296), crcFrom c l < 4294967296
  | [], _, h => h
  | b :: l, _, h => crcFrom_lt l (crcByte_lt h b)
theorem crc_lt (s : ByteArray) : crc s < 4294967296 := by unfold crc; omega
theorem crcFrom_take (s : ByteArray) (k : Nat) (hk : k < s.data.size) :
    crcFrom 4294967295 (s.data.toList.take (k + 1)) = crcByte (crcFrom 4294967295 (s.data.toList.take k)) s.data[k] := by
  unfold crcFrom
  rw [List.take_succ_eq_append_getElem (by simpa using hk), List.foldl_append]
  rfl

theorem u32_and1 (c : Nat) (h : c < 4294967296) : bits .and .u32 (c : Int) 1 = ((c % 2 : Nat) : Int) := by
  have := u32_and_nat c 1 h (by omega)
  rw [nat_mask1] at this
  exact this
theorem u32_xorp (c : Nat) (h : c < 4294967296) : bits .xor .u32 (c : Int) 3988292384 = ((c ^^^ 3988292384 : Nat) : Int) := u32_xor_nat c 3988292384 h (by omega)
theorem u32_not (c : Nat) (h : c < 4294967296) : bits .xor .u32 4294967295 (c : Int) = ((4294967295 - c : Nat) : Int) := by
  have e : bits .xor .u32 ((4294967295 : Nat) : Int) (c : Int) = ((4294967295 ^^^ c : Nat) : Int) := u32_xor_nat 4294967295 c (by omega) h
  have e2 : 4294967295 ^^^ c = 4294967295 - c := by
    have := BitVec.toNat_not (x := BitVec.ofNat 32 c)
    rw [BitVec.toNat_ofNat, Nat.mod_eq_of_lt (by omega)] at this
    have h3 : (~~~ BitVec.ofNat 32 c) = BitVec.allOnes 32 ^^^ BitVec.ofNat 32 c := (BitVec.allOnes_xor).symm
    rw [h3, BitVec.toNat_xor, BitVec.toNat_ofNat, BitVec.toNat_allOnes, Nat.mod_eq_of_lt (by omega)] at this
    simpa using this
  rw [e2] at e
  exact e

theorem crc_x {c : Nat} (h : c < 4294967296) (b : UInt8) : bits .xor .u32 (c : Int) ((b.toNat : Int) % 4294967296) = ((c ^^^ b.toNat : Nat) : Int) ∧ c ^^^ b.toNat < 4294967296 := by
  have hb : b.toNat < 256 := b.toNat_lt
  have hx := Nat.xor_lt_two_pow (x := c) (y := b.toNat) (n := 32) (by omega) (by omega)
  rw [show (b.toNat : Int) % 4294967296 = (b.toNat : Int) from by omega]
  exact ⟨u32_xor_nat c b.toNat h (by omega), by omega⟩
theorem crcBit_odd {c : Nat} (h : c % 2 = 1) : crcBit c = (c / 2) ^^^ 3988292384 := by unfold crcBit; rw [if_pos h]
theorem crcBit_even {c : Nat} (h : ¬ c % 2 = 1) : crcBit c = c / 2 := by unfold crcBit; rw [if_neg h]

set_option maxHeartbeats 4000000 in
theorem checksum_any (s : ByteArray) (w : World) (hs : s.size ≤ maxLen) :
    Calls Try.prog 15 #[.string s] w fun e w' => e = .returned (.int .u32 (crc s : Int)) ∧ w' = w := by
  unfold maxLen at hs
  go_enter Try.func15, Try.ntmps15
  go_wp2
  go_loop [3, 8] (fun c i => ∃ k : Nat, k ≤ s.size ∧ i = .int .i64 (k : Int) ∧ c = .int .u32 (crcFrom 4294967295 (s.data.toList.take k) : Int)) (fun _ i => s.size - (intOf i).toNat)
  case atStart => exact ⟨0, by omega, rfl, rfl⟩
  case round =>
    obtain ⟨k, hk, rfl, rfl⟩ := hrel
    by_cases hlt : k < s.size
    · have hc := crcFrom_lt (s.data.toList.take k) (c := 4294967295) (by omega)
      have ht := crcFrom_take s k hlt
      have i1 : (k : Int) < s.size := by omega
      obtain ⟨hx, hy⟩ := crc_x hc s.data[k]
      have hn : crcByte (crcFrom 4294967295 (s.data.toList.take k)) s.data[k] = crcBits (crcFrom 4294967295 (s.data.toList.take k) ^^^ (s.data[k]).toNat) 8 := rfl
      rw [hn] at ht
      have HT := Lib.hid ht
      clear ht hn
      generalize crcFrom 4294967295 (s.data.toList.take k) = C at *
      go_wp2
      rw [show (s[k] : UInt8) = s.data[k] from rfl, hx]
      generalize hD : C ^^^ (s.data[k]).toNat = D at *
      clear hx hD
      go_loop [3, 17] (fun c i => ∃ j : Nat, j ≤ 8 ∧ i = .int .i64 (j : Int) ∧ c = .int .u32 (crcBits D j : Int)) (fun _ i => 8 - (intOf i).toNat)
      case atStart => exact ⟨0, by omega, rfl, rfl⟩
      case round =>
        obtain ⟨j, hj, rfl, rfl⟩ := hrel
        by_cases hlt2 : j < 8
        · have hE := crcBits_lt hy j
          have hS : crcBits D (j + 1) = crcBit (crcBits D j) := rfl
          generalize crcBits D j = E at *
          have j1 : (j : Int) < 8 := by omega
          have ha := u32_and1 E hE
          by_cases ho : E % 2 = 1
          · rw [ho] at ha
            have hp := u32_xorp (E / 2) (by omega)
            rw [crcBit_odd ho] at hS
            have hS' := Lib.hid hS
            clear hS
            go_wp2
            go_round
            case rel => exact ⟨j + 1, by omega, by go_num, by rw [hS'.out, ← hp]; rfl⟩
            case measure => simp [intOf]; omega
          · have ho2 : E % 2 = 0 := by omega
            rw [ho2] at ha
            rw [crcBit_even ho] at hS
            have hS' := Lib.hid hS
            clear hS
            go_wp2
            go_round
            case rel => exact ⟨j + 1, by omega, by go_num, by rw [hS'.out]; rfl⟩
            case measure => simp [intOf]; omega
        · obtain rfl : j = 8 := by omega
          go_wp2
          go_round
          case rel => exact ⟨k + 1, by omega, by go_num, by rw [HT.out]⟩
          case measure => simp [intOf]; omega
    · obtain rfl : k = s.size := by omega
      have hc := crcFrom_lt s.data.toList (c := 4294967295) (by omega)
      have hl : s.data.toList.take s.size = s.data.toList := List.take_of_length_le (by rw [Array.length_toList]; exact Nat.le_refl _)
      rw [hl]
      have hn := u32_not _ hc
      have hk : (crc s : Int) = ((4294967295 - crcFrom 4294967295 s.data.toList : Nat) : Int) := rfl
      generalize crcFrom 4294967295 s.data.toList = C at *
      go_wp2
      go_returns
      refine ⟨?_, rfl⟩
      show Ending.returned (Value.int .u32 (bits .xor .u32 IntKind.u32.max (C : Int))) = _
      rw [show IntKind.u32.max = 4294967295 from rfl, hn]

set_option maxHeartbeats 4000000 in
theorem lawsum_any (s : ByteArray) (w : World) (hs : s.size ≤ maxLen) :
    Calls Try.prog 16 #[.string s] w fun e w' => e = .returned (.int .u32 (crc s : Int)) ∧ w' = w := by
  unfold maxLen at hs
  go_enter Try.func16, Try.ntmps16
  go_wp2
  go_loop [3, 4] (fun c i => ∃ k : Nat, k ≤ s.size ∧ i = .int .i64 (k : Int) ∧ c = .int .u32 (crcFrom 4294967295 (s.data.toList.take k) : Int)) (fun _ i => s.size - (intOf i).toNat)
  case atStart => exact ⟨0, by omega, rfl, rfl⟩
  case round =>
    obtain ⟨k, hk, rfl, rfl⟩ := hrel
    by_cases hlt : k < s.size
    · have hc := crcFrom_lt (s.data.toList.take k) (c := 4294967295) (by omega)
      have ht := crcFrom_take s k hlt
      have i1 : (k : Int) < s.size := by omega
      obtain ⟨hx, hy⟩ := crc_x hc s.data[k]
      have hn : crcByte (crcFrom 4294967295 (s.data.toList.take k)) s.data[k] = crcBits (crcFrom 4294967295 (s.data.toList.take k) ^^^ (s.data[k]).toNat) 8 := rfl
      rw [hn] at ht
      have HT := Lib.hid ht
      clear ht hn
      generalize crcFrom 4294967295 (s.data.toList.take k) = C at *
      go_wp2
      rw [show (s[k] : UInt8) = s.data[k] from rfl, hx]
      generalize hD : C ^^^ (s.data[k]).toNat = D at *
      clear hx hD
      go_loop [3, 5] (fun c i => ∃ j : Nat, j ≤ 8 ∧ i = .int .i64 (j : Int) ∧ c = .int .u32 (crcBits D j : Int)) (fun _ i => 8 - (intOf i).toNat)
      case atStart => exact ⟨0, by omega, rfl, rfl⟩
      case round =>
        obtain ⟨j, hj, rfl, rfl⟩ := hrel
        by_cases hlt2 : j < 8
        · have hE := crcBits_lt hy j
          have hS : crcBits D (j + 1) = crcBit (crcBits D j) := rfl
          generalize crcBits D j = E at *
          have j1 : (j : Int) < 8 := by omega
          have ha := u32_and1 E hE
          by_cases ho : E % 2 = 1
          · rw [ho] at ha
            have hp := u32_xorp (E / 2) (by omega)
            rw [crcBit_odd ho] at hS
            have hS' := Lib.hid hS
            clear hS
            go_wp2
            go_round
            case rel => exact ⟨j + 1, by omega, by go_num, by rw [hS'.out, ← hp]; rfl⟩
            case measure => simp [intOf]; omega
          · have ho2 : E % 2 = 0 := by omega
            rw [ho2] at ha
            rw [crcBit_even ho] at hS
            have hS' := Lib.hid hS
            clear hS
            go_wp2
            go_round
            case rel => exact ⟨j + 1, by omega, by go_num, by rw [hS'.out]; rfl⟩
            case measure => simp [intOf]; omega
        · obtain rfl : j = 8 := by omega
          go_wp2
          go_round
          case rel => exact ⟨k + 1, by omega, by go_num, by rw [HT.out]⟩
          case measure => simp [intOf]; omega
    · obtain rfl : k = s.size := by omega
      have hc := crcFrom_lt s.data.toList (c := 4294967295) (by omega)
      have hl : s.data.toList.take s.size = s.data.toList := List.take_of_length_le (by rw [Array.length_toList]; exact Nat.le_refl _)
      rw [hl]
      have hn := u32_not _ hc
      have hk : (crc s : Int) = ((4294967295 - crcFrom 4294967295 s.data.toList : Nat) : Int) := rfl
      generalize crcFrom 4294967295 s.data.toList = C at *
      go_wp2
      go_returns
      refine ⟨?_, rfl⟩
      show Ending.returned (Value.int .u32 (bits .xor .u32 IntKind.u32.max (C : Int))) = _
      rw [show IntKind.u32.max = 4294967295 from rfl, hn]


theorem crcBit_inj {a b : Nat} (ha : a < 4294967296) (hb : b < 4294967296) (h : crcBit a = crcBit b) : a = b := by
  have top : ∀ x : Nat, x < 4294967296 → (x / 2).testBit 31 = false := fun x hx => Nat.testBit_lt_two_pow (by omega)
  have mix : ∀ x : Nat, x < 4294967296 → ((x / 2) ^^^ 3988292384).testBit 31 = true := fun x hx => by
    rw [Nat.testBit_xor, top x hx]; decide
  have cancel : ∀ x y p : Nat, x ^^^ p = y ^^^ p → x = y := fun x y p e => by
    have := congrArg (· ^^^ p) e
    simpa [Nat.xor_assoc] using this
  by_cases h1 : a % 2 = 1 <;> by_cases h2 : b % 2 = 1
  · rw [crcBit_odd h1, crcBit_odd h2] at h
    have := cancel _ _ _ h
    omega
  · rw [crcBit_odd h1, crcBit_even h2] at h
    have e := mix a ha
    rw [h, top b hb] at e
    exact absurd e (by decide)
  · rw [crcBit_even h1, crcBit_odd h2] at h
    have e := mix b hb
    rw [← h, top a ha] at e
    exact absurd e (by decide)
  · rw [crcBit_even h1, crcBit_even h2] at h
    omega
theorem crcBits_inj {a b : Nat} (ha : a < 4294967296) (hb : b < 4294967296) : ∀ k, crcBits a k = crcBits b k → a = b
  | 0, h => h
  | k + 1, h => crcBits_inj ha hb k (crcBit_inj (crcBits_lt ha k) (crcBits_lt hb k) h)
theorem xor_byte_lt {c : Nat} (h : c < 4294967296) (b : UInt8) : c ^^^ b.toNat < 4294967296 := (crc_x h b).2
theorem crcByte_inj {a b : Nat} (ha : a < 4294967296) (hb : b < 4294967296) (x : UInt8) (h : crcByte a x = crcByte b x) : a = b := by
  have e := crcBits_inj (xor_byte_lt ha x) (xor_byte_lt hb x) 8 h
  have := congrArg (· ^^^ x.toNat) e
  simpa [Nat.xor_assoc] using this
theorem crcByte_inj' {c : Nat} (hc : c < 4294967296) (x y : UInt8) (h : crcByte c x = crcByte c y) : x = y := by
  have e := crcBits_inj (xor_byte_lt hc x) (xor_byte_lt hc y) 8 h
  have := congrArg (c ^^^ ·) e
  have h2 : x.toNat = y.toNat := by simpa [← Nat.xor_assoc] using this
  exact UInt8.toNat_inj.1 h2
theorem crcFrom_inj : ∀ (l : List UInt8) {a b : Nat} (ha : a < 4294967296) (hb : b < 4294967296), crcFrom a l = crcFrom b l → a = b
  | [], _, _, _, _, h => h
  | x :: l, _, _, ha, hb, h => crcByte_inj ha hb x (crcFrom_inj l (crcByte_lt ha x) (crcByte_lt hb x) h)
theorem crcFrom_append (c : Nat) (l m : List UInt8) : crcFrom c (l ++ m) = crcFrom (crcFrom c l) m := List.foldl_append
/-- One byte turned: another value. -/
theorem crc_turn (l : List UInt8) (x y : UInt8) (m : List UInt8) : crc ⟨(l ++ x :: m).toArray⟩ = crc ⟨(l ++ y :: m).toArray⟩ ↔ x = y := by
  constructor
  · intro h
    unfold crc at h
    have e : ∀ z : UInt8, ((⟨(l ++ z :: m).toArray⟩ : ByteArray)).data.toList = l ++ z :: m := fun z => rfl
    rw [e, e] at h
    have h1 := crcFrom_lt (l ++ x :: m) (c := 4294967295) (by omega)
    have h2 := crcFrom_lt (l ++ y :: m) (c := 4294967295) (by omega)
    have h3 : crcFrom 4294967295 (l ++ x :: m) = crcFrom 4294967295 (l ++ y :: m) := by omega
    rw [crcFrom_append, crcFrom_append] at h3
    have hl := crcFrom_lt l (c := 4294967295) (by omega)
    exact crcByte_inj' hl x y (crcFrom_inj m (crcByte_lt hl x) (crcByte_lt hl y) h3)
  · rintro rfl
    rfl
end Go.Proofs.Ythfnpakddnnccaa
