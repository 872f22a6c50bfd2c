/- What package clef computes: the kinds, of, Check, Position, At: contracts. -/
import Derived.Test.YtdleefphgjnhjaaPitch
namespace Go.Proofs.Ytdleefphgjnhjaa
open Go.RowKit
set_option linter.unusedVariables false

def kName (c : Int) : ByteArray := ([#[116, 114, 101, 98, 108, 101], #[98, 97, 115, 115], #[97, 108, 116, 111], #[116, 101, 110, 111, 114], #[115, 111, 112, 114, 97, 110, 111], #[109, 101, 122, 122, 111, 115, 111, 112, 114, 97, 110, 111], #[98, 97, 114, 105, 116, 111, 110, 101], #[116, 114, 101, 98, 108, 101, 56], #[98, 97, 115, 115, 56]].map ByteArray.mk).getD (c - 1).toNat ⟨#[]⟩
def kLetter (c : Int) : Int := ([71, 70, 67, 67, 67, 67, 70, 71, 70] : List Int).getD (c - 1).toNat 0
def kLine (c : Int) : Int := ([-2, 2, 0, 2, -4, -2, 0, -2, 2] : List Int).getD (c - 1).toNat 0
def kOct (c : Int) : Int := ([0, 0, 0, 0, 0, 0, 0, -1, -1] : List Int).getD (c - 1).toNat 0
def kMid (c : Int) : Int := ([34, 22, 28, 26, 32, 30, 24, 27, 15] : List Int).getD (c - 1).toNat 0
def kSharps (c : Int) : Int := ([-1, -3, -2, -2, -2, -2, -2, -1, -3] : List Int).getD (c - 1).toNat 0
def kFlats (c : Int) : Int := ([-3, -5, -4, -2, -3, -3, -3, -3, -5] : List Int).getD (c - 1).toNat 0
def kindL (c : Int) : List Value := [.string (kName c), .int .u8 (kLetter c), .int .i64 (kLine c), .int .i64 (kOct c), .int .i64 (kMid c), .int .i64 (kSharps c), .int .i64 (kFlats c)]
def kindsA : Array Value := (kindL 1 ++ kindL 2 ++ kindL 3 ++ kindL 4 ++ kindL 5 ++ kindL 6 ++ kindL 7 ++ kindL 8 ++ kindL 9).toArray
def zerosA : Array Value := ((List.range 9).flatMap fun _ => [.string ⟨#[]⟩, .int .u8 0, .int .i64 0, .int .i64 0, .int .i64 0, .int .i64 0, .int .i64 0]).toArray

def kindV (c : Int) : Value := .agg (kindL c).toArray
theorem cases9 {c : Int} (h1 : 1 ≤ c) (h9 : c ≤ 9) : c = 1 ∨ c = 2 ∨ c = 3 ∨ c = 4 ∨ c = 5 ∨ c = 6 ∨ c = 7 ∨ c = 8 ∨ c = 9 := by omega
theorem kMid_bd {c : Int} (h1 : 1 ≤ c) (h9 : c ≤ 9) : 15 ≤ kMid c ∧ kMid c ≤ 34 := by
  rcases cases9 h1 h9 with rfl | rfl | rfl | rfl | rfl | rfl | rfl | rfl | rfl <;> decide

theorem infoKinds : (Try.prog.info? 68).map (·.size) = some kindsA.size := by kernel_rfl


theorem kinds_any (w : World) : Calls Try.prog 37 #[] w fun e w' => e = .returned (.agg kindsA) ∧ Below w.heap.size w w' := by
  go_enter Try.func37, Try.ntmps37
  apply wp_seq_k; intro K hK
  apply wp_region_lit
  refine wpList_at (w' := w.alloc (.cells zerosA 68)) (.alloc 68) (.pointer (some ⟨w.heap.size, 0, none⟩)) rfl rfl (by kernel_rfl) ?_
  apply wpList_nil
  simp only [Exit.then]
  apply hK
  clear hK K
  apply wp_seq_k; intro K hK
  apply wp_region_lit
  refine wpList_val (.agg (kindL 1).toArray) rfl (by kernel_rfl) ?_
  refine wpList_val (.agg (kindL 2).toArray) rfl (by kernel_rfl) ?_
  refine wpList_val (.agg (kindL 3).toArray) rfl (by kernel_rfl) ?_
  refine wpList_val (.agg (kindL 4).toArray) rfl (by kernel_rfl) ?_
  refine wpList_val (.agg (kindL 5).toArray) rfl (by kernel_rfl) ?_
  refine wpList_val (.agg (kindL 6).toArray) rfl (by kernel_rfl) ?_
  refine wpList_val (.agg (kindL 7).toArray) rfl (by kernel_rfl) ?_
  refine wpList_val (.agg (kindL 8).toArray) rfl (by kernel_rfl) ?_
  refine wpList_val (.agg (kindL 9).toArray) rfl (by kernel_rfl) ?_
  refine wpList_val (.agg kindsA) rfl (by kernel_rfl) ?_
  refine wpList_store_new 68 _ _ zerosA kindsA rfl rfl (by kernel_rfl) (by kernel_rfl) infoKinds (by kernel_rfl) (by kernel_rfl) ?_
  apply wpList_nil
  simp only [Exit.then]
  apply hK
  clear hK K
  apply wp_ret
  exact bodyPost_ret (results_cell1 Try.results37 (by kernel_rfl) (run_loadVar_new (P := Try.prog) w 68 kindsA 9 63 Try.underlying68 infoKinds)) (by kernel_rfl) ⟨rfl, by go_grown⟩

theorem kinds_index (c : Int) (h1 : 1 ≤ c) (h9 : c ≤ 9) (w : World) : (Instr.index 68 (.agg kindsA) (.int .i64 (c - 1))).run Try.prog w =
    .ok (.agg #[.string (kName c), .int .u8 (kLetter c), .int .i64 (kLine c), .int .i64 (kOct c), .int .i64 (kMid c), .int .i64 (kSharps c), .int .i64 (kFlats c)]) w := by
  rcases cases9 h1 h9 with rfl | rfl | rfl | rfl | rfl | rfl | rfl | rfl | rfl <;> kernel_rfl

theorem of_ok (c : Int) (w : World) (h1 : 1 ≤ c) (h9 : c ≤ 9) :
    Calls Try.prog 33 #[.int .i64 c] w fun e w' => e = .returned (.tuple #[.agg #[.string (kName c), .int .u8 (kLetter c), .int .i64 (kLine c), .int .i64 (kOct c), .int .i64 (kMid c), .int .i64 (kSharps c), .int .i64 (kFlats c)], .int .i64 0]) ∧ Below w.heap.size w w' := by
  have hi := kinds_index c h1 h9
  go_enter Try.func33, Try.ntmps33
  go_wp2_with (go_at_call 37; refine (kinds_any _).mono ?_; rintro e w1 ⟨rfl, hb⟩; have hz := hb.size; simp only [World.size_alloc] at hz; have hy : w.heap.size < w1.heap.size := (by omega); obtain ⟨hc, hf⟩ := bcell hb)
  have hb' := base1 hb
  exact bodyPost_ret (v := .tuple #[.agg #[.string (kName c), .int .u8 (kLetter c), .int .i64 (kLine c), .int .i64 (kOct c), .int .i64 (kMid c), .int .i64 (kSharps c), .int .i64 (kFlats c)], .int .i64 0]) (by simp [results, Try.results33, go_sem, hc]) rfl ⟨rfl, by go_grown⟩

theorem of_bad (c : Int) (w : World) (h : c < 1 ∨ 9 < c) :
    Calls Try.prog 33 #[.int .i64 c] w fun e w' => e = .returned (.tuple #[.agg #[.string ⟨#[]⟩, .int .u8 0, .int .i64 0, .int .i64 0, .int .i64 0, .int .i64 0, .int .i64 0], .int .i64 11]) ∧ Below w.heap.size w w' := by
  rcases h with h | h
  · go_enter Try.func33, Try.ntmps33
    go_wp2_with fail
    exact bodyPost_ret (v := .tuple #[.agg #[.string ⟨#[]⟩, .int .u8 0, .int .i64 0, .int .i64 0, .int .i64 0, .int .i64 0, .int .i64 0], .int .i64 11]) (by simp [results, Try.results33, go_sem]) rfl ⟨rfl, by go_grown⟩
  · have h' : 1 ≤ c := by omega
    go_enter Try.func33, Try.ntmps33
    go_wp2_with fail
    exact bodyPost_ret (v := .tuple #[.agg #[.string ⟨#[]⟩, .int .u8 0, .int .i64 0, .int .i64 0, .int .i64 0, .int .i64 0, .int .i64 0], .int .i64 11]) (by simp [results, Try.results33, go_sem]) rfl ⟨rfl, by go_grown⟩

theorem ccheck_ok (c : Int) (w : World) (h1 : 1 ≤ c) (h9 : c ≤ 9) :
    Calls Try.prog 25 #[.int .i64 c] w fun e w' => e = .returned (.int .i64 0) ∧ Below w.heap.size w w' := by
  go_enter Try.func25, Try.ntmps25
  go_wp2_with (go_at_call 33; refine (of_ok _ _ h1 h9).mono ?_; rintro e w1 ⟨rfl, hb⟩; have hz := hb.size)
  go_returns
  exact ⟨rfl, by go_grown⟩

theorem ccheck_bad (c : Int) (w : World) (h : c < 1 ∨ 9 < c) :
    Calls Try.prog 25 #[.int .i64 c] w fun e w' => e = .returned (.int .i64 11) ∧ Below w.heap.size w w' := by
  go_enter Try.func25, Try.ntmps25
  go_wp2_with (go_at_call 33; refine (of_bad _ _ h).mono ?_; rintro e w1 ⟨rfl, hb⟩; have hz := hb.size)
  go_returns
  exact ⟨rfl, by go_grown⟩

theorem position_ok (c s al o : Int) (w : World) (h1 : 1 ≤ c) (h9 : c ≤ 9) (h : okP s al o) :
    Calls Try.prog 16 #[.int .i64 c, .agg #[.int .i64 s, .int .i64 al, .int .i64 o]] w fun e w' => e = .returned (.tuple #[.int .i64 (7 * o + s - kMid c), .int .i64 0]) ∧ Below w.heap.size w w' := by
  obtain ⟨k0, k1⟩ := kMid_bd h1 h9
  obtain ⟨h0, h6, ha, ha', ho, ho'⟩ := h.1
  go_enter Try.func16, Try.ntmps16
  go_wp2_with (first
    | (go_at_call 33; refine (of_ok _ _ h1 h9).mono ?_; rintro e w1 ⟨rfl, hb⟩; have hz := hb.size; simp only [World.size_alloc] at hz; have hy : w.heap.size < w1.heap.size := (by omega); obtain ⟨hc, hf⟩ := bcell hb)
    | (go_at_call 35; refine (diatonic_ok _ _ _ _ h).mono ?_; rintro e w2 ⟨rfl, hb2⟩; have hz2 := hb2.size; simp only [World.size_alloc] at hz2; have hy2 : w.heap.size < w2.heap.size := (by omega); obtain ⟨hc2, hf2⟩ := bcell hb2; obtain ⟨hc3, hf3⟩ := bcell (next1 hb hb2)))
  have hb' := base1 (next1 hb hb2)
  go_returns
  exact ⟨rfl, by go_grown⟩

theorem position_kind (c s al o : Int) (w : World) (h : c < 1 ∨ 9 < c) :
    Calls Try.prog 16 #[.int .i64 c, .agg #[.int .i64 s, .int .i64 al, .int .i64 o]] w fun e w' => e = .returned (.tuple #[.int .i64 0, .int .i64 11]) ∧ Below w.heap.size w w' := by
  go_enter Try.func16, Try.ntmps16
  go_wp2_with (go_at_call 33; refine (of_bad _ _ h).mono ?_; rintro e w1 ⟨rfl, hb⟩; have hz := hb.size; simp only [World.size_alloc] at hz; have hy : w.heap.size < w1.heap.size := (by omega); obtain ⟨hc, hf⟩ := bcell hb)
  have hb' := base1 hb
  go_returns
  exact ⟨rfl, by go_grown⟩

theorem position_bad (c s al o : Int) (w : World) (h1 : 1 ≤ c) (h9 : c ≤ 9) (h : ¬ okP s al o) :
    Calls Try.prog 16 #[.int .i64 c, .agg #[.int .i64 s, .int .i64 al, .int .i64 o]] w fun e w' => e = .returned (.tuple #[.int .i64 0, .int .i64 18]) ∧ Below w.heap.size w w' := by
  go_enter Try.func16, Try.ntmps16
  go_wp2_with (first
    | (go_at_call 33; refine (of_ok _ _ h1 h9).mono ?_; rintro e w1 ⟨rfl, hb⟩; have hz := hb.size; simp only [World.size_alloc] at hz; have hy : w.heap.size < w1.heap.size := (by omega); obtain ⟨hc, hf⟩ := bcell hb)
    | (go_at_call 35; refine (diatonic_bad _ _ _ _ h).mono ?_; rintro e w2 ⟨rfl, hb2⟩; have hz2 := hb2.size; simp only [World.size_alloc] at hz2; have hy2 : w.heap.size < w2.heap.size := (by omega); obtain ⟨hc2, hf2⟩ := bcell hb2; obtain ⟨hc3, hf3⟩ := bcell (next1 hb hb2)))
  have hb' := base1 (next1 hb hb2)
  go_returns
  exact ⟨rfl, by go_grown⟩

/-- The pitch without alteration at a place, if there is one. -/
def dOk (d : Int) : Prop := okP (d % 7) 0 (d / 7)

theorem at_ok (c p : Int) (w : World) (h1 : 1 ≤ c) (h9 : c ≤ 9) (h0 : -200 ≤ p) (h2 : p ≤ 200) (h : dOk (kMid c + p)) :
    Calls Try.prog 13 #[.int .i64 c, .int .i64 p] w fun e w' => e = .returned (.tuple #[.agg #[.int .i64 ((kMid c + p) % 7), .int .i64 0, .int .i64 ((kMid c + p) / 7)], .int .i64 0]) ∧ Below w.heap.size w w' := by
  obtain ⟨k0, k1⟩ := kMid_bd h1 h9
  have H := Lib.hid h
  clear h
  go_enter Try.func13, Try.ntmps13
  go_wp2_with (first
    | (go_at_call 33; refine (of_ok _ _ h1 h9).mono ?_; rintro e w1 ⟨rfl, hb⟩; have hz := hb.size; simp only [World.size_alloc] at hz; have hy : w.heap.size < w1.heap.size := (by omega); obtain ⟨hc, hf⟩ := bcell hb)
    | (go_at_call 34; refine (of_pitch_ok _ _ (by omega) (by omega) H.out).mono ?_; rintro e w2 ⟨rfl, hb2⟩; have hz2 := hb2.size; simp only [World.size_alloc] at hz2; have hy2 : w.heap.size < w2.heap.size := (by omega); obtain ⟨hc2, hf2⟩ := bcell hb2; obtain ⟨hc3, hf3⟩ := bcell (next1 hb hb2)))
  have hb' := base1 (next1 hb hb2)
  exact bodyPost_ret (v := .tuple #[.agg #[.int .i64 ((kMid c + p) % 7), .int .i64 0, .int .i64 ((kMid c + p) / 7)], .int .i64 0]) (by simp [results, Try.results13, go_sem, hc3, hy2]) rfl ⟨rfl, by go_grown⟩

theorem at_kind (c p : Int) (w : World) (h : c < 1 ∨ 9 < c) :
    Calls Try.prog 13 #[.int .i64 c, .int .i64 p] w fun e w' => e = .returned (.tuple #[.agg #[.int .i64 0, .int .i64 0, .int .i64 0], .int .i64 11]) ∧ Below w.heap.size w w' := by
  go_enter Try.func13, Try.ntmps13
  go_wp2_with (go_at_call 33; refine (of_bad _ _ h).mono ?_; rintro e w1 ⟨rfl, hb⟩; have hz := hb.size; simp only [World.size_alloc] at hz; have hy : w.heap.size < w1.heap.size := (by omega); obtain ⟨hc, hf⟩ := bcell hb)
  have hb' := base1 hb
  exact bodyPost_ret (v := .tuple #[.agg #[.int .i64 0, .int .i64 0, .int .i64 0], .int .i64 11]) (by simp [results, Try.results13, go_sem, hc, hy]) rfl ⟨rfl, by go_grown⟩

theorem at_range (c p : Int) (w : World) (h1 : 1 ≤ c) (h9 : c ≤ 9) (h : p < -200 ∨ 200 < p) :
    Calls Try.prog 13 #[.int .i64 c, .int .i64 p] w fun e w' => e = .returned (.tuple #[.agg #[.int .i64 0, .int .i64 0, .int .i64 0], .int .i64 2]) ∧ Below w.heap.size w w' := by
  rcases h with h | h
  · go_enter Try.func13, Try.ntmps13
    go_wp2_with (go_at_call 33; refine (of_ok _ _ h1 h9).mono ?_; rintro e w1 ⟨rfl, hb⟩; have hz := hb.size; simp only [World.size_alloc] at hz; have hy : w.heap.size < w1.heap.size := (by omega); obtain ⟨hc, hf⟩ := bcell hb)
    have hb' := base1 hb
    exact bodyPost_ret (v := .tuple #[.agg #[.int .i64 0, .int .i64 0, .int .i64 0], .int .i64 2]) (by simp [results, Try.results13, go_sem, hc, hy]) rfl ⟨rfl, by go_grown⟩
  · have h' : -200 ≤ p := by omega
    go_enter Try.func13, Try.ntmps13
    go_wp2_with (go_at_call 33; refine (of_ok _ _ h1 h9).mono ?_; rintro e w1 ⟨rfl, hb⟩; have hz := hb.size; simp only [World.size_alloc] at hz; have hy : w.heap.size < w1.heap.size := (by omega); obtain ⟨hc, hf⟩ := bcell hb)
    have hb' := base1 hb
    exact bodyPost_ret (v := .tuple #[.agg #[.int .i64 0, .int .i64 0, .int .i64 0], .int .i64 2]) (by simp [results, Try.results13, go_sem, hc, hy]) rfl ⟨rfl, by go_grown⟩

theorem at_none (c p : Int) (w : World) (h1 : 1 ≤ c) (h9 : c ≤ 9) (h0 : -200 ≤ p) (h2 : p ≤ 200) (h : ¬ dOk (kMid c + p)) :
    Calls Try.prog 13 #[.int .i64 c, .int .i64 p] w fun e w' => e = .returned (.tuple #[.agg #[.int .i64 0, .int .i64 0, .int .i64 0], .int .i64 2]) ∧ Below w.heap.size w w' := by
  obtain ⟨k0, k1⟩ := kMid_bd h1 h9
  have H := Lib.hid h
  clear h
  go_enter Try.func13, Try.ntmps13
  go_wp2_with (first
    | (go_at_call 33; refine (of_ok _ _ h1 h9).mono ?_; rintro e w1 ⟨rfl, hb⟩; have hz := hb.size; simp only [World.size_alloc] at hz; have hy : w.heap.size < w1.heap.size := (by omega); obtain ⟨hc, hf⟩ := bcell hb)
    | (go_at_call 34; refine (of_pitch_bad _ _ (by omega) (by omega) H.out).mono ?_; rintro e w2 ⟨rfl, hb2⟩; have hz2 := hb2.size; simp only [World.size_alloc] at hz2; have hy2 : w.heap.size < w2.heap.size := (by omega); obtain ⟨hc2, hf2⟩ := bcell hb2; obtain ⟨hc3, hf3⟩ := bcell (next1 hb hb2)))
  have hb' := base1 (next1 hb hb2)
  exact bodyPost_ret (v := .tuple #[.agg #[.int .i64 0, .int .i64 0, .int .i64 0], .int .i64 2]) (by simp [results, Try.results13, go_sem, hc3, hy2]) rfl ⟨rfl, by go_grown⟩

end Go.Proofs.Ytdleefphgjnhjaa
