/- What the reference's Name and number come to, in plain words. The contracts of lexis.Name, lexis.number and strconv.Itoa, told by the reference's functions. '[]byte(s)' as an event of the walk: a row of bytes of the call's own, whose block bears a conversion's mark; it is written in one place and read back. An argument that is a list of tokens, opened to its rows. -/
import Derived.Lib.Atoi
import Derived.Test.YthcllibbaindbaaDoorMDoes1
import Derived.Test.YthcllibbaindbaaDoorMDoes0
import Derived.Shelf.Strconv.AtoiAll
import Derived.Lib.SmallJoins
import Derived.Deep.QuietTactic
import Derived.BigQuiet
import Derived.Lib.Hide
import Derived.Lib.ConvBytes
import Derived.Deep.Slices
import Derived.Deep.Fields
import Derived.ChangeSame
namespace Go.Proofs.YthcllibbaindbaaDoor.Px
open Go.RowKit Go.Lib Go.Proofs.YthcllibbaindbaaDoorW.PrintWords Go.Proofs.YthcllibbaindbaaDoorW.PrintLast Go.Proofs.YthcllibbaindbaaDoorW.PrintMore

def letterP (r : Nat) : Bool := decide (97 ≤ r) && decide (r ≤ 122)
def digitP (r : Nat) : Bool := decide (48 ≤ r) && decide (r ≤ 57)
theorem letterP_lt (r : Nat) (h : letterP r = true) : r < 128 := by simp [letterP] at h; omega
theorem digitP_lt (r : Nat) (h : digitP r = true) : r < 128 := by simp [digitP] at h; omega
theorem rletter_f (r : Nat) : pr_letter.f r = some (letterP r) := by
  unfold pr_letter.f letterP
  by_cases h : (r : Int) ≥ 97
  · rw [if_pos h]; congr 1; rw [Bool.eq_iff_iff]; simp; omega
  · rw [if_neg h]; congr 1; rw [Bool.eq_iff_iff]; simp; omega
theorem rdigit_f (r : Nat) : pr_digit.f r = some (digitP r) := by
  unfold pr_digit.f digitP
  by_cases h : (r : Int) ≥ 48
  · rw [if_pos h]; congr 1; rw [Bool.eq_iff_iff]; simp; omega
  · rw [if_neg h]; congr 1; rw [Bool.eq_iff_iff]; simp; omega

theorem bt_get (s : ByteArray) (i : Nat) (h : i < s.size) : bt s i = ((s.get! i).toNat : Int) := by
  have h' : i < s.data.size := h
  unfold bt
  rw [dif_pos (by simpa using h)]
  congr 2
  show s[i] = s.data[i]!
  rw [getElem!_pos s.data i h']
  rfl

theorem wrap_small {x : Int} (h0 : -9223372036854775808 ≤ x) (h1 : x ≤ 9223372036854775807) : wrap64 x = x := by
  unfold wrap64; omega

/-- The loop of Name. -/
theorem Name_l0 (s : ByteArray) (hs : s.size ≤ 1000000) : ∀ (k : Nat) (i : Nat) (r : Bool), i ≤ s.size → pr_Name.l0 k s i = some r →
    (r = true ↔ AllB letterP s i s.size)
  | 0, i, r, _, h => by simp [pr_Name.l0] at h
  | k + 1, i, r, hi, h => by
    simp only [pr_Name.l0] at h
    by_cases hlt : i < s.size
    · rw [if_pos (by omega), if_pos (by omega), bt_get s i hlt, rletter_f] at h
      simp only [Option.bind_some] at h
      cases hl : letterP (s.get! i).toNat with
      | true =>
        rw [hl, if_pos rfl, wrap_small (by omega) (by omega)] at h
        have := Name_l0 s hs k (i + 1) r (by omega) (by exact_mod_cast h)
        rw [this]
        refine ⟨fun ha j h1 h2 => ?_, fun ha j h1 h2 => ha j (by omega) h2⟩
        by_cases hj : j = i
        · subst hj; exact hl
        · exact ha j (by omega) h2
      | false =>
        rw [hl, if_neg (by simp)] at h
        obtain rfl := Option.some.inj h
        refine ⟨fun h => (by cases h), fun ha => ?_⟩
        have := ha i (Nat.le_refl _) hlt
        rw [hl] at this; cases this
    · rw [if_neg (by omega)] at h
      obtain rfl := Option.some.inj h
      exact ⟨fun _ j h1 h2 => (by omega), fun _ => rfl⟩

/-- Is a text a name? -/
def IsName (s : ByteArray) : Prop := 1 ≤ s.size ∧ s.size ≤ 16 ∧ AllB letterP s 0 s.size

theorem Name_law (k : Nat) (s : ByteArray) (r : Bool) (h : pr_Name.f k s = some r) : r = true ↔ IsName s := by
  unfold pr_Name.f at h
  unfold IsName
  by_cases h1 : (s.size : Int) < 1
  · rw [if_pos h1] at h
    cases k with
    | zero => simp [pr_Name.j0] at h
    | succ k =>
      simp [pr_Name.j0] at h
      subst h
      simp; omega
  · rw [if_neg h1] at h
    cases k with
    | zero => simp [pr_Name.j0] at h
    | succ k =>
      simp only [pr_Name.j0] at h
      by_cases h2 : (s.size : Int) > 16
      · rw [if_pos (by simpa using h2)] at h
        obtain rfl := Option.some.inj h
        simp; omega
      · rw [if_neg (by simpa using h2)] at h
        have := Name_l0 s (by omega) k 0 r (by omega) (by exact_mod_cast h)
        rw [this]
        exact ⟨fun h => ⟨by omega, by omega, h⟩, fun h => h.2.2⟩

/-- Some rounds are enough. -/
theorem Name_l0_some (s : ByteArray) (hs : s.size ≤ 1000000) : ∀ (d k : Nat) (i : Nat), s.size - i ≤ d → d < k → i ≤ s.size → ∃ r, pr_Name.l0 k s i = some r
  | d, 0, i, _, hk, _ => by omega
  | d, k + 1, i, hd, hk, hi => by
    simp only [pr_Name.l0]
    by_cases hlt : i < s.size
    · rw [if_pos (by omega), if_pos (by omega), bt_get s i hlt, rletter_f]
      simp only [Option.bind_some]
      cases hl : letterP (s.get! i).toNat with
      | true =>
        rw [if_pos rfl, wrap_small (by omega) (by omega)]
        cases d with
        | zero => omega
        | succ d => exact_mod_cast Name_l0_some s hs d k (i + 1) (by omega) (by omega) (by omega)
      | false => exact ⟨_, rfl⟩
    · rw [if_neg (by omega)]; exact ⟨_, rfl⟩

theorem Name_some (k : Nat) (hk : 20 ≤ k) (s : ByteArray) : ∃ r, pr_Name.f k s = some r := by
  unfold pr_Name.f
  obtain ⟨k, rfl⟩ : ∃ m, k = m + 1 := ⟨k - 1, by omega⟩
  by_cases h1 : (s.size : Int) < 1
  · rw [if_pos h1]; exact ⟨false, by simp [pr_Name.j0]⟩
  · rw [if_neg h1]
    simp only [pr_Name.j0]
    by_cases h2 : (s.size : Int) > 16
    · rw [if_pos (by simpa using h2)]; exact ⟨_, rfl⟩
    · rw [if_neg (by simpa using h2)]
      exact_mod_cast Name_l0_some s (by omega) 17 k 0 (by omega) (by omega) (by omega)

/-- Is a text a number? -/
def IsNum (s : ByteArray) : Prop := 1 ≤ s.size ∧ s.size ≤ 6 ∧ AllB digitP s 0 s.size ∧ ¬ (bt s 0 = 48 ∧ 1 < s.size)

theorem digitVal_of {b : UInt8} (h : digitP b.toNat = true) : digitVal b = some (b.toNat - 48) := by
  simp [digitP] at h
  simp [digitVal, h]

theorem toList_at (s : ByteArray) (i : Nat) (h : i < s.size) : s.data.toList[i]? = some (s.get! i) := by
  have h' : i < s.data.size := h
  rw [Array.getElem?_toList]
  show s.data[i]? = some (s.data[i]!)
  rw [getElem!_pos s.data i h', Array.getElem?_eq_getElem h']

/-- The loop of number: the digits so far spell 'acc'. -/
theorem number_l0 (s : ByteArray) (hs : s.size ≤ 6) : ∀ (k : Nat) (i acc : Nat) (r1 : Int) (r2 : Bool), i ≤ s.size → decFrom 0 (s.data.toList.take i) = some acc → acc < 10 ^ i → AllB digitP s 0 i →
    pr_number.l0 k s acc i = some (r1, r2) →
    (r2 = true ∧ AllB digitP s 0 s.size ∧ ∃ n : Nat, r1 = n ∧ decFrom 0 s.data.toList = some n) ∨ (r2 = false ∧ r1 = 0 ∧ ¬ AllB digitP s 0 s.size)
  | 0, i, acc, r1, r2, _, _, _, _, h => by simp [pr_number.l0] at h
  | k + 1, i, acc, r1, r2, hi, hd, ha, hall, h => by
    have hp : (10 : Nat) ^ i ≤ 10 ^ 6 := Nat.pow_le_pow_right (by omega) (by omega)
    simp only [pr_number.l0] at h
    by_cases hlt : i < s.size
    · rw [if_pos (by omega), if_pos (by omega), bt_get s i hlt, rdigit_f] at h
      simp only [Option.bind_some] at h
      cases hl : digitP (s.get! i).toNat with
      | true =>
        have hb : 48 ≤ (s.get! i).toNat ∧ (s.get! i).toNat ≤ 57 := by simpa [digitP] using hl
        rw [hl, if_pos rfl, wrap_small (x := (i : Int) + 1) (by omega) (by omega), wrap_small (x := ((s.get! i).toNat : Int)) (by omega) (by omega), wrap_small (x := (acc : Int) * 10) (by omega) (by omega), wrap_small (x := (acc : Int) * 10 + ((s.get! i).toNat : Int)) (by omega) (by omega), wrap_small (by omega) (by omega)] at h
        have e : (acc : Int) * 10 + ((s.get! i).toNat : Int) - 48 = ((acc * 10 + ((s.get! i).toNat - 48) : Nat) : Int) := by omega
        rw [e] at h
        have hd' := decFrom_take s.data.toList i 0 acc (s.get! i) ((s.get! i).toNat - 48) hd (toList_at s i hlt) (digitVal_of hl)
        exact number_l0 s hs k (i + 1) _ r1 r2 (by omega) hd' (by rw [Nat.pow_succ]; omega) (fun j h1 h2 => by
          by_cases hj : j = i
          · subst hj; exact hl
          · exact hall j h1 (by omega)) (by exact_mod_cast h)
      | false =>
        rw [hl, if_neg (by simp)] at h
        obtain ⟨rfl, rfl⟩ := Prod.mk.inj (Option.some.inj h)
        refine .inr ⟨rfl, rfl, fun ha => ?_⟩
        have := ha i (by omega) hlt
        rw [hl] at this; cases this
    · rw [if_neg (by omega)] at h
      obtain ⟨rfl, rfl⟩ := Prod.mk.inj (Option.some.inj h)
      have : i = s.size := by omega
      subst this
      have hf : s.data.toList.take s.size = s.data.toList := List.take_of_length_le (by rw [Array.length_toList]; exact Nat.le_refl _)
      rw [hf] at hd
      exact .inl ⟨rfl, hall, acc, rfl, hd⟩

theorem number_law (k : Nat) (s : ByteArray) (r1 : Int) (r2 : Bool) (h : pr_number.f k s = some (r1, r2)) :
    (r2 = true ∧ IsNum s ∧ ∃ n : Nat, r1 = n ∧ decFrom 0 s.data.toList = some n) ∨ (r2 = false ∧ r1 = 0 ∧ ¬ IsNum s) := by
  unfold pr_number.f at h
  unfold IsNum
  obtain ⟨k, rfl⟩ : ∃ m, k = m + 1 := by
    cases k with
    | zero =>
      exfalso
      simp [pr_number.j0] at h
    | succ k => exact ⟨k, rfl⟩
  by_cases h1 : (s.size : Int) < 1
  · rw [if_pos h1] at h
    simp [pr_number.j0] at h
    obtain ⟨rfl, rfl⟩ := h
    exact .inr ⟨rfl, rfl, fun h => by omega⟩
  · rw [if_neg h1] at h
    by_cases h2 : (s.size : Int) > 6
    · rw [if_pos h2] at h
      simp [pr_number.j0] at h
      obtain ⟨rfl, rfl⟩ := h
      exact .inr ⟨rfl, rfl, fun h => by omega⟩
    · rw [if_neg h2, if_pos (by omega)] at h
      have go : ∀ (hz : ¬ (bt s 0 = 48 ∧ 1 < s.size)), pr_number.l0 k s 0 0 = some (r1, r2) →
          (r2 = true ∧ (1 ≤ s.size ∧ s.size ≤ 6 ∧ AllB digitP s 0 s.size ∧ ¬ (bt s 0 = 48 ∧ 1 < s.size)) ∧ ∃ n : Nat, r1 = n ∧ decFrom 0 s.data.toList = some n) ∨ (r2 = false ∧ r1 = 0 ∧ ¬ (1 ≤ s.size ∧ s.size ≤ 6 ∧ AllB digitP s 0 s.size ∧ ¬ (bt s 0 = 48 ∧ 1 < s.size))) := by
        intro hz h
        rcases number_l0 s (by omega) k 0 0 r1 r2 (by omega) (by simp [decFrom]) (by simp) (fun j _ h2 => by omega) (by exact_mod_cast h) with ⟨a, b, c⟩ | ⟨a, b, c⟩
        · exact .inl ⟨a, ⟨by omega, by omega, b, hz⟩, c⟩
        · exact .inr ⟨a, b, fun h => c h.2.2.1⟩
      by_cases h3 : bt s 0 = 48
      · rw [if_pos h3] at h
        simp only [pr_number.j0] at h
        by_cases h4 : (s.size : Int) > 1
        · rw [if_pos (by simpa using h4)] at h
          obtain ⟨rfl, rfl⟩ := Prod.mk.inj (Option.some.inj h)
          exact .inr ⟨rfl, rfl, fun h => h.2.2.2 ⟨h3, by omega⟩⟩
        · rw [if_neg (by simpa using h4)] at h
          exact go (fun h => by omega) h
      · rw [if_neg h3] at h
        simp only [pr_number.j0] at h
        rw [if_neg (by simp)] at h
        exact go (fun h => h3 h.1) h

theorem number_l0_some (s : ByteArray) (hs : s.size ≤ 6) : ∀ (d k : Nat) (i : Nat) (acc : Int), s.size - i ≤ d → d < k → i ≤ s.size → ∃ r, pr_number.l0 k s acc i = some r
  | d, 0, i, acc, _, hk, _ => by omega
  | d, k + 1, i, acc, hd, hk, hi => by
    simp only [pr_number.l0]
    by_cases hlt : i < s.size
    · rw [if_pos (by omega), if_pos (by omega), bt_get s i hlt, rdigit_f]
      simp only [Option.bind_some]
      cases hl : digitP (s.get! i).toNat with
      | true =>
        rw [if_pos rfl, wrap_small (x := (i : Int) + 1) (by omega) (by omega)]
        cases d with
        | zero => omega
        | succ d => exact_mod_cast number_l0_some s hs d k (i + 1) _ (by omega) (by omega) (by omega)
      | false => exact ⟨_, rfl⟩
    · rw [if_neg (by omega)]; exact ⟨_, rfl⟩

theorem number_some (k : Nat) (hk : 20 ≤ k) (s : ByteArray) : ∃ r, pr_number.f k s = some r := by
  unfold pr_number.f
  obtain ⟨k, rfl⟩ : ∃ m, k = m + 1 := ⟨k - 1, by omega⟩
  by_cases h1 : (s.size : Int) < 1
  · rw [if_pos h1]; exact ⟨(0, false), by simp [pr_number.j0]⟩
  · rw [if_neg h1]
    by_cases h2 : (s.size : Int) > 6
    · rw [if_pos h2]; exact ⟨(0, false), by simp [pr_number.j0]⟩
    · rw [if_neg h2, if_pos (by omega)]
      have := number_l0_some s (by omega) 6 k 0 0 (by omega) (by omega) (by omega)
      split <;> simp only [pr_number.j0] <;> split <;> first | exact ⟨_, rfl⟩ | exact_mod_cast this
end Go.Proofs.YthcllibbaindbaaDoor.Px
namespace Go.Proofs.YthcllibbaindbaaDoor.Px
open Go.RowKit Go.Lib Go.Proofs.YthcllibbaindbaaDoorW.PrintWords Go.Proofs.YthcllibbaindbaaDoorW.PrintLast Go.Proofs.YthcllibbaindbaaDoorW.PrintMore

theorem letter_f (r : Nat) : lexis_letter.f r = some (letterP r) := by
  unfold lexis_letter.f letterP
  by_cases h : (r : Int) ≥ 97
  · rw [if_pos h]; congr 1; rw [Bool.eq_iff_iff]; simp; omega
  · rw [if_neg h]; congr 1; rw [Bool.eq_iff_iff]; simp; omega
theorem digit_f (r : Nat) : lexis_digit.f r = some (digitP r) := by
  unfold lexis_digit.f digitP
  by_cases h : (r : Int) ≥ 48
  · rw [if_pos h]; congr 1; rw [Bool.eq_iff_iff]; simp; omega
  · rw [if_neg h]; congr 1; rw [Bool.eq_iff_iff]; simp; omega
theorem letter_pred (w : World) : PredAt Tryd.prog 23 #[] encR letterP w := fun W r _ => by
  unfold FnGives
  refine (lexis_letter.calls (r : Int) (letterP r) W (letter_f r)).mono ?_
  rintro e w' ⟨rfl, n, rfl⟩
  exact ⟨rfl, n, rfl⟩
theorem digit_pred (w : World) : PredAt Tryd.prog 24 #[] encR digitP w := fun W r _ => by
  unfold FnGives
  refine (lexis_digit.calls (r : Int) (digitP r) W (digit_f r)).mono ?_
  rintro e w' ⟨rfl, n, rfl⟩
  exact ⟨rfl, n, rfl⟩

theorem isEmpty_size (s : ByteArray) : s.toList.isEmpty = decide (s.size = 0) := by
  rw [Lib.toList_data, Bool.eq_iff_iff, List.isEmpty_iff_length_eq_zero, Array.length_toList]
  exact decide_eq_true_iff.symm
theorem byteArray_eq_empty (s : ByteArray) (h : s.size = 0) : s = ⟨#[]⟩ := by
  obtain ⟨d⟩ := s
  have : d = #[] := Array.eq_empty_of_size_eq_zero h
  subst this; rfl

set_option maxHeartbeats 400000 in
theorem Name_walk (s : ByteArray) (w : World) (hL : Laid w) :
    Calls Tryd.prog 13 #[.string s] w fun e w' => e = .returned (.bool (decide (1 ≤ s.size) && decide (s.size ≤ 16) && (trimF letterP s).toList.isEmpty)) ∧ Below w.heap.size w w' := by
  have eg : ∀ args w, (callFunc 23 args).run Tryd.prog w = .ok (.enter 23 args) w := enters_of Tryd.func23 (by kernel_rfl) rfl
  have HL := Aside0.mk hL
  clear hL
  by_cases h1 : 1 ≤ s.size
  · by_cases h2 : s.size ≤ 16
    · have H1 : decide (1 ≤ (s.size : Int)) = true := by simp; omega
      have H2 : decide ((s.size : Int) ≤ 16) = true := by simp; omega
      go_enter Tryd.func13, Tryd.ntmps13
      go_wp2_with (go_at_call 26; refine (Tryd.strings_TrimFunc 23 #[] eg letterP s _ (by omega) (by exact HL.out.1) (letter_pred _)).mono ?_; rintro e w1 ⟨rfl, hb⟩; have HB := Aside0.mk hb; clear hb)
      go_ret
      exact ⟨by simp [h1, h2], HB.out⟩
    · have H1 : decide (1 ≤ (s.size : Int)) = true := by simp; omega
      have H2 : decide ((s.size : Int) ≤ 16) = false := by simp; omega
      go_enter Tryd.func13, Tryd.ntmps13
      go_wp2_with fail
      go_ret
      exact ⟨by simp [h2], Below.refl _ _⟩
  · have H1 : decide (1 ≤ (s.size : Int)) = false := by simp; omega
    go_enter Tryd.func13, Tryd.ntmps13
    go_wp2_with fail
    go_ret
    exact ⟨by simp [h1], Below.refl _ _⟩

def lexis_Name.f (k : Nat) (a0 : ByteArray) : Option (Bool) := pr_Name.f k a0
theorem lexis_Name.mono : ∀ a0 k, LeO (lexis_Name.f k a0) (lexis_Name.f (k + 1) a0) := pr_Name.mono
theorem lexis_Name.calls (k : Nat) (a0 : ByteArray) (r : Bool) (w : World) (hLaid : Laid w) (h : lexis_Name.f k a0 = some r) :
    Calls Tryd.prog 13 #[.string a0] w fun e w' => e = .returned (.bool r) ∧ Below w.heap.size w w' := by
  have hl := Name_law k a0 r h
  refine (Name_walk a0 w hLaid).mono ?_
  rintro e w' ⟨rfl, hb⟩
  refine ⟨?_, hb⟩
  congr 2
  rw [Bool.eq_iff_iff, hl, isEmpty_size]
  unfold IsName
  simp [trim_empty letterP_lt, and_assoc]

set_option maxHeartbeats 400000 in
theorem number_short (s : ByteArray) (w : World) (h : ¬ (1 ≤ s.size ∧ s.size ≤ 6)) :
    Calls Tryd.prog 37 #[.string s] w fun e w' => e = .returned (.tuple #[.int .i64 0, .bool false]) ∧ Below w.heap.size w w' := by
  by_cases h1 : 1 ≤ s.size
  · have H1 : decide ((s.size : Int) < 1) = false := by simp; omega
    have H2 : decide (6 < (s.size : Int)) = true := by simp; omega
    go_enter Tryd.func37, Tryd.ntmps37
    go_wp2_with fail
    go_ret2
    exact ⟨rfl, Below.refl _ _⟩
  · have H1 : decide ((s.size : Int) < 1) = true := by simp; omega
    go_enter Tryd.func37, Tryd.ntmps37
    go_wp2_with fail
    go_ret2
    exact ⟨rfl, Below.refl _ _⟩

set_option maxHeartbeats 400000 in
theorem number_trim (s : ByteArray) (w : World) (hL : Laid w) (h : 1 ≤ s.size ∧ s.size ≤ 6) (ht : (trimF digitP s).toList.isEmpty = false) :
    Calls Tryd.prog 37 #[.string s] w fun e w' => e = .returned (.tuple #[.int .i64 0, .bool false]) ∧ Below w.heap.size w w' := by
  have eg : ∀ args w, (callFunc 24 args).run Tryd.prog w = .ok (.enter 24 args) w := enters_of Tryd.func24 (by kernel_rfl) rfl
  have HL := Aside0.mk hL
  clear hL
  obtain ⟨h1, h2⟩ := h
  have H1 : decide ((s.size : Int) < 1) = false := by simp; omega
  have H2 : decide (6 < (s.size : Int)) = false := by simp; omega
  have H3 : (!(trimF digitP s).toList.isEmpty) = true := by rw [ht]; rfl
  go_enter Tryd.func37, Tryd.ntmps37
  go_wp2_with (go_at_call 26; refine (Tryd.strings_TrimFunc 24 #[] eg digitP s _ (by omega) (by exact HL.out.1) (digit_pred _)).mono ?_; rintro e w1 ⟨rfl, hb⟩; have HB := Aside0.mk hb; clear hb)
  go_ret2
  exact ⟨rfl, HB.out⟩

set_option maxHeartbeats 400000 in
theorem number_zero (s : ByteArray) (w : World) (hL : Laid w) (h : 1 ≤ s.size ∧ s.size ≤ 6) (ht : (trimF digitP s).toList.isEmpty = true) (hz : bt s 0 = 48) (h3 : 1 < s.size) :
    Calls Tryd.prog 37 #[.string s] w fun e w' => e = .returned (.tuple #[.int .i64 0, .bool false]) ∧ Below w.heap.size w w' := by
  have eg : ∀ args w, (callFunc 24 args).run Tryd.prog w = .ok (.enter 24 args) w := enters_of Tryd.func24 (by kernel_rfl) rfl
  have HL := Aside0.mk hL
  clear hL
  obtain ⟨h1, h2⟩ := h
  have H1 : decide ((s.size : Int) < 1) = false := by simp; omega
  have H2 : decide (6 < (s.size : Int)) = false := by simp; omega
  have H3 : (!(trimF digitP s).toList.isEmpty) = false := by rw [ht]; rfl
  have H4 : decide (1 < (s.size : Int)) = true := by simp; omega
  have hp : 0 < s.size := by omega
  have hx : ((s[0]'hp).toNat : Int) = 48 := by rw [← hz]; exact (bt_at s 0 hp)
  have H5 : (((s[0]'hp).toNat : Int) == 48) = true := by rw [hx]; rfl
  have hx' := Aside0.mk hx
  clear hx hz
  go_enter Tryd.func37, Tryd.ntmps37
  go_wp2_with (go_at_call 26; refine (Tryd.strings_TrimFunc 24 #[] eg digitP s _ (by omega) (by exact HL.out.1) (digit_pred _)).mono ?_; rintro e w1 ⟨rfl, hb⟩; have HB := Aside0.mk hb; clear hb)
  go_ret2
  exact ⟨rfl, HB.out⟩

set_option maxHeartbeats 400000 in
theorem number_num (s : ByteArray) (w : World) (hL : Laid w) (h : 1 ≤ s.size ∧ s.size ≤ 6) (ht : (trimF digitP s).toList.isEmpty = true) (hz : ¬ (bt s 0 = 48 ∧ 1 < s.size)) (n : Int) (ha : Lib.atoi s.data.toList = some n) :
    Calls Tryd.prog 37 #[.string s] w fun e w' => e = .returned (.tuple #[.int .i64 n, .bool true]) ∧ Below w.heap.size w w' := by
  have eg : ∀ args w, (callFunc 24 args).run Tryd.prog w = .ok (.enter 24 args) w := enters_of Tryd.func24 (by kernel_rfl) rfl
  have HL := Aside0.mk hL
  have HA := Aside0.mk ha
  clear hL ha
  obtain ⟨h1, h2⟩ := h
  have H1 : decide ((s.size : Int) < 1) = false := by simp; omega
  have H2 : decide (6 < (s.size : Int)) = false := by simp; omega
  have H3 : (!(trimF digitP s).toList.isEmpty) = false := by rw [ht]; rfl
  have hp : 0 < s.size := by omega
  have hx : ((s[0]'hp).toNat : Int) = bt s 0 := bt_at s 0 hp
  by_cases hz0 : bt s 0 = 48
  · have H4 : decide (1 < (s.size : Int)) = false := by simp; omega
    have H5 : (((s[0]'hp).toNat : Int) == 48) = true := by rw [hx, hz0]; rfl
    clear hx hz0 hz
    go_enter Tryd.func37, Tryd.ntmps37
    go_wp2_with (first | (go_at_call 26; refine (Tryd.strings_TrimFunc 24 #[] eg digitP s _ (by omega) (by exact HL.out.1) (digit_pred _)).mono ?_; rintro e w1 ⟨rfl, hb⟩; have HB := Aside0.mk hb; clear hb) | (go_at_call 45; refine (Tryd.strconv_Atoi s n (by omega) HA.out _).mono ?_; rintro e w2 ⟨rfl, t, rfl⟩))
    go_quiet (fail)
    go_wp2
    go_ret2
    exact ⟨rfl, below_drewN' (HB.out.trans (Go.Joins.below_bytesWorld _ _ _ _ HB.out.size)) _⟩
  · have H5 : (((s[0]'hp).toNat : Int) == 48) = false := by rw [hx]; simpa using hz0
    clear hx hz0 hz
    go_enter Tryd.func37, Tryd.ntmps37
    go_wp2_with (first | (go_at_call 26; refine (Tryd.strings_TrimFunc 24 #[] eg digitP s _ (by omega) (by exact HL.out.1) (digit_pred _)).mono ?_; rintro e w1 ⟨rfl, hb⟩; have HB := Aside0.mk hb; clear hb) | (go_at_call 45; refine (Tryd.strconv_Atoi s n (by omega) HA.out _).mono ?_; rintro e w2 ⟨rfl, t, rfl⟩))
    go_quiet (fail)
    go_wp2
    go_ret2
    exact ⟨rfl, below_drewN' (HB.out.trans (Go.Joins.below_bytesWorld _ _ _ _ HB.out.size)) _⟩

theorem atoi_of_digits {s : ByteArray} {n : Nat} (hp : 1 ≤ s.size) (hall : AllB digitP s 0 s.size) (hd : decFrom 0 s.data.toList = some n) : Lib.atoi s.data.toList = some (n : Int) := by
  have h0 := toList_at s 0 (by omega)
  have hb := hall 0 (Nat.le_refl _) (by omega)
  cases hl : s.data.toList with
  | nil => rw [hl] at h0; simp at h0
  | cons b r =>
    rw [hl] at h0 hd
    simp only [List.getElem?_cons_zero, Option.some.injEq] at h0
    subst h0
    have h1 : 48 ≤ (s.get! 0).toNat ∧ (s.get! 0).toNat ≤ 57 := by simpa [digitP] using hb
    have e1 : ((s.get! 0) == 45) = false := by
      rw [beq_eq_false_iff_ne]; intro e; rw [e] at h1; simp at h1
    have e2 : ((s.get! 0) == 43) = false := by
      rw [beq_eq_false_iff_ne]; intro e; rw [e] at h1; simp at h1
    simp [Lib.atoi, e1, e2, decNat, hd]

def lexis_number.f (k : Nat) (a0 : ByteArray) : Option (Int × Bool) := pr_number.f k a0
theorem lexis_number.mono : ∀ a0 k, LeO (lexis_number.f k a0) (lexis_number.f (k + 1) a0) := pr_number.mono
theorem lexis_number.calls (k : Nat) (a0 : ByteArray) (r1 : Int) (r2 : Bool) (w : World) (hLaid : Laid w) (h : lexis_number.f k a0 = some (r1, r2)) :
    Calls Tryd.prog 37 #[.string a0] w fun e w' => e = .returned (.tuple #[.int .i64 r1, .bool r2]) ∧ Below w.heap.size w w' := by
  have te : (trimF digitP a0).toList.isEmpty = true ↔ AllB digitP a0 0 a0.size := by
    rw [isEmpty_size, decide_eq_true_iff]; exact trim_empty digitP_lt a0
  rcases number_law k a0 r1 r2 h with ⟨rfl, hn, n, rfl, hd⟩ | ⟨rfl, rfl, hn⟩
  · exact number_num a0 w hLaid ⟨hn.1, hn.2.1⟩ (te.2 hn.2.2.1) hn.2.2.2 n (atoi_of_digits hn.1 hn.2.2.1 hd)
  · by_cases h1 : 1 ≤ a0.size ∧ a0.size ≤ 6
    · cases ht : (trimF digitP a0).toList.isEmpty with
      | false => exact number_trim a0 w hLaid h1 ht
      | true =>
        by_cases hz : bt a0 0 = 48 ∧ 1 < a0.size
        · exact number_zero a0 w hLaid h1 ht hz.1 hz.2
        · exact absurd ⟨h1.1, h1.2, te.1 ht, hz⟩ hn
    · exact number_short a0 w h1

def strconv_Itoa.f (a0 : Int) : Option (ByteArray) := if -9223372036854775808 ≤ a0 ∧ a0 ≤ 9223372036854775807 then some ⟨(Lib.itoa a0).toArray⟩ else none
theorem strconv_Itoa.calls (a0 : Int) (r : ByteArray) (w : World) (hLaid : Laid w) (h : strconv_Itoa.f a0 = some r) :
    Calls Tryd.prog 41 #[.int .i64 a0] w fun e w' => e = .returned (.string r) ∧ Below w.heap.size w w' := by
  unfold strconv_Itoa.f at h
  split at h
  · rename_i hb
    obtain rfl := Option.some.inj h
    refine (Tryd.strconv_Itoa a0 hb.1 hb.2 w hLaid.2).mono ?_
    rintro e w' ⟨rfl, k, os, rfl⟩
    exact ⟨rfl, ⟨rfl, rfl, rfl, by show w.heap.size ≤ (w.heap ++ os).size; rw [Array.size_append]; omega, fun _ hj => Sort.heap_grow_old (w.drewN k) os hj⟩⟩
  · cases h

end Go.Proofs.YthcllibbaindbaaDoor.Px
namespace Go.Proofs.YthcllibbaindbaaDoor.Px
open Go.RowKit Go.Proofs.YthcllibbaindbaaDoorW.PrintWords Go.Proofs.YthcllibbaindbaaDoorW.PrintLast Go.Proofs.YthcllibbaindbaaDoorW.PrintMore

def BRow (w : World) (g : Nat) (l : List Int) : Prop := ∃ cur fr, w.heap[g]? = some (.cells cur 5 fr) ∧ l.length ≤ fr.1 ∧ l.length ≤ 9223372036854775807 ∧ ∀ i, i < l.length → cur[i]? = some (.int .u8 (l.getD i 0))

theorem BRow.lt {w : World} {g : Nat} {l : List Int} (h : BRow w g l) : g < w.heap.size := by
  obtain ⟨cur, fr, h, _⟩ := h
  rcases Nat.lt_or_ge g w.heap.size with h' | h'
  · exact h'
  · rw [Array.getElem?_eq_none h'] at h; cases h
theorem BRow.move {w w' : World} {g : Nat} {l : List Int} (h : BRow w g l) (e : w'.heap[g]? = w.heap[g]?) : BRow w' g l := by
  obtain ⟨cur, fr, h, r⟩ := h
  exact ⟨cur, fr, e.trans h, r⟩
theorem BRow.below {w w' : World} {g : Nat} {l : List Int} (h : BRow w g l) (hb : Below w.heap.size w w') : BRow w' g l := h.move (hb.block g h.lt)
theorem BRow.keep {w w' : World} {g gd : Nat} {l : List Int} (h : BRow w g l) (hk : KeepBut w w' gd none) (hne : g ≠ gd) : BRow w' g l := h.move (hk.2 g h.lt hne (by simp))
theorem BRow.ne {w0 w : World} {g gd : Nat} {l l0 : List Int} {p : Int} (h : BRow w g l) (hi : IsS50 w0 w gd l0 p) : g ≠ gd := by
  obtain ⟨cur, fr, h, _⟩ := h
  obtain ⟨A0, c0, hd, _⟩ := hi
  rintro rfl
  rw [h] at hd
  injection hd with hd
  injection hd with _ ht
  exact absurd ht (by decide)
theorem BRow.cell {w : World} {g : Nat} {l : List Int} (h : BRow w g l) (i : Nat) (hi : i < l.length) : w.cell? ⟨g, i, none⟩ = some (.int .u8 (l.getD i 0)) ∧ w.frozen? ⟨g, i, none⟩ = false := by
  obtain ⟨cur, fr, h, hf, _, hc⟩ := h
  refine ⟨?_, ?_⟩
  · simp [World.cell?, h, hc i hi]
  · obtain ⟨lo, hi'⟩ := fr
    simp [World.frozen?, h]
    intro h1
    have : l.length ≤ lo := hf
    omega
theorem BRow.put {w : World} {g : Nat} {l : List Int} (h : BRow w g l) (i : Nat) (hi : i < l.length) (x : Int) : BRow (w.setCell ⟨g, i, none⟩ (.int .u8 x)) g (l.set i x) := by
  obtain ⟨cur, fr, h, hf, hm, hc⟩ := h
  have hlt : g < w.heap.size := BRow.lt ⟨cur, fr, h, hf, hm, hc⟩
  have hic : i < cur.size := by
    rcases Nat.lt_or_ge i cur.size with h' | h'
    · exact h'
    · have := hc i hi; rw [Array.getElem?_eq_none h'] at this; cases this
  refine ⟨cur.set i (.int .u8 x), fr, ?_, by rw [List.length_set]; exact hf, by rw [List.length_set]; exact hm, fun j hj => ?_⟩
  · have hg : w.heap[g] = .cells cur 5 fr := by
      have := Array.getElem?_eq_getElem hlt
      rw [h] at this; exact (Option.some.inj this).symm
    simp [World.setCell, Array.getElem?_modify, h, Array.setIfInBounds, hic]
  · rw [List.length_set] at hj
    by_cases e : i = j
    · subst e
      simp [List.getD_eq_getElem?_getD, hj]
    · have h1 := hc j hj
      rw [Array.getElem?_set_ne _ e, h1]
      simp [List.getD_eq_getElem?_getD, List.getElem?_set_ne e]
theorem BRow.reads {w : World} {g : Nat} {l : List Int} (h : BRow w g l) : ReadsInt w .u8 (some ⟨g, 0, none⟩) l.length l := by
  obtain ⟨cur, fr, hh, hf, hm, hc⟩ := h
  refine ⟨rfl, hm, fun _ => ⟨_, rfl, fun j hj => ?_⟩⟩
  have := (BRow.cell ⟨cur, fr, hh, hf, hm, hc⟩ j hj).1
  have e : (⟨g, 0, none⟩ : Addr).add j = ⟨g, j, none⟩ := by unfold Addr.add; split <;> simp_all
  rw [e]; exact this

section
variable {P : Program} {ops : Array Oper} {o : Oper} {rest : List Oper} {a : Act} {Q : Exit → Act → World → Prop}
theorem conv_event {W : World} (hgd : o.guard = none) {N : Tmp} (_hd : o.dst = some N) {src dst : TypeId} {x : Operand} (ho : o.op = .convert src dst x) (s : ByteArray) (hx : a.eval x = .string s) (hs : P.underlying src = some .string)
    (hds : P.underlying dst = some (.slice 5)) (he : P.underlying 5 = some (.int .u8)) (hm : s.size ≤ 9223372036854775807)
    (h : ∀ g c w1, s.size ≤ c → W.heap.size = g → BRow w1 g (bytesOf s) → Below W.heap.size W w1 → wpList P ops Q rest (a.put o.dst (.slice (some ⟨g, 0, none⟩) s.size c)) w1) : wpList P ops Q (o :: rest) a W := by
  refine Kd.event_run hgd ?_ (h W.heap.size (grownCap W s.size 0 5) (Lib.bytesWorld W 5 s) ?_ rfl ?_ ?_)
  · have hr := Lib.run_convert_string_bytes W src dst 5 s hs hds he
    simp [execOp, ho, hx, hr]
  · exact grownCap_ge W s.size 0 5
  · refine ⟨Lib.bytesCells W 5 s, _, Lib.bytesWorld_at_new W 5 s, ?_, by rw [bytesOf_length]; exact hm, fun i hi => ?_⟩
    · rw [bytesOf_length]; simp [Lib.bytesCells]
    · rw [bytesOf_length] at hi
      have hi' : i < s.data.size := hi
      simp [Lib.bytesCells, Array.getElem?_append, bytesOf, List.getD_eq_getElem?_getD]
      rw [if_pos hi, Array.getElem?_eq_getElem hi']; rfl
  · exact ⟨rfl, rfl, rfl, by rw [Lib.bytesWorld_size]; omega, fun k hk => Lib.bytesWorld_at_old W 5 s k hk⟩
end
end Go.Proofs.YthcllibbaindbaaDoor.Px
namespace Go.Proofs.YthcllibbaindbaaDoor.Px
open Go.RowKit Go.ChangeShapes Go.WideShapes Go.Deep Go.Proofs.YthcllibbaindbaaDoorW.PrintWords Go.Proofs.YthcllibbaindbaaDoorW.PrintLast Go.Proofs.YthcllibbaindbaaDoorW.PrintMore

theorem choose_row {α : Type} (d : α) {Q : Nat → α → Prop} : ∀ (n : Nat), (∀ i, i < n → ∃ x, Q i x) → ∃ xs : List α, xs.length = n ∧ ∀ i x, xs[i]? = some x → Q i x
  | 0, _ => ⟨[], rfl, fun i x h => by simp at h⟩
  | n + 1, h => by
    obtain ⟨xs, hl, hx⟩ := choose_row d n (fun i hi => h i (by omega))
    obtain ⟨y, hy⟩ := h n (by omega)
    refine ⟨xs ++ [y], by simp [hl], fun i x hi => ?_⟩
    rcases Nat.lt_or_ge i xs.length with h1 | h1
    · rw [List.getElem?_append_left h1] at hi; exact hx i x hi
    · rw [List.getElem?_append_right h1] at hi
      have : i = n := by
        rcases Nat.lt_or_ge (i - xs.length) 1 with h2 | h2
        · omega
        · rw [List.getElem?_eq_none (by simpa using h2)] at hi; cases hi
      subst this
      rw [hl, Nat.sub_self] at hi
      have e : y = x := by simpa using hi
      rw [← e]; exact hy

set_option maxRecDepth 100000 in
theorem open_tokens {H : Type} {enc : TypeId × Value → H} {w : World} {base : Nat} {spare : Nat → Bool} {held : Bool} {fuel : Nat} {cs : List Value} {x : DataW H × List MemPlace}
    (h : DataW.trod enc Tryd.prog w base spare held fuel 30 cs = some x) :
    ∃ (A : Option Addr) (c : Nat) (xs : List S35), cs = [.slice A xs.length c] ∧ xs.length ≤ c ∧ Kd.C k35 w A xs.length xs := by
  rcases open_slice Tryd.underlying30 h with ⟨rfl, _⟩ | ⟨a, len, cap, m, n, D, Pl, rfl, _, hl, hm, hmm, _, hi⟩
  · exact ⟨none, 0, [], rfl, by simp, rfl, by simp, fun h => by simp at h⟩
  · have hlm : len ≤ m := by rw [hmm]; split <;> omega
    have hC : Tryd.prog.cellsOf 35 = 4 := by kernel_rfl
    obtain ⟨xs, hxl, hxs⟩ := choose_row z35 (Q := fun i t => ∃ c, c.length = 4 ∧ k35.K w t c ∧ ∀ j u, c[j]? = some u → w.cell? (a.add (i * 4 + j)) = some u) len (fun i him => by
      obtain ⟨cs', hc, ht'⟩ := hi i (by omega)
      rw [hC] at hc
      obtain ⟨ys, n', _, _, hlen, hyl, hf⟩ := DataW.trod_struct Tryd.underlying35 ht'
      rw [hC] at hlen
      obtain ⟨_, _, hat⟩ := World.cells?_some hc
      have c3 : Tryd.prog.cellsOf 3 = 1 := by kernel_rfl
      have c9 : Tryd.prog.cellsOf 9 = 1 := by kernel_rfl
      match cs', hlen with
      | [u0, u1, u2, u3], _ =>
        have h0 : DataW.trod enc Tryd.prog w base spare held n' 3 (([u0, u1, u2, u3].drop 0).take (Tryd.prog.cellsOf 3)) = ys[0]? := hf 0 _ rfl
        have h1 : DataW.trod enc Tryd.prog w base spare held n' 3 (([u0, u1, u2, u3].drop 1).take (Tryd.prog.cellsOf 3)) = ys[1]? := hf 1 _ rfl
        have h2 : DataW.trod enc Tryd.prog w base spare held n' 3 (([u0, u1, u2, u3].drop 2).take (Tryd.prog.cellsOf 3)) = ys[2]? := hf 2 _ rfl
        have h3 : DataW.trod enc Tryd.prog w base spare held n' 9 (([u0, u1, u2, u3].drop 3).take (Tryd.prog.cellsOf 9)) = ys[3]? := hf 3 _ rfl
        rw [c3] at h0 h1 h2
        rw [c9] at h3
        match ys, hyl with
        | [y0, y1, y2, y3], _ =>
          obtain ⟨n0, e0, _, _⟩ := DataW.trod_int Tryd.underlying3 (show DataW.trod enc Tryd.prog w base spare held n' 3 [u0] = some y0 from h0)
          obtain ⟨n1, e1, _, _⟩ := DataW.trod_int Tryd.underlying3 (show DataW.trod enc Tryd.prog w base spare held n' 3 [u1] = some y1 from h1)
          obtain ⟨n2, e2, _, _⟩ := DataW.trod_int Tryd.underlying3 (show DataW.trod enc Tryd.prog w base spare held n' 3 [u2] = some y2 from h2)
          obtain ⟨s3, e3, _, _⟩ := DataW.trod_string Tryd.underlying9 (show DataW.trod enc Tryd.prog w base spare held n' 9 [u3] = some y3 from h3)
          cases e0; cases e1; cases e2; cases e3
          refine ⟨⟨n0, n1, n2, s3⟩, _, rfl, k35_mk w ⟨n0, n1, n2, s3⟩, fun j u hj => ?_⟩
          rw [← Go.Deep.add_add, hat j (by have := (List.getElem?_eq_some_iff.1 hj).1; simpa using this)]
          exact hj)
    refine ⟨some a, cap, xs, by rw [hxl], by omega, rfl, ?_, fun _ => ⟨a, rfl, fun j p hj => ?_⟩⟩
    · have : maxLen ≤ 9223372036854775807 := by decide
      omega
    · obtain ⟨c, h1, h2, h3⟩ := hxs j p hj
      exact ⟨c, h1, h2, fun i u hu => h3 i u hu⟩
end Go.Proofs.YthcllibbaindbaaDoor.Px
