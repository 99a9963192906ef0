/- What lexis.Tokens comes to: a plain function on lists of bytes. The text of a token: the program's and the reference's agree. The contract of lexis.Text: the texts of tokens, with spaces between. lexis.Tokens as a plain function: the tokens of a list of bytes. Plain facts for the laws about tokens: the sanity check, the deck, which texts are one name. The reference's Text; and back: the tokens of the text of tokens. The generated texts of tokens; one token's text. The contract of lexis.Same: slices.EqualFunc at the function literal of lexis.Same. The reference's Tokens is the program's: both are the tokens of a list of bytes; and the comparisons of lists of tokens. LexisDoes: tokens, names and texts, or the error, for any texts and tokens: the program answers as the reference. An argument that is a list of tokens, opened to its rows, with the ranges of its numbers. LexisDoes: tokens, names and texts, or the error, for every list of numbers, every text and every list of tokens: the program answers as the reference. -/
import Derived.Test.YthcllibbaindbaaDoorMDoes4
import Derived.Test.YthcllibbaindbaaDoorMDoes3
import Derived.Lib.ItoaLen
import Derived.Test.YthcllibbaindbaaDoorMDoes1
import Derived.Test.YthcllibbaindbaaDoorMDoes0
import Derived.Test.YthcllibbaindbaaDoorMDoes2
import Derived.Test.YthcllibbaindbaaDoorRows
import Derived.Test.YthcllibbaindbaaDoorCards
import Derived.Test.YthcllibbaindbaaDoorTie
import Derived.WalkKit
import Derived.ProofKit
import Derived.OpenShut
import Derived.ShutString
import Derived.ChangeOld
import Derived.Below
import Derived.SizedLaws
import Derived.Deep.DeepHandedRow
import Derived.Test.YthcllibbaindbaaDoorWSized
namespace Go.Proofs.YthcllibbaindbaaDoor.Px
open Go.RowKit Go.Lib Go.Proofs.YthcllibbaindbaaDoorW.PrintWords Go.Proofs.YthcllibbaindbaaDoorW.PrintLast Go.Proofs.YthcllibbaindbaaDoorW.PrintMore

def isL (b : UInt8) : Bool := letterP b.toNat
def isD (b : UInt8) : Bool := digitP b.toNat
def isLD (b : UInt8) : Bool := isL b || isD b
def nameOk (l : List UInt8) : Bool := decide (1 ≤ l.length) && decide (l.length ≤ 16) && l.all isL
def numOk (l : List UInt8) : Bool := decide (1 ≤ l.length) && decide (l.length ≤ 6) && l.all isD && !(l.headD 0 == 48 && decide (1 < l.length))
def numVal (l : List UInt8) : Int := ((decFrom 0 l).getD 0 : Nat)

theorem len_data (s : ByteArray) : s.data.toList.length = s.size := by rw [Array.length_toList]; rfl
theorem get_list (s : ByteArray) (i : Nat) (h : i < s.size) : s.data.toList[i]'(by rw [len_data]; exact h) = s.get! i := by
  have := toList_at s i h
  rw [List.getElem?_eq_getElem (by rw [len_data]; exact h)] at this
  exact Option.some.inj this

theorem all_iff (p : Nat → Bool) (s : ByteArray) : s.data.toList.all (fun b => p b.toNat) = true ↔ AllB p s 0 s.size := by
  rw [List.all_eq_true]
  refine ⟨fun h i _ hi => ?_, fun h x hx => ?_⟩
  · have := h (s.data.toList[i]'(by rw [len_data]; exact hi)) (List.getElem_mem _)
    rwa [get_list s i hi] at this
  · obtain ⟨i, hi, rfl⟩ := List.getElem_of_mem hx
    rw [get_list s i (by rw [← len_data]; exact hi)]
    exact h i (by omega) (by rw [← len_data]; exact hi)

theorem isName_iff (s : ByteArray) : IsName s ↔ nameOk s.data.toList = true := by
  unfold IsName nameOk
  rw [Bool.and_eq_true, Bool.and_eq_true, decide_eq_true_iff, decide_eq_true_iff, len_data, and_assoc]
  exact and_congr_right fun _ => and_congr_right fun _ => (all_iff letterP s).symm

theorem head_bt (s : ByteArray) (h : 1 ≤ s.size) : (s.data.toList.headD 0 == 48) = true ↔ bt s 0 = 48 := by
  have e : s.data.toList.headD 0 = s.get! 0 := by
    have h0 := toList_at s 0 (by omega)
    cases hl : s.data.toList with
    | nil => rw [hl] at h0; simp at h0
    | cons a t => rw [hl] at h0; simpa using h0
  have hb : bt s 0 = ((s.get! 0).toNat : Int) := bt_get s 0 (by omega)
  rw [e, beq_iff_eq, hb]
  refine ⟨fun h => by rw [h]; rfl, fun h => ?_⟩
  apply UInt8.toNat_inj.1
  show (s.get! 0).toNat = 48
  omega

theorem isNum_iff (s : ByteArray) : IsNum s ↔ numOk s.data.toList = true := by
  unfold IsNum numOk
  rw [Bool.and_eq_true, Bool.and_eq_true, Bool.and_eq_true, decide_eq_true_iff, decide_eq_true_iff, len_data, and_assoc, and_assoc]
  refine and_congr_right fun h1 => and_congr_right fun _ => and_congr (all_iff digitP s).symm ?_
  rw [Bool.not_eq_true', Bool.eq_false_iff, ne_eq, Bool.and_eq_true, head_bt s h1, decide_eq_true_iff]

theorem Name_ev (s : ByteArray) : Ev (fun k => pr_Name.f k s) (nameOk s.data.toList) := by
  obtain ⟨r, hr⟩ := Name_some 20 (Nat.le_refl _) s
  have e : r = nameOk s.data.toList := by
    rw [Bool.eq_iff_iff, Name_law 20 s r hr]; exact isName_iff s
  rw [← e]
  exact Ev.of (pr_Name.mono s) hr

def numR (l : List UInt8) : Int × Bool := if numOk l then (numVal l, true) else (0, false)
theorem number_ev (s : ByteArray) : Ev (fun k => pr_number.f k s) (numR s.data.toList) := by
  obtain ⟨⟨r1, r2⟩, hr⟩ := number_some 20 (Nat.le_refl _) s
  have e : (r1, r2) = numR s.data.toList := by
    unfold numR
    rcases number_law 20 s r1 r2 hr with ⟨rfl, hn, n, rfl, hd⟩ | ⟨rfl, rfl, hn⟩
    · rw [if_pos ((isNum_iff s).1 hn)]; simp [numVal, hd]
    · rw [if_neg (fun h => hn ((isNum_iff s).2 h))]
  rw [← e]
  exact Ev.of (pr_number.mono s) hr

theorem Name_ev' (s : ByteArray) : Ev (fun k => lexis_Name.f k s) (nameOk s.data.toList) := Name_ev s
theorem number_ev' (s : ByteArray) : Ev (fun k => lexis_number.f k s) (numR s.data.toList) := number_ev s

/-- A word as a token: kind, number, text; and whether it is one. -/
def wordR (l : List UInt8) : Int × Int × List UInt8 × Bool :=
  if nameOk l then (3, 0, l, true)
  else if numOk l then (4, numVal l, [], true)
  else match l with
    | [] => (0, 0, [], false)
    | c :: r => if c = 120 then (5, (numR r).1, [], (numR r).2) else (0, 0, [], false)

theorem mk_data (s : ByteArray) : (⟨s.data.toList.toArray⟩ : ByteArray) = s := by obtain ⟨d⟩ := s; rfl
theorem empty_mk : (⟨([] : List UInt8).toArray⟩ : ByteArray) = ⟨#[]⟩ := rfl

theorem cutx (s : ByteArray) : strings_CutPrefix.f s (⟨#[120]⟩ : ByteArray) = some (match s.data.toList with
    | [] => (s, false)
    | c :: r => if c = 120 then (⟨r.toArray⟩, true) else (s, false)) := by
  have h1 : ((⟨#[120]⟩ : ByteArray).size : Int) = 1 := rfl
  have h2 : (⟨#[120]⟩ : ByteArray).toList = [120] := by rw [Lib.toList_data]
  unfold strings_CutPrefix.f stringslite_CutPrefix.f stringslite_HasPrefix.f
  rw [h1]
  have hl := len_data s
  cases hd : s.data.toList with
  | nil =>
    rw [hd] at hl; simp at hl
    rw [if_neg (by omega)]
    simp
  | cons c r =>
    rw [hd] at hl; simp at hl
    rw [if_pos (by omega), if_pos (by omega), if_pos (by omega), Lib.extract_toList, hd, h2]
    have e : (List.take (Int.toNat 1 - 0) (List.drop 0 (c :: r)) == [120]) = decide (c = 120) := by
      rw [Bool.eq_iff_iff]; simp
    rw [e]
    simp only [Option.bind_some]
    by_cases hc : c = 120
    · rw [if_pos (by simpa using hc), if_pos (by omega), if_pos (by omega)]
      simp only [Option.bind_some, if_pos hc]
      congr 2
      rw [← mk_data (s.extract (Int.toNat 1) s.size), Lib.extract_data, hd]
      congr 2
      simp
      rw [List.take_of_length_le (by omega)]
    · rw [if_neg (by simpa using hc)]
      simp [hc]

theorem word_ev (s : ByteArray) : Ev (fun k => lexis_word.f k s) ((wordR s.data.toList).1, (wordR s.data.toList).2.1, 0, ⟨(wordR s.data.toList).2.2.1.toArray⟩, (wordR s.data.toList).2.2.2) := by
  unfold lexis_word.f
  refine Ev.bind (Name_ev' s) ?_
  unfold wordR
  cases hn : nameOk s.data.toList with
  | true => simp only [if_true]; rw [mk_data]; exact Ev.now _
  | false =>
    simp only [Bool.false_eq_true, if_false]
    refine Ev.bind (number_ev' s) ?_
    unfold numR
    cases hm : numOk s.data.toList with
    | true => simp only [if_true]; exact Ev.now _
    | false =>
      simp only [Bool.false_eq_true, if_false, cutx, Option.bind_some]
      cases hd : s.data.toList with
      | nil => simp only [Bool.false_eq_true, if_false]; exact Ev.now _
      | cons c r =>
        by_cases hc : c = 120
        · simp only [if_pos hc, if_true]
          exact Ev.bind (number_ev' ⟨r.toArray⟩) (Ev.now _)
        · simp only [if_neg hc, Bool.false_eq_true, if_false]; exact Ev.now _

end Go.Proofs.YthcllibbaindbaaDoor.Px
namespace Go.Proofs.YthcllibbaindbaaDoor.Px
open Go.RowKit Go.Lib Go.Proofs.YthcllibbaindbaaDoorW.PrintWords Go.Proofs.YthcllibbaindbaaDoorW.PrintLast Go.Proofs.YthcllibbaindbaaDoorW.PrintMore

theorem evp {α : Type} {f g : Nat → Option α} {r : α} {c : Prop} [Decidable c] (h : c) (k : Ev f r) : Ev (fun n => if c then f n else g n) r := by simpa only [if_pos h] using k
theorem evn {α : Type} {f g : Nat → Option α} {r : α} {c : Prop} [Decidable c] (h : ¬ c) (k : Ev g r) : Ev (fun n => if c then f n else g n) r := by simpa only [if_neg h] using k

theorem dec_len : ∀ (m u : Nat), (u < 10 ^ (m + 1)) ↔ (decDigits u).length ≤ m + 1
  | 0, u => by
    by_cases h : u < 10
    · rw [decDigits_one h]; simp; omega
    · rw [decDigits, dif_neg h, List.length_append]
      have : 1 ≤ (decDigits (u / 10)).length := by rw [decDigits_length]; exact nDigits_pos _
      simp only [List.length_cons, List.length_nil]; omega
  | m + 1, u => by
    by_cases h : u < 10
    · rw [decDigits_one h]
      have : (10 : Nat) ≤ 10 ^ (m + 1 + 1) := by
        have := Nat.pow_le_pow_right (n := 10) (by omega) (show 1 ≤ m + 1 + 1 by omega)
        simpa using this
      simp; omega
    · rw [decDigits, dif_neg h, List.length_append]
      have ih := dec_len m (u / 10)
      have e : u < 10 ^ (m + 1 + 1) ↔ u / 10 < 10 ^ (m + 1) := by
        rw [Nat.pow_succ 10 (m + 1)]; omega
      rw [e, ih]; simp

theorem dec_six (u : Nat) : (decDigits u).length ≤ 6 ↔ u ≤ 999999 := by
  rw [← dec_len 5 u]; omega

theorem Decimal_ev : ∀ (n u : Nat), u ≤ n → u ≤ 999999 → Ev (fun k => pr_Decimal.f k u) ⟨(decDigits u).toArray⟩
  | n, u, hu, h9 => by
    refine Ev.step (f := _) (fun k => by rw [pr_Decimal.f]) ?_
    by_cases h : u < 10
    · refine evp (by omega) ?_
      rw [decDigits_one h]
      have e : (strOfNums [(wrap64 (48 + (u : Int))) % 256]) = ⟨[UInt8.ofNat (48 + u)].toArray⟩ := by
        rw [strOfNums, show wrap64 (48 + (u : Int)) = 48 + (u : Int) from by unfold wrap64; omega]
        congr 2
        simp only [List.map_cons, List.map_nil]
        congr 2
        omega
      rw [e]; exact Ev.now _
    · refine evn (by omega) ?_
      cases n with
      | zero => omega
      | succ n =>
        have hw : wrap64 (Int.tdiv (u : Int) 10) = ((u / 10 : Nat) : Int) := by
          rw [Int.tdiv_eq_ediv_of_nonneg (by omega)]; unfold wrap64; omega
        have hm : wrap64 (48 + Int.tmod (u : Int) 10) = 48 + ((u % 10 : Nat) : Int) := by
          rw [Int.tmod_eq_emod_of_nonneg (by omega)]; unfold wrap64; omega
        rw [hw, hm]
        refine Ev.bind (Decimal_ev n (u / 10) (by omega) (by omega)) ?_
        simp only [Option.bind_some]
        have hl : (decDigits (u / 10)).length ≤ 6 := (dec_six _).2 (by omega)
        have es : (strOfNums [(48 + ((u % 10 : Nat) : Int)) % 256]) = ⟨[UInt8.ofNat (48 + u % 10)].toArray⟩ := by
          rw [strOfNums]
          congr 2
          simp only [List.map_cons, List.map_nil]
          congr 2
          omega
        rw [es]
        have s1 : (⟨(decDigits (u / 10)).toArray⟩ : ByteArray).size = (decDigits (u / 10)).length := by simp [ByteArray.size]
        have s2 : (⟨[UInt8.ofNat (48 + u % 10)].toArray⟩ : ByteArray).size = 1 := rfl
        refine evp (by rw [s1, s2]; omega) ?_
        have ea : (⟨(decDigits (u / 10)).toArray⟩ : ByteArray) ++ (⟨[UInt8.ofNat (48 + u % 10)].toArray⟩ : ByteArray) = ⟨(decDigits u).toArray⟩ := by
          rw [← mk_data ((⟨(decDigits (u / 10)).toArray⟩ : ByteArray) ++ (⟨[UInt8.ofNat (48 + u % 10)].toArray⟩ : ByteArray)), Go.Joins.data_append]
          congr 2
          conv => rhs; rw [decDigits, dif_neg h]
        rw [ea]; exact Ev.now _

/-- The text of a token, where it is one. -/
def txtO (t : S35) : Option (List UInt8) :=
  if t.f0 = 1 then (if t.f1 = 0 ∧ t.f3.data.toList = [] then some [40] else none)
  else if t.f0 = 2 then (if t.f1 = 0 ∧ t.f3.data.toList = [] then some [41] else none)
  else if t.f0 = 3 then (if t.f1 = 0 ∧ nameOk t.f3.data.toList = true then some t.f3.data.toList else none)
  else if t.f0 = 4 then (if 0 ≤ t.f1 ∧ t.f1 ≤ 999999 ∧ t.f3.data.toList = [] then some (decDigits t.f1.toNat) else none)
  else if t.f0 = 5 then (if 0 ≤ t.f1 ∧ t.f1 ≤ 999999 ∧ t.f3.data.toList = [] then some (120 :: decDigits t.f1.toNat) else none)
  else none

theorem isnil_beq (s : ByteArray) : (s.toList == ([] : List UInt8)) = decide (s.data.toList = []) := by
  rw [Lib.toList_data, Bool.eq_iff_iff]; simp
theorem nenil_bne (s : ByteArray) : (s.toList != ([] : List UInt8)) = !decide (s.data.toList = []) := by
  rw [bne, isnil_beq]

/-- What a text function answers, told by 'txtO': the text where it is one. -/
def Tells (o : Option (List UInt8)) (r : ByteArray × Bool) : Prop := match o with
  | some l => r = (⟨l.toArray⟩, true)
  | none => r.2 = false

theorem tells_if {p : Prop} [Decidable p] {b : Bool} {s : ByteArray} {l : List UInt8} (hb : b = decide p) (hs : p → s = ⟨l.toArray⟩) : Tells (if p then some l else none) (s, b) := by
  by_cases h : p
  · rw [if_pos h]; show (s, b) = _; rw [hb, hs h, decide_eq_true h]
  · rw [if_neg h]; show b = false; rw [hb, decide_eq_false h]

theorem no_num {a n : Int} {s : ByteArray} (h : ¬ (0 ≤ n ∧ n ≤ 999999 ∧ s.data.toList = [])) :
    Tells (if a = 4 then (if 0 ≤ n ∧ n ≤ 999999 ∧ s.data.toList = [] then some (decDigits n.toNat) else none) else if a = 5 then (if 0 ≤ n ∧ n ≤ 999999 ∧ s.data.toList = [] then some (120 :: decDigits n.toNat) else none) else none) ((⟨#[]⟩ : ByteArray), false) := by
  rw [if_neg h, if_neg h]
  split
  · rfl
  · split <;> rfl

theorem rtext_ev (t : S35) : ∃ r, Ev (fun k => pr_text.f k t.f0 t.f1 t.f2 t.f3) r ∧ Tells (txtO t) r := by
  obtain ⟨a, n, c, s⟩ := t
  simp only [txtO]
  have step0 : ∀ (b : Bool), (b = decide (a = 4 ∨ a = 5)) → ¬ a = 1 → ¬ a = 2 → ¬ a = 3 → ∃ r, Ev (fun k => pr_text.j0 k b a n c s) r ∧
      Tells (if a = 4 then (if 0 ≤ n ∧ n ≤ 999999 ∧ s.data.toList = [] then some (decDigits n.toNat) else none) else if a = 5 then (if 0 ≤ n ∧ n ≤ 999999 ∧ s.data.toList = [] then some (120 :: decDigits n.toNat) else none) else none) r := by
    intro b hb h1 h2 h3
    by_cases h45 : a = 4 ∨ a = 5
    · have hb' : b = true := by rw [hb]; exact decide_eq_true h45
      subst hb'
      have j1f : Ev (fun k => pr_text.j1 k true a n c s) ((⟨#[]⟩ : ByteArray), false) := Ev.step (fun k => by rw [pr_text.j1]) (evp rfl (Ev.now _))
      by_cases hn0 : n < 0
      · refine ⟨(⟨#[]⟩, false), Ev.step (fun k => by rw [pr_text.j0]) (evp rfl (evp hn0 j1f)), no_num (by omega)⟩
      · by_cases hn9 : n > 999999
        · refine ⟨(⟨#[]⟩, false), Ev.step (fun k => by rw [pr_text.j0]) (evp rfl (evn hn0 (evp hn9 j1f))), no_num (by omega)⟩
        · by_cases hs : s.data.toList = []
          · have hd := Decimal_ev n.toNat n.toNat (Nat.le_refl _) (by omega)
            rw [Int.toNat_of_nonneg (by omega)] at hd
            have hp : 0 ≤ n ∧ n ≤ 999999 ∧ s.data.toList = [] := ⟨by omega, by omega, hs⟩
            rw [if_pos hp, if_pos hp]
            have sz : (⟨(decDigits n.toNat).toArray⟩ : ByteArray).size ≤ 6 := by
              have := (dec_six n.toNat).2 (by omega)
              simpa [ByteArray.size] using this
            by_cases h5 : a = 5
            · subst h5
              refine ⟨(⟨(120 :: decDigits n.toNat).toArray⟩, true), Ev.step (fun k => by rw [pr_text.j0]) (evp rfl (evn hn0 (evn hn9 ?_))), rfl⟩
              rw [nenil_bne, decide_eq_true hs]
              refine Ev.step (f := _) (fun k => by rw [pr_text.j1]) (evn (by simp) (evp rfl (Ev.bind hd ?_)))
              refine evp (by omega) ?_
              have : (⟨#[120]⟩ : ByteArray) ++ (⟨(decDigits n.toNat).toArray⟩ : ByteArray) = ⟨(120 :: decDigits n.toNat).toArray⟩ := by
                rw [← mk_data ((⟨#[120]⟩ : ByteArray) ++ (⟨(decDigits n.toNat).toArray⟩ : ByteArray)), Go.Joins.data_append]; rfl
              rw [this]; exact Ev.now _
            · have h4 : a = 4 := by omega
              subst h4
              refine ⟨(⟨(decDigits n.toNat).toArray⟩, true), Ev.step (fun k => by rw [pr_text.j0]) (evp rfl (evn hn0 (evn hn9 ?_))), rfl⟩
              rw [nenil_bne, decide_eq_true hs]
              exact Ev.step (f := _) (fun k => by rw [pr_text.j1]) (evn (by simp) (evn (by decide) (Ev.bind hd (Ev.now _))))
          · refine ⟨(⟨#[]⟩, false), Ev.step (fun k => by rw [pr_text.j0]) (evp rfl (evn hn0 (evn hn9 ?_))), ?_⟩
            · rw [nenil_bne, decide_eq_false hs]; exact j1f
            · exact no_num (fun h => hs h.2.2)
    · have hb' : b = false := by rw [hb]; exact decide_eq_false h45
      subst hb'
      refine ⟨(⟨#[]⟩, false), Ev.step (fun k => by rw [pr_text.j0]) (evn (by simp) (Ev.now _)), ?_⟩
      rw [if_neg (by omega), if_neg (by omega)]; rfl
  unfold pr_text.f
  by_cases h1 : a = 1
  · rw [if_pos h1]
    by_cases hn : n = 0
    · exact ⟨_, evp h1 (evp hn (Ev.now _)), tells_if (by rw [isnil_beq]; simp [hn]) (fun _ => rfl)⟩
    · exact ⟨_, evp h1 (evn hn (Ev.now _)), by rw [if_neg (fun h => hn h.1)]; rfl⟩
  · rw [if_neg h1]
    by_cases h2 : a = 2
    · rw [if_pos h2]
      by_cases hn : n = 0
      · exact ⟨_, evn h1 (evp h2 (evp hn (Ev.now _))), tells_if (by rw [isnil_beq]; simp [hn]) (fun _ => rfl)⟩
      · exact ⟨_, evn h1 (evp h2 (evn hn (Ev.now _))), by rw [if_neg (fun h => hn h.1)]; rfl⟩
    · rw [if_neg h2]
      by_cases h3 : a = 3
      · rw [if_pos h3]
        by_cases hn : n = 0
        · exact ⟨_, evn h1 (evn h2 (evp h3 (evp hn (Ev.bind (Name_ev s) (Ev.now _))))), tells_if (by simp [hn]) (fun _ => (mk_data s).symm)⟩
        · exact ⟨_, evn h1 (evn h2 (evp h3 (evn hn (Ev.now _)))), by rw [if_neg (fun h => hn h.1)]; rfl⟩
      · rw [if_neg h3]
        by_cases h4 : a = 4
        · obtain ⟨r, hr, ht⟩ := step0 (a == 4) (by simp [h4]) h1 h2 h3
          exact ⟨r, evn h1 (evn h2 (evn h3 (evp h4 hr))), ht⟩
        · obtain ⟨r, hr, ht⟩ := step0 (a == 5) (by rw [Bool.eq_iff_iff]; simp [h4]) h1 h2 h3
          exact ⟨r, evn h1 (evn h2 (evn h3 (evn h4 hr))), ht⟩

def InInt (n : Int) : Prop := -9223372036854775808 ≤ n ∧ n ≤ 9223372036854775807

theorem ltext_ev (t : S35) (hn : InInt t.f1) : ∃ r, Ev (fun k => lexis_text.f k t.f0 t.f1 t.f2 t.f3) r ∧ Tells (txtO t) r := by
  obtain ⟨a, n, c, s⟩ := t
  simp only [txtO]
  have hn' : -9223372036854775808 ≤ n ∧ n ≤ 9223372036854775807 := hn
  have hI : strconv_Itoa.f n = some ⟨(Lib.itoa n).toArray⟩ := by unfold strconv_Itoa.f; rw [if_pos hn']
  have hsz : (⟨(Lib.itoa n).toArray⟩ : ByteArray).size ≤ 21 := by
    have := itoa_length_le n hn'.1 hn'.2
    simpa [ByteArray.size] using this
  have step1 : ∀ (x : ByteArray) (b : Bool), (b = decide (0 ≤ n ∧ n ≤ 999999)) → (a = 4 → x = ⟨(Lib.itoa n).toArray⟩) → (a = 5 → x = ⟨(120 :: Lib.itoa n).toArray⟩) →
      ∃ r, Ev (fun k => lexis_text.j1 k x b a n c s) r ∧ Tells (if a = 1 then (if n = 0 ∧ s.data.toList = [] then some [40] else none)
  else if a = 2 then (if n = 0 ∧ s.data.toList = [] then some [41] else none)
  else if a = 3 then (if n = 0 ∧ nameOk s.data.toList = true then some s.data.toList else none)
  else if a = 4 then (if 0 ≤ n ∧ n ≤ 999999 ∧ s.data.toList = [] then some (decDigits n.toNat) else none)
  else if a = 5 then (if 0 ≤ n ∧ n ≤ 999999 ∧ s.data.toList = [] then some (120 :: decDigits n.toNat) else none)
  else none) r := by
    intro x b hb hx4 hx5
    have st : ∀ {r : ByteArray × Bool}, Ev (fun k => if a = 1 then (if n = 0 then (some ((⟨#[40]⟩ : ByteArray), (s.toList == ([] : List UInt8)))) else (some ((⟨#[40]⟩ : ByteArray), false))) else (if a = 2 then (if n = 0 then (some ((⟨#[41]⟩ : ByteArray), (s.toList == ([] : List UInt8)))) else (some ((⟨#[41]⟩ : ByteArray), false))) else (if a = 3 then (if n = 0 then ((lexis_Name.f k s).bind fun t261 => (some (s, t261))) else (some (s, false))) else (if a = 4 then (if b = true then (some (x, (s.toList == ([] : List UInt8)))) else (some (x, false))) else (if a = 5 then (if b = true then (some (x, (s.toList == ([] : List UInt8)))) else (some (x, false))) else (some ((⟨#[]⟩ : ByteArray), false))))))) r → Ev (fun k => lexis_text.j1 k x b a n c s) r := fun h => Ev.step (fun k => by rw [lexis_text.j1]) h
    have hit : 0 ≤ n → Lib.itoa n = decDigits n.toNat := fun h => by unfold Lib.itoa; rw [if_neg (by omega)]
    by_cases h1 : a = 1
    · rw [if_pos h1]
      by_cases hn : n = 0
      · exact ⟨_, st (evp h1 (evp hn (Ev.now _))), tells_if (by rw [isnil_beq]; simp [hn]) (fun _ => rfl)⟩
      · exact ⟨_, st (evp h1 (evn hn (Ev.now _))), by rw [if_neg (fun h => hn h.1)]; rfl⟩
    · rw [if_neg h1]
      by_cases h2 : a = 2
      · rw [if_pos h2]
        by_cases hn : n = 0
        · exact ⟨_, st (evn h1 (evp h2 (evp hn (Ev.now _)))), tells_if (by rw [isnil_beq]; simp [hn]) (fun _ => rfl)⟩
        · exact ⟨_, st (evn h1 (evp h2 (evn hn (Ev.now _)))), by rw [if_neg (fun h => hn h.1)]; rfl⟩
      · rw [if_neg h2]
        by_cases h3 : a = 3
        · rw [if_pos h3]
          by_cases hn : n = 0
          · exact ⟨_, st (evn h1 (evn h2 (evp h3 (evp hn (Ev.bind (Name_ev' s) (Ev.now _)))))), tells_if (by simp [hn]) (fun _ => (mk_data s).symm)⟩
          · exact ⟨_, st (evn h1 (evn h2 (evp h3 (evn hn (Ev.now _))))), by rw [if_neg (fun h => hn h.1)]; rfl⟩
        · rw [if_neg h3]
          by_cases h4 : a = 4
          · rw [if_pos h4]
            by_cases hr : 0 ≤ n ∧ n ≤ 999999
            · have : b = true := by rw [hb]; exact decide_eq_true hr
              exact ⟨_, st (evn h1 (evn h2 (evn h3 (evp h4 (evp this (Ev.now _)))))), tells_if (by rw [isnil_beq]; simp [hr]) (fun _ => by rw [hx4 h4, hit hr.1])⟩
            · have : b = false := by rw [hb]; exact decide_eq_false hr
              exact ⟨_, st (evn h1 (evn h2 (evn h3 (evp h4 (evn (by simp [this]) (Ev.now _)))))), by rw [if_neg (fun h => hr ⟨h.1, h.2.1⟩)]; rfl⟩
          · rw [if_neg h4]
            by_cases h5 : a = 5
            · rw [if_pos h5]
              by_cases hr : 0 ≤ n ∧ n ≤ 999999
              · have : b = true := by rw [hb]; exact decide_eq_true hr
                exact ⟨_, st (evn h1 (evn h2 (evn h3 (evn h4 (evp h5 (evp this (Ev.now _))))))), tells_if (by rw [isnil_beq]; simp [hr]) (fun _ => by rw [hx5 h5, hit hr.1])⟩
              · have : b = false := by rw [hb]; exact decide_eq_false hr
                exact ⟨_, st (evn h1 (evn h2 (evn h3 (evn h4 (evp h5 (evn (by simp [this]) (Ev.now _))))))), by rw [if_neg (fun h => hr ⟨h.1, h.2.1⟩)]; rfl⟩
            · rw [if_neg h5]
              exact ⟨_, st (evn h1 (evn h2 (evn h3 (evn h4 (evn h5 (Ev.now _)))))), rfl⟩
  have step0 : ∀ (x : ByteArray), (a = 4 → x = ⟨(Lib.itoa n).toArray⟩) → (a = 5 → x = ⟨(120 :: Lib.itoa n).toArray⟩) →
      ∃ r, Ev (fun k => lexis_text.j0 k x a n c s) r ∧ Tells (if a = 1 then (if n = 0 ∧ s.data.toList = [] then some [40] else none)
  else if a = 2 then (if n = 0 ∧ s.data.toList = [] then some [41] else none)
  else if a = 3 then (if n = 0 ∧ nameOk s.data.toList = true then some s.data.toList else none)
  else if a = 4 then (if 0 ≤ n ∧ n ≤ 999999 ∧ s.data.toList = [] then some (decDigits n.toNat) else none)
  else if a = 5 then (if 0 ≤ n ∧ n ≤ 999999 ∧ s.data.toList = [] then some (120 :: decDigits n.toNat) else none)
  else none) r := by
    intro x hx4 hx5
    by_cases h0 : n ≥ 0
    · obtain ⟨r, hr, ht⟩ := step1 x (decide (((⟨(Lib.itoa n).toArray⟩ : ByteArray).size : Int) ≤ 6)) (by
        rw [Bool.eq_iff_iff, decide_eq_true_iff, decide_eq_true_iff]
        have e : (⟨(Lib.itoa n).toArray⟩ : ByteArray).size = (decDigits n.toNat).length := by
          have : Lib.itoa n = decDigits n.toNat := by unfold Lib.itoa; rw [if_neg (by omega)]
          rw [this]; simp [ByteArray.size]
        rw [e]
        have := dec_six n.toNat
        omega) hx4 hx5
      refine ⟨r, Ev.step (f := _) (fun k => by rw [lexis_text.j0]) (evp h0 ?_), ht⟩
      rw [hI]; exact hr
    · obtain ⟨r, hr, ht⟩ := step1 x false (by simp; omega) hx4 hx5
      exact ⟨r, Ev.step (f := _) (fun k => by rw [lexis_text.j0]) (evn h0 hr), ht⟩
  unfold lexis_text.f
  rw [hI]
  simp only [Option.bind_some]
  by_cases h5 : a = 5
  · obtain ⟨r, hr, ht⟩ := step0 ((⟨#[120]⟩ : ByteArray) ++ ⟨(Lib.itoa n).toArray⟩) (fun h => by omega) (fun _ => by
      rw [← mk_data ((⟨#[120]⟩ : ByteArray) ++ (⟨(Lib.itoa n).toArray⟩ : ByteArray)), Go.Joins.data_append]; rfl)
    exact ⟨r, evp h5 (evp (by omega) hr), ht⟩
  · obtain ⟨r, hr, ht⟩ := step0 ⟨(Lib.itoa n).toArray⟩ (fun _ => rfl) (fun h => absurd h h5)
    exact ⟨r, evn h5 hr, ht⟩
end Go.Proofs.YthcllibbaindbaaDoor.Px
namespace Go.Proofs.YthcllibbaindbaaDoor.Px
open Go.RowKit Go.Lib Go.Proofs.YthcllibbaindbaaDoorW.PrintWords Go.Proofs.YthcllibbaindbaaDoorW.PrintLast Go.Proofs.YthcllibbaindbaaDoorW.PrintMore

def sepB (prev : Option Int) (k : Int) : Bool := match prev with
  | none => false
  | some p => p != 1 && k != 2
def joinF (prev : Option Int) : List S35 → Option (List UInt8)
  | [] => some []
  | t :: r => match txtO t with
    | none => none
    | some s => (joinF (some t.f0) r).map fun rest => (if sepB prev t.f0 then [32] else []) ++ s ++ rest
def textR (l : List S35) : ByteArray × Int :=
  if l.length > 2048 then (⟨#[]⟩, 3) else match joinF none l with
    | none => (⟨#[]⟩, 2)
    | some bs => (⟨bs.toArray⟩, 0)
def intB (t : S35) : Bool := decide (-9223372036854775808 ≤ t.f1) && decide (t.f1 ≤ 9223372036854775807)
def lexis_Text.f (l0 : List (S35)) : Option (ByteArray × Int) := if l0.all intB then some (textR l0) else none

def prevK (l : List S35) (i : Nat) : Option Int := if i = 0 then none else some (l.getD (i - 1) z35).f0
/-- Where the loop stands: at x, with 'acc' written. -/
def Inv (l : List S35) (x : Int) (acc : List UInt8) : Prop :=
  0 ≤ x ∧ x ≤ l.length ∧ acc.length ≤ 18 * x.toNat ∧ joinF none l = (joinF (prevK l x.toNat) (l.drop x.toNat)).map (acc ++ ·)

theorem txtO_len (t : S35) (s : List UInt8) (h : txtO t = some s) : s.length ≤ 17 := by
  unfold txtO at h
  split at h
  · split at h
    · cases h; simp
    · cases h
  · split at h
    · split at h
      · cases h; simp
      · cases h
    · split at h
      · split at h
        · rename_i hn
          cases h
          have := hn.2
          rw [nameOk, Bool.and_eq_true, Bool.and_eq_true, decide_eq_true_iff, decide_eq_true_iff] at this
          omega
        · cases h
      · split at h
        · split at h
          · rename_i hn
            cases h
            have := (dec_six t.f1.toNat).2 (by omega)
            omega
          · cases h
        · split at h
          · split at h
            · rename_i hn
              cases h
              have := (dec_six t.f1.toNat).2 (by omega)
              simp; omega
            · cases h
          · cases h

theorem drop_rd (l : List S35) (x : Int) (h0 : 0 ≤ x) (h1 : x < l.length) : l.drop x.toNat = rd_T35 l x :: l.drop (x.toNat + 1) := by
  rw [List.drop_eq_getElem_cons (by omega)]
  congr 1
  rw [rd_T35, List.getD_eq_getElem?_getD, List.getElem?_eq_getElem (by omega)]
  rfl

theorem Inv.start (l : List S35) : Inv l 0 [] := ⟨by omega, by omega, by simp, by
  show joinF none l = Option.map (fun x => [] ++ x) (joinF none l)
  cases joinF none l <;> rfl⟩
theorem Inv.next {l : List S35} {x : Int} {acc s : List UInt8} (h : Inv l x acc) (h1 : x < l.length) (hs : txtO (rd_T35 l x) = some s) :
    Inv l (x + 1) (acc ++ ((if sepB (prevK l x.toNat) (rd_T35 l x).f0 then [32] else []) ++ s)) := by
  obtain ⟨h0, _, hl, hj⟩ := h
  have hlen := txtO_len _ _ hs
  have e : (x + 1).toNat = x.toNat + 1 := by omega
  refine ⟨by omega, by omega, ?_, ?_⟩
  · rw [List.length_append, List.length_append, e]
    split <;> simp <;> omega
  · rw [hj, drop_rd l x h0 h1, e]
    have hp : prevK l (x.toNat + 1) = some (rd_T35 l x).f0 := by
      unfold prevK; rw [if_neg (by omega)]; rfl
    rw [hp, joinF, hs]
    cases joinF (some (rd_T35 l x).f0) (l.drop (x.toNat + 1)) with
    | none => rfl
    | some rest => simp [List.append_assoc]
theorem Inv.fails {l : List S35} {x : Int} {acc : List UInt8} (h : Inv l x acc) (h1 : x < l.length) (hs : txtO (rd_T35 l x) = none) : joinF none l = none := by
  obtain ⟨h0, _, _, hj⟩ := h
  rw [hj, drop_rd l x h0 h1, joinF, hs]; rfl
theorem Inv.done {l : List S35} {x : Int} {acc : List UInt8} (h : Inv l x acc) (h1 : ¬ x < l.length) : joinF none l = some acc := by
  obtain ⟨h0, h2, _, hj⟩ := h
  rw [hj, List.drop_eq_nil_of_le (by omega)]
  simp [joinF]

theorem builder_later {B b : Nat} {bs : List Value} {w w' : World} (h : Lib.IsBuilder 59 5 B b bs w) (hb : Below w.heap.size w w') : Lib.IsBuilder 59 5 B b bs w' := by
  have at_ : ∀ {p : Value}, Lib.BuilderAt 59 5 B b p bs w → Lib.BuilderAt 59 5 B b p bs w' := by
    rintro p ⟨hB, v, hbk, hown, hne⟩
    have lt : ∀ {k : Nat} {o : Obj}, w.heap[k]? = some o → k < w.heap.size := by
      intro k o hk
      rcases Nat.lt_or_ge k w.heap.size with h' | h'
      · exact h'
      · simp [Array.getElem?_eq_none h'] at hk
    refine ⟨hB, v, (hb.block b (lt hbk)).trans hbk, ⟨hown.1, ?_⟩, hne⟩
    rcases hown.2 with h | ⟨g, cap, cur, h1, h2, h3, h4⟩
    · exact .inl h
    · exact .inr ⟨g, cap, cur, h1, h2, (hb.block g (lt h3)).trans h3, h4⟩
  exact h.elim (fun h => .inl (at_ h)) (fun h => .inr (at_ h))

theorem used_builder {B b : Nat} {bs : List Value} {w : World} (h : Lib.BuilderAt 59 5 B b (.pointer (some ⟨b, 0, none⟩)) bs w) : Lib.IsBuilder 59 5 B b bs w := .inr h
theorem byteCells_app (a b : List UInt8) : Lib.byteCells (a ++ b) = Lib.byteCells a ++ Lib.byteCells b := by simp [Lib.byteCells]
theorem byteCells_len (a : List UInt8) : (Lib.byteCells a).length = a.length := by simp [Lib.byteCells]
theorem strCells_mk (s : List UInt8) : Lib.strCells ⟨s.toArray⟩ = Lib.byteCells s := by simp [Lib.strCells, Lib.byteCells]

theorem int_at {l : List S35} (h : l.all intB = true) (x : Int) (h0 : 0 ≤ x) (h1 : x < l.length) : InInt (rd_T35 l x).f1 := by
  rw [List.all_eq_true] at h
  have hm : rd_T35 l x ∈ l := by
    rw [rd_T35, List.getD_eq_getElem?_getD, List.getElem?_eq_getElem (by omega)]
    exact List.getElem_mem _
  have := h _ hm
  rw [intB, Bool.and_eq_true, decide_eq_true_iff, decide_eq_true_iff] at this
  exact this

set_option maxHeartbeats 4000000 in
set_option maxRecDepth 100000 in
theorem Text_walk (A0 : Option Addr) (c0 : Nat) (l0 : List (S35)) (w : World) (hr0 : Kd.C k35 w A0 l0.length l0) (hc0 : l0.length ≤ c0) (hLaid : Laid w) (hi : l0.all intB = true) :
    Calls Tryd.prog 16 #[.slice A0 l0.length c0] w fun e w' => e = .returned (.tuple #[.string (textR l0).1, .int .i64 (textR l0).2]) ∧ Below w.heap.size w w' := by
  have hu35 := Tryd.underlying35
  have HR0 := Aside0.mk hr0
  have HC0 := Aside0.mk hc0
  have HLaid := Aside0.mk hLaid
  have HI := Aside0.mk hi
  clear hr0 hc0 hLaid hi
  have HB := Aside0.mk (Below.refl w.heap.size w)
  by_cases c2 : (l0.length : Int) > 2048
  · have ht : textR l0 = (⟨#[]⟩, 3) := by unfold textR; rw [if_pos (by omega)]
    rw [ht]
    have c2b0 : decide (2048 < (l0.length : Int)) = true := decide_eq_true c2
    have c2b1 : decide (2048 < l0.length) = true := decide_eq_true (by omega)
    clear c2 ht
    go_enter Tryd.func16, Tryd.ntmps16
    go_wp2
    go_ret2
    exact ⟨rfl, HB.out⟩
  · have c2b0 : decide (2048 < (l0.length : Int)) = false := decide_eq_false c2
    have c2b1 : decide (2048 < l0.length) = false := decide_eq_false (by omega)
    have HLN := Aside0.mk (show l0.length ≤ 2048 by omega)
    have HT : Aside0 (∀ o, joinF none l0 = o → textR l0 = match o with | none => (⟨#[]⟩, 2) | some bs => (⟨bs.toArray⟩, 0)) := ⟨fun o ho => by unfold textR; rw [if_neg (by omega), ho]⟩
    clear c2
    generalize textR l0 = T at HT ⊢
    go_enter Tryd.func16, Tryd.ntmps16
    go_wp2
    go_loopw [14] (fun s14 wr => ∃ (x : Int) (acc : List UInt8), s14 = .int .i64 x ∧ Aside0 (Inv l0 x acc) ∧ Aside0 (Lib.IsBuilder 59 5 w.heap.size w.heap.size (Lib.byteCells acc) wr) ∧ Aside0 (Below w.heap.size w wr)) (fun s14 _ => l0.length - (intOf s14).toNat)
    case atStart => exact ⟨0, [], rfl, ⟨Inv.start _⟩, ⟨fresh_isBuilder 59 5 w⟩, ⟨below_alloc HB.out _⟩⟩
    case round =>
      clear HB
      obtain ⟨x, acc, rfl, HIv, HBu, HB⟩ := hrel
      have hx0 : 0 ≤ x := HIv.out.1
      have hx2 : x ≤ 2048 := by have := HIv.out.2.1; have := HLN.out; omega
      have HAL : Aside0 (acc.length ≤ 40000) := ⟨by have := HIv.out.2.2.1; omega⟩
      by_cases hx1 : x < (l0.length : Int)
      · obtain ⟨⟨s, ok⟩, hev, htell⟩ := ltext_ev (rd_T35 l0 x) (int_at HI.out x hx0 hx1)
        obtain ⟨kt, hk⟩ := Ev.rounds hev
        have AK := Aside0.mk hk
        clear hev hk
        have c3b0 : decide (x < (l0.length : Int)) = true := decide_eq_true hx1
        cases ho : txtO (rd_T35 l0 x) with
        | none =>
          rw [ho] at htell
          obtain rfl : ok = false := htell
          have ht := HT.out none (HIv.out.fails hx1 ho)
          simp only at ht
          subst ht
          clear HT ho
          obtain ⟨ad, e188, hx188_0, hx188_1, hx188_2, hx188_3⟩ := at_T35 HR0.out x hx0 hx1
          cases e188
          replace hx188_0 := (HB.out.cell (World.block_lt_of_cell? w _ hx188_0)).trans hx188_0
          replace hx188_1 := (HB.out.cell (World.block_lt_of_cell? w _ hx188_1)).trans hx188_1
          replace hx188_2 := (HB.out.cell (World.block_lt_of_cell? w _ hx188_2)).trans hx188_2
          replace hx188_3 := (HB.out.cell (World.block_lt_of_cell? w _ hx188_3)).trans hx188_3
          go_wp2_with (first | ((with_reducible refine gate_dst (N := 6) rfl ?_); refine box_event ?hg (N := 6) ?hd (cs := #[.int .i64 0, .int .i64 0, .int .i64 0, .string (⟨#[]⟩ : ByteArray)]) (t := 35) ?hr ?_; (case hd => rfl); (case hg => rfl); (case hr => first | (go_simp; done) | (go_simp; rfl)); intro gb hg w14 hbox hb; have HW := Aside0.mk (below_step (Below.refl wr.heap.size wr) hb); have BK := Aside0.mk hbox; have GE := Aside0.mk (show wr.heap.size ≤ gb by rw [hg]; exact Nat.le_refl _); clear hb hbox hg; have hcz0 : w14.cell? ⟨gb, 0, none⟩ = some (.int .i64 0) := (blk_cell BK.out 0).trans rfl; have hcz1 : w14.cell? ⟨gb, 1, none⟩ = some (.int .i64 0) := (blk_cell BK.out 1).trans rfl; have hcz2 : w14.cell? ⟨gb, 2, none⟩ = some (.int .i64 0) := (blk_cell BK.out 2).trans rfl; have hcz3 : w14.cell? ⟨gb, 3, none⟩ = some (.string (⟨#[]⟩ : ByteArray)) := (blk_cell BK.out 3).trans rfl; have hfz0 := blk_frozen BK.out 0; have hfz1 := blk_frozen BK.out 1; have hfz2 := blk_frozen BK.out 2; have hfz3 := blk_frozen BK.out 3) | ((with_reducible refine gate_callee (f := 29) rfl ?_); refine goesL_ (some 21) rfl rfl Tryd.func29 (by kernel_rfl) rfl #[.agg #[.int .i64 ((rd_T35 l0 x).f0), .int .i64 ((rd_T35 l0 x).f1), .int .i64 ((rd_T35 l0 x).f2), .string ((rd_T35 l0 x).f3)]] rfl (by (try simp only [List.map_toArray, List.map_cons, List.map_nil]); first | done | rfl | (simp only [List.length_drop, List.length_take]; rfl)) ?_; (with_reducible refine (lexis_text.calls kt ((rd_T35 l0 x).f0) ((rd_T35 l0 x).f1) ((rd_T35 l0 x).f2) ((rd_T35 l0 x).f3) s false _ ?side1 AK.out).mono ?_); (case side1 => exact Laid.below HLaid.out (HB.out.trans (Below.mono (by repeat (first | (with_reducible first | exact HW.out | apply below_alloc | apply pw_below_drewN | apply below_drew1 | refine below_set ?_ GE.out) | exact HW.out)) HB.out.size))); rintro e w16 ⟨rfl, hb⟩; refine ⟨_, rfl, ?_⟩; have BK2 := Aside0.mk (blk_below (g := gb) (o := .cells #[.int .i64 ((rd_T35 l0 x).f0), .int .i64 ((rd_T35 l0 x).f1), .int .i64 ((rd_T35 l0 x).f2), .string ((rd_T35 l0 x).f3)] 35 (0, 0)) (by (with_reducible repeat (first | refine blk_drewN ?_ _ | refine blk_drew ?_ | refine blk_alloc ?_ _)); refine blk_put (cs := #[.int .i64 ((rd_T35 l0 x).f0), .int .i64 ((rd_T35 l0 x).f1), .int .i64 ((rd_T35 l0 x).f2), .string (⟨#[]⟩ : ByteArray)]) ?_ 3 _ rfl; (with_reducible repeat (first | refine blk_drewN ?_ _ | refine blk_drew ?_ | refine blk_alloc ?_ _)); refine blk_put (cs := #[.int .i64 ((rd_T35 l0 x).f0), .int .i64 ((rd_T35 l0 x).f1), .int .i64 0, .string (⟨#[]⟩ : ByteArray)]) ?_ 2 _ rfl; (with_reducible repeat (first | refine blk_drewN ?_ _ | refine blk_drew ?_ | refine blk_alloc ?_ _)); refine blk_put (cs := #[.int .i64 ((rd_T35 l0 x).f0), .int .i64 0, .int .i64 0, .string (⟨#[]⟩ : ByteArray)]) ?_ 1 _ rfl; (with_reducible repeat (first | refine blk_drewN ?_ _ | refine blk_drew ?_ | refine blk_alloc ?_ _)); refine blk_put (cs := #[.int .i64 0, .int .i64 0, .int .i64 0, .string (⟨#[]⟩ : ByteArray)]) ?_ 0 _ rfl; (with_reducible repeat (first | refine blk_drewN ?_ _ | refine blk_drew ?_ | refine blk_alloc ?_ _)); exact BK.out) hb); have HW2 := Aside0.mk (below_step (show Below wr.heap.size wr _ from by repeat (first | (with_reducible first | exact HW.out | apply below_alloc | apply pw_below_drewN | apply below_drew1 | refine below_set ?_ GE.out) | exact HW.out)) hb); clear hb; have HBu2 := Aside0.mk (builder_later HBu.out HW2.out); have HB2 := Aside0.mk (HB.out.trans (HW2.out.mono HB.out.size)); clear HW; have hd0 : w16.cell? ⟨gb, 0, none⟩ = some (.int .i64 ((rd_T35 l0 x).f0)) := (blk_cell BK2.out 0).trans rfl))
          go_ret2
          exact ⟨rfl, HB2.out⟩
        | some bs =>
          rw [ho] at htell
          obtain ⟨hsb, rfl⟩ := Prod.mk.inj (show (s, ok) = ((⟨bs.toArray⟩ : ByteArray), true) from htell)
          have HSB := Aside0.mk hsb
          have HS := Aside0.mk ho
          have HSL : Aside0 (s.size ≤ 17) := ⟨by have := txtO_len _ _ ho; rw [hsb]; simpa [ByteArray.size] using this⟩
          clear hsb ho htell
          by_cases hx3 : 0 < x
          · have hx4 : 1 ≤ x := hx3
            have hx5 : 0 ≤ x - 1 := by omega
            have hx6 : x - 1 < (l0.length : Int) := by omega
            have c8b0 : decide (0 < x) = true := decide_eq_true hx3
            have hpk : prevK l0 x.toNat = some (rd_T35 l0 (x - 1)).f0 := by unfold prevK; rw [if_neg (by omega), rd_T35, show (x - 1).toNat = x.toNat - 1 by omega]
            have HPK := Aside0.mk hpk
            clear hpk
            by_cases c12 : (rd_T35 l0 (x - 1)).f0 = 1
            · have HSep : Aside0 (sepB (prevK l0 x.toNat) (rd_T35 l0 x).f0 = false) := ⟨by rw [HPK.out]; simp [sepB, c12]⟩
              have c12b0 : (((rd_T35 l0 (x - 1)).f0) == 1) = true := beq_iff_eq.mpr c12
              have c12b1 : (((rd_T35 l0 (x - 1)).f0) != 1) = false := bne_eq_false_iff_eq.mpr c12
              clear c12
              obtain ⟨ad, e188, hx188_0, hx188_1, hx188_2, hx188_3⟩ := at_T35 HR0.out x hx0 hx1
              obtain ⟨ad1, e189, hy188_0, hy1, hy2, hy3⟩ := at_T35 HR0.out (x - 1) (by omega) (by omega)
              clear hy1 hy2 hy3
              rw [show (x - 1).toNat = x.toNat - 1 by omega] at hy188_0
              have HY := Aside0.mk hy188_0
              clear hy188_0
              have e190 := e188.symm.trans e189
              cases e188
              cases e190
              clear e189
              replace hx188_0 := (HB.out.cell (World.block_lt_of_cell? w _ hx188_0)).trans hx188_0
              replace hx188_1 := (HB.out.cell (World.block_lt_of_cell? w _ hx188_1)).trans hx188_1
              replace hx188_2 := (HB.out.cell (World.block_lt_of_cell? w _ hx188_2)).trans hx188_2
              replace hx188_3 := (HB.out.cell (World.block_lt_of_cell? w _ hx188_3)).trans hx188_3
              go_wp2_with (first | ((with_reducible refine gate_dst (N := 6) rfl ?_); refine box_event ?hg (N := 6) ?hd (cs := #[.int .i64 0, .int .i64 0, .int .i64 0, .string (⟨#[]⟩ : ByteArray)]) (t := 35) ?hr ?_; (case hd => rfl); (case hg => rfl); (case hr => first | (go_simp; done) | (go_simp; rfl)); intro gb hg w14 hbox hb; have HW := Aside0.mk (below_step (Below.refl wr.heap.size wr) hb); have BK := Aside0.mk hbox; have GE := Aside0.mk (show wr.heap.size ≤ gb by rw [hg]; exact Nat.le_refl _); clear hb hbox hg; have hcz0 : w14.cell? ⟨gb, 0, none⟩ = some (.int .i64 0) := (blk_cell BK.out 0).trans rfl; have hcz1 : w14.cell? ⟨gb, 1, none⟩ = some (.int .i64 0) := (blk_cell BK.out 1).trans rfl; have hcz2 : w14.cell? ⟨gb, 2, none⟩ = some (.int .i64 0) := (blk_cell BK.out 2).trans rfl; have hcz3 : w14.cell? ⟨gb, 3, none⟩ = some (.string (⟨#[]⟩ : ByteArray)) := (blk_cell BK.out 3).trans rfl; have hfz0 := blk_frozen BK.out 0; have hfz1 := blk_frozen BK.out 1; have hfz2 := blk_frozen BK.out 2; have hfz3 := blk_frozen BK.out 3) | ((with_reducible refine gate_callee (f := 29) rfl ?_); refine goesL_ (some 21) rfl rfl Tryd.func29 (by kernel_rfl) rfl #[.agg #[.int .i64 ((rd_T35 l0 x).f0), .int .i64 ((rd_T35 l0 x).f1), .int .i64 ((rd_T35 l0 x).f2), .string ((rd_T35 l0 x).f3)]] rfl (by (try simp only [List.map_toArray, List.map_cons, List.map_nil]); first | done | rfl | (simp only [List.length_drop, List.length_take]; rfl)) ?_; (with_reducible refine (lexis_text.calls kt ((rd_T35 l0 x).f0) ((rd_T35 l0 x).f1) ((rd_T35 l0 x).f2) ((rd_T35 l0 x).f3) s true _ ?side1 AK.out).mono ?_); (case side1 => exact Laid.below HLaid.out (HB.out.trans (Below.mono (by repeat (first | (with_reducible first | exact HW.out | apply below_alloc | apply pw_below_drewN | apply below_drew1 | refine below_set ?_ GE.out) | exact HW.out)) HB.out.size))); rintro e w16 ⟨rfl, hb⟩; refine ⟨_, rfl, ?_⟩; have BK2 := Aside0.mk (blk_below (g := gb) (o := .cells #[.int .i64 ((rd_T35 l0 x).f0), .int .i64 ((rd_T35 l0 x).f1), .int .i64 ((rd_T35 l0 x).f2), .string ((rd_T35 l0 x).f3)] 35 (0, 0)) (by (with_reducible repeat (first | refine blk_drewN ?_ _ | refine blk_drew ?_ | refine blk_alloc ?_ _)); refine blk_put (cs := #[.int .i64 ((rd_T35 l0 x).f0), .int .i64 ((rd_T35 l0 x).f1), .int .i64 ((rd_T35 l0 x).f2), .string (⟨#[]⟩ : ByteArray)]) ?_ 3 _ rfl; (with_reducible repeat (first | refine blk_drewN ?_ _ | refine blk_drew ?_ | refine blk_alloc ?_ _)); refine blk_put (cs := #[.int .i64 ((rd_T35 l0 x).f0), .int .i64 ((rd_T35 l0 x).f1), .int .i64 0, .string (⟨#[]⟩ : ByteArray)]) ?_ 2 _ rfl; (with_reducible repeat (first | refine blk_drewN ?_ _ | refine blk_drew ?_ | refine blk_alloc ?_ _)); refine blk_put (cs := #[.int .i64 ((rd_T35 l0 x).f0), .int .i64 0, .int .i64 0, .string (⟨#[]⟩ : ByteArray)]) ?_ 1 _ rfl; (with_reducible repeat (first | refine blk_drewN ?_ _ | refine blk_drew ?_ | refine blk_alloc ?_ _)); refine blk_put (cs := #[.int .i64 0, .int .i64 0, .int .i64 0, .string (⟨#[]⟩ : ByteArray)]) ?_ 0 _ rfl; (with_reducible repeat (first | refine blk_drewN ?_ _ | refine blk_drew ?_ | refine blk_alloc ?_ _)); exact BK.out) hb); have HW2 := Aside0.mk (below_step (show Below wr.heap.size wr _ from by repeat (first | (with_reducible first | exact HW.out | apply below_alloc | apply pw_below_drewN | apply below_drew1 | refine below_set ?_ GE.out) | exact HW.out)) hb); clear hb; have HBu2 := Aside0.mk (builder_later HBu.out HW2.out); have HB2 := Aside0.mk (HB.out.trans (HW2.out.mono HB.out.size)); clear HW; have hd0 : w16.cell? ⟨gb, 0, none⟩ = some (.int .i64 ((rd_T35 l0 x).f0)) := (blk_cell BK2.out 0).trans rfl; have hy0 : w16.cell? (ad.add ((x.toNat - 1) * 4)) = some (.int .i64 ((rd_T35 l0 (x - 1)).f0)) := (HB2.out.cell (World.block_lt_of_cell? w _ HY.out)).trans HY.out) | (go_at_call 31; (with_reducible refine (WriteString_any w.heap.size w.heap.size (Lib.byteCells acc) s _ HBu2.out ?ss1 ?ss2).mono ?_); (case ss1 => rw [byteCells_len]; have := HAL.out; have := HSL.out; omega); (case ss2 => exact HB2.out.size); rintro e w18 ⟨rfl, h18, hb⟩; have HBu4 := Aside0.mk h18; have HB4 := Aside0.mk (HB2.out.trans hb); clear h18 hb))
              go_roundw
              case rel => exact ⟨x + 1, acc ++ ((if sepB (prevK l0 x.toNat) (rd_T35 l0 x).f0 then [32] else []) ++ bs), by first | rfl | (go_num), ⟨HIv.out.next hx1 HS.out⟩, ⟨by rw [HSep.out, byteCells_app, byteCells_app]; have h_ := HBu4.out; rw [HSB.out, strCells_mk] at h_; exact .inr (by simpa [Lib.byteCells, List.append_assoc] using h_)⟩, HB4⟩
              case measure => simp [intOf]; omega
            · have c12b0 : (((rd_T35 l0 (x - 1)).f0) == 1) = false := beq_eq_false_iff_ne.mpr c12
              have c12b1 : (((rd_T35 l0 (x - 1)).f0) != 1) = true := bne_iff_ne.mpr c12
              by_cases c13 : (rd_T35 l0 x).f0 = 2
              · have HSep : Aside0 (sepB (prevK l0 x.toNat) (rd_T35 l0 x).f0 = false) := ⟨by rw [HPK.out]; simp [sepB, c13]⟩
                have c13b0 : (((rd_T35 l0 x).f0) == 2) = true := beq_iff_eq.mpr c13
                have c13b1 : (((rd_T35 l0 x).f0) != 2) = false := bne_eq_false_iff_eq.mpr c13
                clear c12 c13
                obtain ⟨ad, e188, hx188_0, hx188_1, hx188_2, hx188_3⟩ := at_T35 HR0.out x hx0 hx1
                obtain ⟨ad1, e189, hy188_0, hy1, hy2, hy3⟩ := at_T35 HR0.out (x - 1) (by omega) (by omega)
                clear hy1 hy2 hy3
                rw [show (x - 1).toNat = x.toNat - 1 by omega] at hy188_0
                have HY := Aside0.mk hy188_0
                clear hy188_0
                have e190 := e188.symm.trans e189
                cases e188
                cases e190
                clear e189
                replace hx188_0 := (HB.out.cell (World.block_lt_of_cell? w _ hx188_0)).trans hx188_0
                replace hx188_1 := (HB.out.cell (World.block_lt_of_cell? w _ hx188_1)).trans hx188_1
                replace hx188_2 := (HB.out.cell (World.block_lt_of_cell? w _ hx188_2)).trans hx188_2
                replace hx188_3 := (HB.out.cell (World.block_lt_of_cell? w _ hx188_3)).trans hx188_3
                go_wp2_with (first | ((with_reducible refine gate_dst (N := 6) rfl ?_); refine box_event ?hg (N := 6) ?hd (cs := #[.int .i64 0, .int .i64 0, .int .i64 0, .string (⟨#[]⟩ : ByteArray)]) (t := 35) ?hr ?_; (case hd => rfl); (case hg => rfl); (case hr => first | (go_simp; done) | (go_simp; rfl)); intro gb hg w14 hbox hb; have HW := Aside0.mk (below_step (Below.refl wr.heap.size wr) hb); have BK := Aside0.mk hbox; have GE := Aside0.mk (show wr.heap.size ≤ gb by rw [hg]; exact Nat.le_refl _); clear hb hbox hg; have hcz0 : w14.cell? ⟨gb, 0, none⟩ = some (.int .i64 0) := (blk_cell BK.out 0).trans rfl; have hcz1 : w14.cell? ⟨gb, 1, none⟩ = some (.int .i64 0) := (blk_cell BK.out 1).trans rfl; have hcz2 : w14.cell? ⟨gb, 2, none⟩ = some (.int .i64 0) := (blk_cell BK.out 2).trans rfl; have hcz3 : w14.cell? ⟨gb, 3, none⟩ = some (.string (⟨#[]⟩ : ByteArray)) := (blk_cell BK.out 3).trans rfl; have hfz0 := blk_frozen BK.out 0; have hfz1 := blk_frozen BK.out 1; have hfz2 := blk_frozen BK.out 2; have hfz3 := blk_frozen BK.out 3) | ((with_reducible refine gate_callee (f := 29) rfl ?_); refine goesL_ (some 21) rfl rfl Tryd.func29 (by kernel_rfl) rfl #[.agg #[.int .i64 ((rd_T35 l0 x).f0), .int .i64 ((rd_T35 l0 x).f1), .int .i64 ((rd_T35 l0 x).f2), .string ((rd_T35 l0 x).f3)]] rfl (by (try simp only [List.map_toArray, List.map_cons, List.map_nil]); first | done | rfl | (simp only [List.length_drop, List.length_take]; rfl)) ?_; (with_reducible refine (lexis_text.calls kt ((rd_T35 l0 x).f0) ((rd_T35 l0 x).f1) ((rd_T35 l0 x).f2) ((rd_T35 l0 x).f3) s true _ ?side1 AK.out).mono ?_); (case side1 => exact Laid.below HLaid.out (HB.out.trans (Below.mono (by repeat (first | (with_reducible first | exact HW.out | apply below_alloc | apply pw_below_drewN | apply below_drew1 | refine below_set ?_ GE.out) | exact HW.out)) HB.out.size))); rintro e w16 ⟨rfl, hb⟩; refine ⟨_, rfl, ?_⟩; have BK2 := Aside0.mk (blk_below (g := gb) (o := .cells #[.int .i64 ((rd_T35 l0 x).f0), .int .i64 ((rd_T35 l0 x).f1), .int .i64 ((rd_T35 l0 x).f2), .string ((rd_T35 l0 x).f3)] 35 (0, 0)) (by (with_reducible repeat (first | refine blk_drewN ?_ _ | refine blk_drew ?_ | refine blk_alloc ?_ _)); refine blk_put (cs := #[.int .i64 ((rd_T35 l0 x).f0), .int .i64 ((rd_T35 l0 x).f1), .int .i64 ((rd_T35 l0 x).f2), .string (⟨#[]⟩ : ByteArray)]) ?_ 3 _ rfl; (with_reducible repeat (first | refine blk_drewN ?_ _ | refine blk_drew ?_ | refine blk_alloc ?_ _)); refine blk_put (cs := #[.int .i64 ((rd_T35 l0 x).f0), .int .i64 ((rd_T35 l0 x).f1), .int .i64 0, .string (⟨#[]⟩ : ByteArray)]) ?_ 2 _ rfl; (with_reducible repeat (first | refine blk_drewN ?_ _ | refine blk_drew ?_ | refine blk_alloc ?_ _)); refine blk_put (cs := #[.int .i64 ((rd_T35 l0 x).f0), .int .i64 0, .int .i64 0, .string (⟨#[]⟩ : ByteArray)]) ?_ 1 _ rfl; (with_reducible repeat (first | refine blk_drewN ?_ _ | refine blk_drew ?_ | refine blk_alloc ?_ _)); refine blk_put (cs := #[.int .i64 0, .int .i64 0, .int .i64 0, .string (⟨#[]⟩ : ByteArray)]) ?_ 0 _ rfl; (with_reducible repeat (first | refine blk_drewN ?_ _ | refine blk_drew ?_ | refine blk_alloc ?_ _)); exact BK.out) hb); have HW2 := Aside0.mk (below_step (show Below wr.heap.size wr _ from by repeat (first | (with_reducible first | exact HW.out | apply below_alloc | apply pw_below_drewN | apply below_drew1 | refine below_set ?_ GE.out) | exact HW.out)) hb); clear hb; have HBu2 := Aside0.mk (builder_later HBu.out HW2.out); have HB2 := Aside0.mk (HB.out.trans (HW2.out.mono HB.out.size)); clear HW; have hd0 : w16.cell? ⟨gb, 0, none⟩ = some (.int .i64 ((rd_T35 l0 x).f0)) := (blk_cell BK2.out 0).trans rfl; have hy0 : w16.cell? (ad.add ((x.toNat - 1) * 4)) = some (.int .i64 ((rd_T35 l0 (x - 1)).f0)) := (HB2.out.cell (World.block_lt_of_cell? w _ HY.out)).trans HY.out) | (go_at_call 31; (with_reducible refine (WriteString_any w.heap.size w.heap.size (Lib.byteCells acc) s _ HBu2.out ?ss1 ?ss2).mono ?_); (case ss1 => rw [byteCells_len]; have := HAL.out; have := HSL.out; omega); (case ss2 => exact HB2.out.size); rintro e w18 ⟨rfl, h18, hb⟩; have HBu4 := Aside0.mk h18; have HB4 := Aside0.mk (HB2.out.trans hb); clear h18 hb))
                go_roundw
                case rel => exact ⟨x + 1, acc ++ ((if sepB (prevK l0 x.toNat) (rd_T35 l0 x).f0 then [32] else []) ++ bs), by first | rfl | (go_num), ⟨HIv.out.next hx1 HS.out⟩, ⟨by rw [HSep.out, byteCells_app, byteCells_app]; have h_ := HBu4.out; rw [HSB.out, strCells_mk] at h_; exact .inr (by simpa [Lib.byteCells, List.append_assoc] using h_)⟩, HB4⟩
                case measure => simp [intOf]; omega
              · have HSep : Aside0 (sepB (prevK l0 x.toNat) (rd_T35 l0 x).f0 = true) := ⟨by rw [HPK.out]; simp [sepB, c12, c13]⟩
                have c13b0 : (((rd_T35 l0 x).f0) == 2) = false := beq_eq_false_iff_ne.mpr c13
                have c13b1 : (((rd_T35 l0 x).f0) != 2) = true := bne_iff_ne.mpr c13
                clear c12 c13
                obtain ⟨ad, e188, hx188_0, hx188_1, hx188_2, hx188_3⟩ := at_T35 HR0.out x hx0 hx1
                obtain ⟨ad1, e189, hy188_0, hy1, hy2, hy3⟩ := at_T35 HR0.out (x - 1) (by omega) (by omega)
                clear hy1 hy2 hy3
                rw [show (x - 1).toNat = x.toNat - 1 by omega] at hy188_0
                have HY := Aside0.mk hy188_0
                clear hy188_0
                have e190 := e188.symm.trans e189
                cases e188
                cases e190
                clear e189
                replace hx188_0 := (HB.out.cell (World.block_lt_of_cell? w _ hx188_0)).trans hx188_0
                replace hx188_1 := (HB.out.cell (World.block_lt_of_cell? w _ hx188_1)).trans hx188_1
                replace hx188_2 := (HB.out.cell (World.block_lt_of_cell? w _ hx188_2)).trans hx188_2
                replace hx188_3 := (HB.out.cell (World.block_lt_of_cell? w _ hx188_3)).trans hx188_3
                go_wp2_with (first | ((with_reducible refine gate_dst (N := 6) rfl ?_); refine box_event ?hg (N := 6) ?hd (cs := #[.int .i64 0, .int .i64 0, .int .i64 0, .string (⟨#[]⟩ : ByteArray)]) (t := 35) ?hr ?_; (case hd => rfl); (case hg => rfl); (case hr => first | (go_simp; done) | (go_simp; rfl)); intro gb hg w14 hbox hb; have HW := Aside0.mk (below_step (Below.refl wr.heap.size wr) hb); have BK := Aside0.mk hbox; have GE := Aside0.mk (show wr.heap.size ≤ gb by rw [hg]; exact Nat.le_refl _); clear hb hbox hg; have hcz0 : w14.cell? ⟨gb, 0, none⟩ = some (.int .i64 0) := (blk_cell BK.out 0).trans rfl; have hcz1 : w14.cell? ⟨gb, 1, none⟩ = some (.int .i64 0) := (blk_cell BK.out 1).trans rfl; have hcz2 : w14.cell? ⟨gb, 2, none⟩ = some (.int .i64 0) := (blk_cell BK.out 2).trans rfl; have hcz3 : w14.cell? ⟨gb, 3, none⟩ = some (.string (⟨#[]⟩ : ByteArray)) := (blk_cell BK.out 3).trans rfl; have hfz0 := blk_frozen BK.out 0; have hfz1 := blk_frozen BK.out 1; have hfz2 := blk_frozen BK.out 2; have hfz3 := blk_frozen BK.out 3) | ((with_reducible refine gate_callee (f := 29) rfl ?_); refine goesL_ (some 21) rfl rfl Tryd.func29 (by kernel_rfl) rfl #[.agg #[.int .i64 ((rd_T35 l0 x).f0), .int .i64 ((rd_T35 l0 x).f1), .int .i64 ((rd_T35 l0 x).f2), .string ((rd_T35 l0 x).f3)]] rfl (by (try simp only [List.map_toArray, List.map_cons, List.map_nil]); first | done | rfl | (simp only [List.length_drop, List.length_take]; rfl)) ?_; (with_reducible refine (lexis_text.calls kt ((rd_T35 l0 x).f0) ((rd_T35 l0 x).f1) ((rd_T35 l0 x).f2) ((rd_T35 l0 x).f3) s true _ ?side1 AK.out).mono ?_); (case side1 => exact Laid.below HLaid.out (HB.out.trans (Below.mono (by repeat (first | (with_reducible first | exact HW.out | apply below_alloc | apply pw_below_drewN | apply below_drew1 | refine below_set ?_ GE.out) | exact HW.out)) HB.out.size))); rintro e w16 ⟨rfl, hb⟩; refine ⟨_, rfl, ?_⟩; have BK2 := Aside0.mk (blk_below (g := gb) (o := .cells #[.int .i64 ((rd_T35 l0 x).f0), .int .i64 ((rd_T35 l0 x).f1), .int .i64 ((rd_T35 l0 x).f2), .string ((rd_T35 l0 x).f3)] 35 (0, 0)) (by (with_reducible repeat (first | refine blk_drewN ?_ _ | refine blk_drew ?_ | refine blk_alloc ?_ _)); refine blk_put (cs := #[.int .i64 ((rd_T35 l0 x).f0), .int .i64 ((rd_T35 l0 x).f1), .int .i64 ((rd_T35 l0 x).f2), .string (⟨#[]⟩ : ByteArray)]) ?_ 3 _ rfl; (with_reducible repeat (first | refine blk_drewN ?_ _ | refine blk_drew ?_ | refine blk_alloc ?_ _)); refine blk_put (cs := #[.int .i64 ((rd_T35 l0 x).f0), .int .i64 ((rd_T35 l0 x).f1), .int .i64 0, .string (⟨#[]⟩ : ByteArray)]) ?_ 2 _ rfl; (with_reducible repeat (first | refine blk_drewN ?_ _ | refine blk_drew ?_ | refine blk_alloc ?_ _)); refine blk_put (cs := #[.int .i64 ((rd_T35 l0 x).f0), .int .i64 0, .int .i64 0, .string (⟨#[]⟩ : ByteArray)]) ?_ 1 _ rfl; (with_reducible repeat (first | refine blk_drewN ?_ _ | refine blk_drew ?_ | refine blk_alloc ?_ _)); refine blk_put (cs := #[.int .i64 0, .int .i64 0, .int .i64 0, .string (⟨#[]⟩ : ByteArray)]) ?_ 0 _ rfl; (with_reducible repeat (first | refine blk_drewN ?_ _ | refine blk_drew ?_ | refine blk_alloc ?_ _)); exact BK.out) hb); have HW2 := Aside0.mk (below_step (show Below wr.heap.size wr _ from by repeat (first | (with_reducible first | exact HW.out | apply below_alloc | apply pw_below_drewN | apply below_drew1 | refine below_set ?_ GE.out) | exact HW.out)) hb); clear hb; have HBu2 := Aside0.mk (builder_later HBu.out HW2.out); have HB2 := Aside0.mk (HB.out.trans (HW2.out.mono HB.out.size)); clear HW; have hd0 : w16.cell? ⟨gb, 0, none⟩ = some (.int .i64 ((rd_T35 l0 x).f0)) := (blk_cell BK2.out 0).trans rfl; have hy0 : w16.cell? (ad.add ((x.toNat - 1) * 4)) = some (.int .i64 ((rd_T35 l0 (x - 1)).f0)) := (HB2.out.cell (World.block_lt_of_cell? w _ HY.out)).trans HY.out) | (go_at_call 30; (with_reducible refine (WriteByte_any w.heap.size w.heap.size (Lib.byteCells acc) 32 _ HBu2.out ?sb1 ?sb2).mono ?_); (case sb1 => rw [byteCells_len]; have := HAL.out; omega); (case sb2 => exact HB2.out.size); rintro e w17 ⟨rfl, h17, hb⟩; have HBu3 := Aside0.mk h17; have HB3 := Aside0.mk (HB2.out.trans hb); clear h17 hb) | (go_at_call 31; (with_reducible refine (WriteString_any w.heap.size w.heap.size (Lib.byteCells acc ++ [.int .u8 32]) s _ (used_builder HBu3.out) ?ss1 ?ss2).mono ?_); (case ss1 => rw [List.length_append, byteCells_len]; have := HAL.out; have := HSL.out; simp only [List.length_cons, List.length_nil]; omega); (case ss2 => exact HB3.out.size); rintro e w18 ⟨rfl, h18, hb⟩; have HBu4 := Aside0.mk h18; have HB4 := Aside0.mk (HB3.out.trans hb); clear h18 hb))
                go_roundw
                case rel => exact ⟨x + 1, acc ++ ((if sepB (prevK l0 x.toNat) (rd_T35 l0 x).f0 then [32] else []) ++ bs), by first | rfl | (go_num), ⟨HIv.out.next hx1 HS.out⟩, ⟨by rw [HSep.out, byteCells_app, byteCells_app]; have h_ := HBu4.out; rw [HSB.out, strCells_mk] at h_; exact .inr (by simpa [Lib.byteCells, List.append_assoc] using h_)⟩, HB4⟩
                case measure => simp [intOf]; omega
          · have HSep : Aside0 (sepB (prevK l0 x.toNat) (rd_T35 l0 x).f0 = false) := ⟨by rw [show x.toNat = 0 by omega]; rfl⟩
            have c8b0 : decide (0 < x) = false := decide_eq_false hx3
            obtain ⟨ad, e188, hx188_0, hx188_1, hx188_2, hx188_3⟩ := at_T35 HR0.out x hx0 hx1
            cases e188
            replace hx188_0 := (HB.out.cell (World.block_lt_of_cell? w _ hx188_0)).trans hx188_0
            replace hx188_1 := (HB.out.cell (World.block_lt_of_cell? w _ hx188_1)).trans hx188_1
            replace hx188_2 := (HB.out.cell (World.block_lt_of_cell? w _ hx188_2)).trans hx188_2
            replace hx188_3 := (HB.out.cell (World.block_lt_of_cell? w _ hx188_3)).trans hx188_3
            go_wp2_with (first | ((with_reducible refine gate_dst (N := 6) rfl ?_); refine box_event ?hg (N := 6) ?hd (cs := #[.int .i64 0, .int .i64 0, .int .i64 0, .string (⟨#[]⟩ : ByteArray)]) (t := 35) ?hr ?_; (case hd => rfl); (case hg => rfl); (case hr => first | (go_simp; done) | (go_simp; rfl)); intro gb hg w14 hbox hb; have HW := Aside0.mk (below_step (Below.refl wr.heap.size wr) hb); have BK := Aside0.mk hbox; have GE := Aside0.mk (show wr.heap.size ≤ gb by rw [hg]; exact Nat.le_refl _); clear hb hbox hg; have hcz0 : w14.cell? ⟨gb, 0, none⟩ = some (.int .i64 0) := (blk_cell BK.out 0).trans rfl; have hcz1 : w14.cell? ⟨gb, 1, none⟩ = some (.int .i64 0) := (blk_cell BK.out 1).trans rfl; have hcz2 : w14.cell? ⟨gb, 2, none⟩ = some (.int .i64 0) := (blk_cell BK.out 2).trans rfl; have hcz3 : w14.cell? ⟨gb, 3, none⟩ = some (.string (⟨#[]⟩ : ByteArray)) := (blk_cell BK.out 3).trans rfl; have hfz0 := blk_frozen BK.out 0; have hfz1 := blk_frozen BK.out 1; have hfz2 := blk_frozen BK.out 2; have hfz3 := blk_frozen BK.out 3) | ((with_reducible refine gate_callee (f := 29) rfl ?_); refine goesL_ (some 21) rfl rfl Tryd.func29 (by kernel_rfl) rfl #[.agg #[.int .i64 ((rd_T35 l0 x).f0), .int .i64 ((rd_T35 l0 x).f1), .int .i64 ((rd_T35 l0 x).f2), .string ((rd_T35 l0 x).f3)]] rfl (by (try simp only [List.map_toArray, List.map_cons, List.map_nil]); first | done | rfl | (simp only [List.length_drop, List.length_take]; rfl)) ?_; (with_reducible refine (lexis_text.calls kt ((rd_T35 l0 x).f0) ((rd_T35 l0 x).f1) ((rd_T35 l0 x).f2) ((rd_T35 l0 x).f3) s true _ ?side1 AK.out).mono ?_); (case side1 => exact Laid.below HLaid.out (HB.out.trans (Below.mono (by repeat (first | (with_reducible first | exact HW.out | apply below_alloc | apply pw_below_drewN | apply below_drew1 | refine below_set ?_ GE.out) | exact HW.out)) HB.out.size))); rintro e w16 ⟨rfl, hb⟩; refine ⟨_, rfl, ?_⟩; have BK2 := Aside0.mk (blk_below (g := gb) (o := .cells #[.int .i64 ((rd_T35 l0 x).f0), .int .i64 ((rd_T35 l0 x).f1), .int .i64 ((rd_T35 l0 x).f2), .string ((rd_T35 l0 x).f3)] 35 (0, 0)) (by (with_reducible repeat (first | refine blk_drewN ?_ _ | refine blk_drew ?_ | refine blk_alloc ?_ _)); refine blk_put (cs := #[.int .i64 ((rd_T35 l0 x).f0), .int .i64 ((rd_T35 l0 x).f1), .int .i64 ((rd_T35 l0 x).f2), .string (⟨#[]⟩ : ByteArray)]) ?_ 3 _ rfl; (with_reducible repeat (first | refine blk_drewN ?_ _ | refine blk_drew ?_ | refine blk_alloc ?_ _)); refine blk_put (cs := #[.int .i64 ((rd_T35 l0 x).f0), .int .i64 ((rd_T35 l0 x).f1), .int .i64 0, .string (⟨#[]⟩ : ByteArray)]) ?_ 2 _ rfl; (with_reducible repeat (first | refine blk_drewN ?_ _ | refine blk_drew ?_ | refine blk_alloc ?_ _)); refine blk_put (cs := #[.int .i64 ((rd_T35 l0 x).f0), .int .i64 0, .int .i64 0, .string (⟨#[]⟩ : ByteArray)]) ?_ 1 _ rfl; (with_reducible repeat (first | refine blk_drewN ?_ _ | refine blk_drew ?_ | refine blk_alloc ?_ _)); refine blk_put (cs := #[.int .i64 0, .int .i64 0, .int .i64 0, .string (⟨#[]⟩ : ByteArray)]) ?_ 0 _ rfl; (with_reducible repeat (first | refine blk_drewN ?_ _ | refine blk_drew ?_ | refine blk_alloc ?_ _)); exact BK.out) hb); have HW2 := Aside0.mk (below_step (show Below wr.heap.size wr _ from by repeat (first | (with_reducible first | exact HW.out | apply below_alloc | apply pw_below_drewN | apply below_drew1 | refine below_set ?_ GE.out) | exact HW.out)) hb); clear hb; have HBu2 := Aside0.mk (builder_later HBu.out HW2.out); have HB2 := Aside0.mk (HB.out.trans (HW2.out.mono HB.out.size)); clear HW; have hd0 : w16.cell? ⟨gb, 0, none⟩ = some (.int .i64 ((rd_T35 l0 x).f0)) := (blk_cell BK2.out 0).trans rfl) | (go_at_call 31; (with_reducible refine (WriteString_any w.heap.size w.heap.size (Lib.byteCells acc) s _ HBu2.out ?ss1 ?ss2).mono ?_); (case ss1 => rw [byteCells_len]; have := HAL.out; have := HSL.out; omega); (case ss2 => exact HB2.out.size); rintro e w18 ⟨rfl, h18, hb⟩; have HBu4 := Aside0.mk h18; have HB4 := Aside0.mk (HB2.out.trans hb); clear h18 hb))
            go_roundw
            case rel => exact ⟨x + 1, acc ++ ((if sepB (prevK l0 x.toNat) (rd_T35 l0 x).f0 then [32] else []) ++ bs), by first | rfl | (go_num), ⟨HIv.out.next hx1 HS.out⟩, ⟨by rw [HSep.out, byteCells_app, byteCells_app]; have h_ := HBu4.out; rw [HSB.out, strCells_mk] at h_; exact .inr (by simpa [Lib.byteCells, List.append_assoc] using h_)⟩, HB4⟩
            case measure => simp [intOf]; omega
      · have c3b0 : decide (x < (l0.length : Int)) = false := decide_eq_false hx1
        have ht := HT.out _ (HIv.out.done hx1)
        simp only at ht
        subst ht
        clear HT
        go_wp2_with (go_at_call 32; (with_reducible refine (Tryd.Builder_String_any w.heap.size w.heap.size acc _ HBu.out ?st1).mono ?_); (case st1 => exact HB.out.size); rintro e w19 ⟨rfl, hb⟩; have HB5 := Aside0.mk (HB.out.trans hb); clear hb)
        go_ret2
        exact ⟨rfl, HB5.out⟩

theorem lexis_Text.calls (A0 : Option Addr) (c0 : Nat) (l0 : List (S35)) (r1 : ByteArray) (r2 : Int) (w : World) (hr0 : Kd.C k35 w A0 l0.length l0) (hc0 : l0.length ≤ c0) (hLaid : Laid w) (h : lexis_Text.f l0 = some (r1, r2)) :
    Calls Tryd.prog 16 #[.slice A0 l0.length c0] w fun e w' => e = .returned (.tuple #[.string r1, .int .i64 r2]) ∧ Below w.heap.size w w' := by
  unfold lexis_Text.f at h
  split at h
  · rename_i hi
    have e := Option.some.inj h
    have := Text_walk A0 c0 l0 w hr0 hc0 hLaid hi
    rw [e] at this
    exact this
  · cases h
end Go.Proofs.YthcllibbaindbaaDoor.Px
namespace Go.Proofs.YthcllibbaindbaaDoor.Px
open Go.RowKit Go.Lib Go.Proofs.YthcllibbaindbaaDoorW.PrintWords Go.Proofs.YthcllibbaindbaaDoorW.PrintLast Go.Proofs.YthcllibbaindbaaDoorW.PrintMore

def wtok (w : List UInt8) (pos : Int) : S35 := ⟨(wordR w).1, (wordR w).2.1, pos, ⟨(wordR w).2.2.1.toArray⟩⟩
def scanF : Nat → List UInt8 → Int → Option (List S35)
  | 0, _, _ => some []
  | _ + 1, [], _ => some []
  | n + 1, c :: r, pos =>
    if c = 32 ∨ c = 10 then scanF n r (pos + 1)
    else if c = 40 then (scanF n r (pos + 1)).map (⟨1, 0, pos, ⟨#[]⟩⟩ :: ·)
    else if c = 41 then (scanF n r (pos + 1)).map (⟨2, 0, pos, ⟨#[]⟩⟩ :: ·)
    else if (wordR ((c :: r).takeWhile isLD)).2.2.2 then (scanF n ((c :: r).dropWhile isLD) (pos + ((c :: r).takeWhile isLD).length)).map (wtok ((c :: r).takeWhile isLD) pos :: ·)
    else none
def outT (xs : List S35) : Option (List S35) → List S35 × Int
  | none => ([], 15)
  | some l => if xs.length + l.length > 2048 then ([], 3) else (xs ++ l, 0)
theorem outT_cons (xs : List S35) (t : S35) (o : Option (List S35)) : outT xs (o.map (t :: ·)) = outT (xs ++ [t]) o := by
  cases o with
  | none => rfl
  | some l => simp [outT, Nat.add_assoc, Nat.add_comm 1]

theorem takeWhile_append_dropWhile_len (l : List UInt8) (p : UInt8 → Bool) : (l.takeWhile p).length + (l.dropWhile p).length = l.length := by
  have := congrArg List.length (List.takeWhile_append_dropWhile (p := p) (l := l))
  rwa [List.length_append] at this
theorem drop_takeWhile_len (l : List UInt8) (p : UInt8 → Bool) : l.drop (l.takeWhile p).length = l.dropWhile p := by
  have h := List.takeWhile_append_dropWhile (p := p) (l := l)
  have e : (l.takeWhile p ++ l.dropWhile p).drop (l.takeWhile p).length = l.dropWhile p := List.drop_left
  rwa [h] at e
theorem take_takeWhile_len (l : List UInt8) (p : UInt8 → Bool) : l.take (l.takeWhile p).length = l.takeWhile p := by
  have h := List.takeWhile_append_dropWhile (p := p) (l := l)
  have e : (l.takeWhile p ++ l.dropWhile p).take (l.takeWhile p).length = l.takeWhile p := List.take_left
  rwa [h] at e
theorem Ev_pos {α : Type} {f g : Nat → Option α} {r : α} {c : Prop} [Decidable c] (h : c) (k : Ev f r) : Ev (fun n => if c then f n else g n) r := by simpa only [if_pos h] using k
theorem Ev_neg {α : Type} {f g : Nat → Option α} {r : α} {c : Prop} [Decidable c] (h : ¬ c) (k : Ev g r) : Ev (fun n => if c then f n else g n) r := by simpa only [if_neg h] using k
theorem wordR_nil : wordR [] = (0, 0, [], false) := rfl

theorem wrap32_byte {x : Int} (h0 : 0 ≤ x) (h1 : x ≤ 255) : wrap32 x = x := by unfold wrap32; omega
theorem lletter_f (r : Nat) : lexis_letter.f r = some (letterP r) := by
  unfold lexis_letter.f letterP
  by_cases h : (r : Int) ≥ 97
  · rw [if_pos h]; congr 1; rw [Bool.eq_iff_iff]; simp; omega
  · rw [if_neg h]; congr 1; rw [Bool.eq_iff_iff]; simp; omega
theorem ldigit_f (r : Nat) : lexis_digit.f r = some (digitP r) := by
  unfold lexis_digit.f digitP
  by_cases h : (r : Int) ≥ 48
  · rw [if_pos h]; congr 1; rw [Bool.eq_iff_iff]; simp; omega
  · rw [if_neg h]; congr 1; rw [Bool.eq_iff_iff]; simp; omega

theorem byte_eq (b : UInt8) (n : Nat) (hn : n < 256) : ((b.toNat : Int) = n) ↔ b = UInt8.ofNat n := by
  refine ⟨fun h => ?_, fun h => ?_⟩
  · apply UInt8.toNat_inj.1
    rw [UInt8.toNat_ofNat']
    have : b.toNat = n := by omega
    omega
  · rw [h, UInt8.toNat_ofNat']
    omega

theorem drop_cons (s : ByteArray) (i : Nat) (h : i < s.size) : s.data.toList.drop i = s.get! i :: s.data.toList.drop (i + 1) := by
  rw [← get_list s i h]
  exact List.drop_eq_getElem_cons (by rw [len_data]; exact h)

/-- The word that begins at i, and what is done with it. -/
theorem fin_ev (s : ByteArray) (hs : s.size ≤ 8192) (xs : List S35) (i : Nat) (hi : i < s.size) (hx : xs.length ≤ i) {R : List S35 × Int}
    (rest : (wordR ((s.data.toList.drop i).takeWhile isLD)).2.2.2 = true → Ev (fun k => lexis_Tokens.l0 k s (xs ++ [wtok ((s.data.toList.drop i).takeWhile isLD) i]) ((i + ((s.data.toList.drop i).takeWhile isLD).length : Nat) : Int)) R) :
    Ev (fun k => if 0 ≤ (i : Int) then (if (i : Int) ≤ ((i + ((s.data.toList.drop i).takeWhile isLD).length : Nat) : Int) then (if ((i + ((s.data.toList.drop i).takeWhile isLD).length : Nat) : Int) ≤ (s.size : Int) then ((lexis_word.f k (s.extract (i : Int).toNat ((i + ((s.data.toList.drop i).takeWhile isLD).length : Nat) : Int).toNat)).bind fun bt131 => (if bt131.2.2.2.2 = true then (if xs.length < 3518437208883 then (lexis_Tokens.l0 k s (xs ++ [(⟨bt131.1, bt131.2.1, (i : Int), bt131.2.2.2.1⟩ : S35)]) ((i + ((s.data.toList.drop i).takeWhile isLD).length : Nat) : Int)) else (none)) else (some (([] : List (S35)), 15)))) else (none)) else (none)) else (none))
      (if (wordR ((s.data.toList.drop i).takeWhile isLD)).2.2.2 then R else ([], 15)) := by
  have hlen := takeWhile_append_dropWhile_len (s.data.toList.drop i) isLD
  rw [List.length_drop, len_data] at hlen
  simp only [if_pos (show (0 : Int) ≤ (i : Int) by omega), if_pos (show (i : Int) ≤ ((i + ((s.data.toList.drop i).takeWhile isLD).length : Nat) : Int) by omega), if_pos (show ((i + ((s.data.toList.drop i).takeWhile isLD).length : Nat) : Int) ≤ (s.size : Int) by omega)]
  have hw : (s.extract (i : Int).toNat ((i + ((s.data.toList.drop i).takeWhile isLD).length : Nat) : Int).toNat).data.toList = (s.data.toList.drop i).takeWhile isLD := by
    rw [Lib.extract_data]
    simp only [Int.toNat_natCast]
    rw [Nat.add_sub_cancel_left]
    exact take_takeWhile_len _ _
  have he := word_ev (s.extract (i : Int).toNat ((i + ((s.data.toList.drop i).takeWhile isLD).length : Nat) : Int).toNat)
  rw [hw] at he
  refine Ev.bind he ?_
  cases hb : (wordR ((s.data.toList.drop i).takeWhile isLD)).2.2.2 with
  | true =>
    simp only [if_true, if_pos (show xs.length < 3518437208883 by omega)]
    exact rest hb
  | false => simp only [Bool.false_eq_true, if_false]; exact Ev.now _

theorem l1_ev (s : ByteArray) (hs : s.size ≤ 8192) (xs : List S35) (i : Nat) (hi : i < s.size) (hx : xs.length ≤ i) {R : List S35 × Int}
    (rest : (wordR ((s.data.toList.drop i).takeWhile isLD)).2.2.2 = true → Ev (fun k => lexis_Tokens.l0 k s (xs ++ [wtok ((s.data.toList.drop i).takeWhile isLD) i]) ((i + ((s.data.toList.drop i).takeWhile isLD).length : Nat) : Int)) R) :
    ∀ (d j : Nat), i ≤ j → j + d = i + ((s.data.toList.drop i).takeWhile isLD).length →
      Ev (fun k => lexis_Tokens.l1 k s xs i j) (if (wordR ((s.data.toList.drop i).takeWhile isLD)).2.2.2 then R else ([], 15)) := by
  have hlen := takeWhile_append_dropWhile_len (s.data.toList.drop i) isLD
  rw [List.length_drop, len_data] at hlen
  intro d
  induction d with
  | zero =>
    intro j hij hj
    rw [Nat.add_zero] at hj
    subst hj
    have hf := fin_ev s hs xs i hi hx rest
    refine Ev.step (f := _) (fun k => by rw [lexis_Tokens.l1]) ?_
    by_cases hlt : ((i + ((s.data.toList.drop i).takeWhile isLD).length : Nat) : Int) < (s.size : Int)
    · have hlt' : i + ((s.data.toList.drop i).takeWhile isLD).length < s.size := by omega
      simp only [if_pos hlt, if_pos (show (0 : Int) ≤ ((i + ((s.data.toList.drop i).takeWhile isLD).length : Nat) : Int) by omega)]
      have hb := bt_get s _ hlt'
      have hnot : isLD (s.get! (i + ((s.data.toList.drop i).takeWhile isLD).length)) = false := by
        have h1 := drop_takeWhile_len (s.data.toList.drop i) isLD
        rw [List.drop_drop, drop_cons s _ hlt'] at h1
        have h2 := List.head?_dropWhile_not isLD (s.data.toList.drop i)
        rw [← h1] at h2
        simpa using h2
      rw [isLD, Bool.or_eq_false_iff] at hnot
      rw [hb, wrap32_byte (by omega) (by have := (s.get! (i + ((s.data.toList.drop i).takeWhile isLD).length)).toNat_lt; omega), lletter_f, ldigit_f]
      rw [show letterP (s.get! (i + ((s.data.toList.drop i).takeWhile isLD).length)).toNat = false from hnot.1, show digitP (s.get! (i + ((s.data.toList.drop i).takeWhile isLD).length)).toNat = false from hnot.2]
      simp only [Option.bind_some, Bool.false_eq_true, if_false]
      exact hf
    · simp only [if_neg hlt]
      exact hf
  | succ d ih =>
    intro j hij hj
    have hlt : j < s.size := by omega
    have hyes : isLD (s.get! j) = true := by
      have h1 : j - i < ((s.data.toList.drop i).takeWhile isLD).length := by omega
      have h2 := List.all_takeWhile (p := isLD) (l := s.data.toList.drop i)
      rw [List.all_eq_true] at h2
      have h3 := h2 _ (List.getElem_mem h1)
      have h4 : ((s.data.toList.drop i).takeWhile isLD)[j - i]? = (s.data.toList.drop i)[j - i]? := by
        rw [← take_takeWhile_len, List.getElem?_take, if_pos h1]
      rw [List.getElem?_eq_getElem h1, List.getElem?_drop, show i + (j - i) = j by omega, toList_at s j hlt] at h4
      rw [Option.some.inj h4] at h3
      exact h3
    have nx := ih (j + 1) (by omega) (by omega)
    refine Ev.step (f := _) (fun k => by rw [lexis_Tokens.l1]) ?_
    have hb := bt_get s j hlt
    simp only [if_pos (show (j : Int) < (s.size : Int) by omega), if_pos (show (0 : Int) ≤ (j : Int) by omega)]
    rw [hb, wrap32_byte (by omega) (by have := (s.get! j).toNat_lt; omega), lletter_f, ldigit_f, wrap_small (x := (j : Int) + 1) (by omega) (by omega)]
    rw [isLD, Bool.or_eq_true] at hyes
    simp only [Option.bind_some]
    cases hL : letterP (s.get! j).toNat with
    | true => simp only [if_true]; exact_mod_cast nx
    | false =>
      have hD : digitP (s.get! j).toNat = true := by
        rcases hyes with h | h
        · rw [isL, hL] at h; cases h
        · exact h
      simp only [Bool.false_eq_true, if_false, hD, if_true]
      exact_mod_cast nx

theorem l0_ev (s : ByteArray) (hs : s.size ≤ 8192) : ∀ (n i : Nat) (xs : List S35), s.size - i ≤ n → i ≤ s.size → xs.length ≤ i →
    Ev (fun k => lexis_Tokens.l0 k s xs i) (outT xs (scanF n (s.data.toList.drop i) i)) := by
  intro n
  induction n with
  | zero =>
    intro i xs h1 h2 hx
    refine Ev.step (f := _) (fun k => by rw [lexis_Tokens.l0]) ?_
    simp only [if_neg (show ¬ (i : Int) < (s.size : Int) by omega)]
    have : outT xs (scanF 0 (s.data.toList.drop i) i) = if (xs.length : Int) > 2048 then ([], 3) else (xs, 0) := by
      simp only [scanF, outT, List.length_nil, Nat.add_zero, List.append_nil]
      by_cases h : xs.length > 2048
      · rw [if_pos h, if_pos (by omega)]
      · rw [if_neg h, if_neg (by omega)]
    rw [this]
    split <;> exact Ev.now _
  | succ n ih =>
    intro i xs h1 h2 hx
    by_cases hlt : i < s.size
    · have hb : bt s i = ((s.get! i).toNat : Int) := bt_get s i hlt
      have e32 := byte_eq (s.get! i) 32 (by omega)
      have e10 := byte_eq (s.get! i) 10 (by omega)
      have e40 := byte_eq (s.get! i) 40 (by omega)
      have e41 := byte_eq (s.get! i) 41 (by omega)
      rw [drop_cons s i hlt]
      have step : ∀ {R : List S35 × Int}, ∀ (b : Bool), Ev (fun k => if b = true then lexis_Tokens.l0 k s xs (wrap64 ((i : Int) + 1)) else (if bt s i = 40 then (if xs.length < 3518437208883 then (lexis_Tokens.l0 k s (xs ++ [(⟨1, 0, (i : Int), (⟨#[]⟩ : ByteArray)⟩ : S35)]) (wrap64 ((i : Int) + 1))) else (none)) else (if bt s i = 41 then (if xs.length < 3518437208883 then (lexis_Tokens.l0 k s (xs ++ [(⟨2, 0, (i : Int), (⟨#[]⟩ : ByteArray)⟩ : S35)]) (wrap64 ((i : Int) + 1))) else (none)) else (lexis_Tokens.l1 k s xs i i)))) R → Ev (fun k => lexis_Tokens.j1 k s xs i (bt s i) b) R := by
        intro R b h
        exact Ev.step (fun k => by rw [lexis_Tokens.j1]) h
      have top : ∀ {R : List S35 × Int}, Ev (fun k => lexis_Tokens.j1 k s xs i (bt s i) (decide (s.get! i = 32 ∨ s.get! i = 10))) R → Ev (fun k => lexis_Tokens.l0 k s xs i) R := by
        intro R h
        refine Ev.step (f := _) (fun k => by rw [lexis_Tokens.l0]) ?_
        simp only [if_pos (show (i : Int) < (s.size : Int) by omega), if_pos (show (0 : Int) ≤ (i : Int) by omega)]
        by_cases h32 : s.get! i = 32
        · refine Ev_pos (by rw [hb]; exact e32.2 h32) ?_
          simpa [h32] using h
        · refine Ev_neg (by rw [hb]; exact fun h => h32 (e32.1 h)) ?_
          have : (bt s i == 10) = decide (s.get! i = 32 ∨ s.get! i = 10) := by
            rw [Bool.eq_iff_iff, beq_iff_eq, decide_eq_true_iff, hb]
            exact ⟨fun h => .inr (e10.1 h), fun h => h.elim (fun h => absurd h h32) e10.2⟩
          rw [this]; exact h
      refine top (step _ ?_)
      rw [wrap_small (x := (i : Int) + 1) (by omega) (by omega)]
      simp only [scanF]
      by_cases hsp : s.get! i = 32 ∨ s.get! i = 10
      · rw [if_pos hsp]
        refine Ev_pos (by simpa using hsp) ?_
        exact_mod_cast ih (i + 1) xs (by omega) (by omega) (by omega)
      · rw [if_neg hsp]
        refine Ev_neg (by simpa using hsp) ?_
        by_cases h40 : s.get! i = 40
        · rw [if_pos h40, outT_cons]
          refine Ev_pos (by rw [hb]; exact e40.2 h40) (Ev_pos (by omega) ?_)
          exact_mod_cast ih (i + 1) _ (by omega) (by omega) (by rw [List.length_append]; simp; omega)
        · rw [if_neg h40]
          refine Ev_neg (by rw [hb]; exact fun h => h40 (e40.1 h)) ?_
          by_cases h41 : s.get! i = 41
          · rw [if_pos h41, outT_cons]
            refine Ev_pos (by rw [hb]; exact e41.2 h41) (Ev_pos (by omega) ?_)
            exact_mod_cast ih (i + 1) _ (by omega) (by omega) (by rw [List.length_append]; simp; omega)
          · rw [if_neg h41, ← drop_cons s i hlt]
            refine Ev_neg (by rw [hb]; exact fun h => h41 (e41.1 h)) ?_
            have hlen := takeWhile_append_dropWhile_len (s.data.toList.drop i) isLD
            rw [List.length_drop, len_data] at hlen
            cases hw : (wordR ((s.data.toList.drop i).takeWhile isLD)).2.2.2 with
            | true =>
              have hpos : 0 < ((s.data.toList.drop i).takeWhile isLD).length := by
                rcases Nat.eq_zero_or_pos ((s.data.toList.drop i).takeWhile isLD).length with h | h
                · rw [List.eq_nil_of_length_eq_zero h] at hw; simp [wordR_nil] at hw
                · exact h
              have rest := ih (i + ((s.data.toList.drop i).takeWhile isLD).length) (xs ++ [wtok ((s.data.toList.drop i).takeWhile isLD) i]) (by omega) (by omega) (by rw [List.length_append]; simp; omega)
              have := l1_ev s hs xs i hlt hx (fun _ => rest) _ i (Nat.le_refl _) rfl
              rw [hw, if_pos rfl] at this
              rw [if_pos rfl, outT_cons, ← drop_takeWhile_len, List.drop_drop]
              exact_mod_cast this
            | false =>
              have := l1_ev s hs xs i hlt hx (R := ([], 15)) (fun h => by rw [hw] at h; cases h) _ i (Nat.le_refl _) rfl
              rw [hw, if_neg (by simp)] at this
              simpa [outT] using this
    · refine Ev.step (f := _) (fun k => by rw [lexis_Tokens.l0]) ?_
      simp only [if_neg (show ¬ (i : Int) < (s.size : Int) by omega)]
      have hd : s.data.toList.drop i = [] := List.drop_eq_nil_of_le (by rw [len_data]; omega)
      have : outT xs (scanF (n + 1) (s.data.toList.drop i) i) = if (xs.length : Int) > 2048 then ([], 3) else (xs, 0) := by
        rw [hd]
        simp only [scanF, outT, List.length_nil, Nat.add_zero, List.append_nil]
        by_cases h : xs.length > 2048
        · rw [if_pos h, if_pos (by omega)]
        · rw [if_neg h, if_neg (by omega)]
      rw [this]
      split <;> exact Ev.now _

def scan (l : List UInt8) : Option (List S35) := scanF l.length l 0
def tokR (l : List UInt8) : List S35 × Int := if l.length > 8192 then ([], 3) else outT [] (scan l)
theorem Tokens_ev (s : ByteArray) : Ev (fun k => lexis_Tokens.f k s) (tokR s.data.toList) := by
  unfold lexis_Tokens.f tokR
  rw [len_data]
  by_cases h : s.size > 8192
  · simp only [if_pos (show (s.size : Int) > 8192 by omega), if_pos h]; exact Ev.now _
  · simp only [if_neg (show ¬ (s.size : Int) > 8192 by omega), if_neg h]
    have := l0_ev s (by omega) s.size 0 [] (by omega) (by omega) (by simp)
    rw [List.drop_zero] at this
    unfold scan
    rw [len_data]
    exact_mod_cast this
end Go.Proofs.YthcllibbaindbaaDoor.Px
namespace Go.Proofs.YthcllibbaindbaaDoor.Px
open Go.RowKit Go.Lib Go.Proofs.YthcllibbaindbaaDoorW.PrintWords Go.Proofs.YthcllibbaindbaaDoorW.PrintLast Go.Proofs.YthcllibbaindbaaDoorW.PrintMore

theorem sane_tok : tokR [40, 115, 117, 99, 99, 32, 120, 48, 41] = ([⟨1, 0, 0, ⟨#[]⟩⟩, ⟨3, 0, 1, ⟨#[115, 117, 99, 99]⟩⟩, ⟨5, 0, 6, ⟨#[]⟩⟩, ⟨2, 0, 8, ⟨#[]⟩⟩], 0) := by rfl

theorem sane_ev : Ev (fun k => pl_sane.f k) true := by
  unfold pl_sane.f
  have h := Tokens_ev (⟨#[40, 115, 117, 99, 99, 32, 120, 48, 41]⟩ : ByteArray)
  rw [show (⟨#[40, 115, 117, 99, 99, 32, 120, 48, 41]⟩ : ByteArray).data.toList = [40, 115, 117, 99, 99, 32, 120, 48, 41] from rfl, sane_tok] at h
  refine Ev.bind h ?_
  have e : ((⟨#[115, 117, 99, 99]⟩ : ByteArray)).toList = [115, 117, 99, 99] := by rw [Lib.toList_data]
  simp [rd_T35, e]
  exact Ev.now _

theorem Mod_f (a n : Int) (h1 : 1 ≤ n) (h2 : n ≤ 1000000000) : ∃ v, pm_Mod.f a n = some v ∧ 0 ≤ v ∧ v < n := by
  unfold pm_Mod.f
  rw [if_neg (by omega)]
  have ha := Int.tmod_lt_of_pos a (show 0 < n by omega)
  have hb : -n < Int.tmod a n := by
    have := Int.tmod_lt_of_pos (-a) (show 0 < n by omega)
    rw [Int.neg_tmod] at this; omega
  rw [wrap_small (by omega) (by omega)]
  exact ⟨_, rfl, Int.tmod_nonneg n (by omega), Int.tmod_lt_of_pos _ (by omega)⟩

theorem Next_f (l : List Int) (pos n : Int) (h1 : 1 ≤ n) (h2 : n ≤ 1000000000) (hp : 0 ≤ pos ∧ pos ≤ l.length) (hl : l.length ≤ 1000) :
    ∃ v pos', pm_Deck_Next.f l pos n = some (v, pos') ∧ 0 ≤ v ∧ v < n ∧ 0 ≤ pos' ∧ pos' ≤ l.length := by
  unfold pm_Deck_Next.f
  rw [if_neg (by omega)]
  by_cases h : pos ≥ (l.length : Int)
  · rw [if_pos h]; exact ⟨0, pos, rfl, by omega, by omega, hp⟩
  · rw [if_neg h, if_pos hp.1, if_pos (by omega)]
    obtain ⟨v, hv, h3, h4⟩ := Mod_f (rd l pos) n h1 h2
    rw [hv]
    exact ⟨v, _, rfl, h3, h4, by rw [wrap_small (by omega) (by omega)]; omega, by rw [wrap_small (by omega) (by omega)]; omega⟩

theorem takeWhile_all {l : List UInt8} {p : UInt8 → Bool} (h : l.all p = true) : l.takeWhile p = l ∧ l.dropWhile p = [] := by
  induction l with
  | nil => exact ⟨rfl, rfl⟩
  | cons a t ih =>
    rw [List.all_cons, Bool.and_eq_true] at h
    obtain ⟨h1, h2⟩ := ih h.2
    simp [h.1, h1, h2]

theorem isL_range {b : UInt8} (h : isL b = true) : 97 ≤ b.toNat ∧ b.toNat ≤ 122 := by simpa [isL, letterP] using h
theorem isD_range {b : UInt8} (h : isD b = true) : 48 ≤ b.toNat ∧ b.toNat ≤ 57 := by simpa [isD, digitP] using h

/-- Behind letters or digits nothing else matters. -/
theorem scanF_word (n : Nat) (c : UInt8) (r : List UInt8) (pos : Int) (h : isLD c = true) : scanF (n + 1) (c :: r) pos =
    if (wordR ((c :: r).takeWhile isLD)).2.2.2 then (scanF n ((c :: r).dropWhile isLD) (pos + ((c :: r).takeWhile isLD).length)).map (wtok ((c :: r).takeWhile isLD) pos :: ·) else none := by
  have hr : 48 ≤ c.toNat := by
    rw [isLD, Bool.or_eq_true] at h
    rcases h with h | h
    · have := isL_range h; omega
    · have := isD_range h; omega
  have ne : ∀ k : Nat, k < 48 → c ≠ UInt8.ofNat k := by
    intro k hk e
    rw [e, UInt8.toNat_ofNat'] at hr
    omega
  rw [scanF, if_neg (by rintro (e | e); exact ne 32 (by omega) e; exact ne 10 (by omega) e), if_neg (show ¬ c = 40 from ne 40 (by omega)), if_neg (show ¬ c = 41 from ne 41 (by omega))]

theorem scanF_nil (n : Nat) (pos : Int) : scanF n [] pos = some [] := by cases n <;> rfl

end Go.Proofs.YthcllibbaindbaaDoor.Px
namespace Go.Proofs.YthcllibbaindbaaDoor.Px
open Go.RowKit Go.Proofs.YthcllibbaindbaaDoorW.PrintWords Go.Proofs.YthcllibbaindbaaDoorW.PrintLast Go.Proofs.YthcllibbaindbaaDoorW.PrintMore

def byteInts (l : List UInt8) : List Int := l.map fun b => (b.toNat : Int)
theorem strOfNums_byteInts (l : List UInt8) : strOfNums (byteInts l) = ⟨l.toArray⟩ := by
  rw [strOfNums, byteInts, List.map_map]
  congr 2
  conv => rhs; rw [← List.map_id l]
  apply List.map_congr_left
  intro b _
  show UInt8.ofNat ((b.toNat : Int)).toNat = b
  rw [Int.toNat_natCast, UInt8.ofNat_toNat]
theorem bytesOf_mk (l : List UInt8) : bytesOf ⟨l.toArray⟩ = byteInts l := rfl
theorem byteInts_app (a b : List UInt8) : byteInts (a ++ b) = byteInts a ++ byteInts b := by rw [byteInts, List.map_append]; rfl
theorem byteInts_len (a : List UInt8) : (byteInts a).length = a.length := by rw [byteInts, List.length_map]
theorem size_mk (l : List UInt8) : (⟨l.toArray⟩ : ByteArray).size = l.length := by simp [ByteArray.size]

def endR (l : List S35) : ByteArray × Int := match joinF none l with
  | none => (⟨#[]⟩, 2)
  | some bs => (⟨bs.toArray⟩, 0)
theorem textR_eq (l : List S35) : textR l = if l.length > 2048 then (⟨#[]⟩, 3) else endR l := rfl

theorem rText_loop (l : List S35) (hl : l.length ≤ 2048) : ∀ (d : Nat) (x : Int) (acc : List UInt8), Inv l x acc → (l.length : Int) - x = d →
    Ev (fun k => pr_Text.l0 k l (byteInts acc) l (l.length : Int) x) (endR l)
  | 0, x, acc, h, hd => by
    refine Ev.step (f := _) (fun k => by rw [pr_Text.l0]) (evn (by omega) ?_)
    rw [strOfNums_byteInts, endR, h.done (by omega)]
    exact Ev.now _
  | d + 1, x, acc, h, hd => by
    have h0 : 0 ≤ x := h.1
    have hx : x < l.length := by omega
    have hal : acc.length ≤ 18 * x.toNat := h.2.2.1
    obtain ⟨⟨rs, rb⟩, hr, ht⟩ := rtext_ev (rd_T35 l x)
    refine Ev.step (f := _) (fun k => by rw [pr_Text.l0]) (evp (by omega) (evp h0 (evp hx (Ev.bind hr ?_))))
    cases hs : txtO (rd_T35 l x) with
    | none =>
      rw [hs] at ht
      have hb : rb = false := ht
      rw [hb]
      refine evn (by simp) ?_
      rw [endR, h.fails hx hs]
      exact Ev.now _
    | some s =>
      rw [hs] at ht
      obtain ⟨rfl, rfl⟩ : rs = ⟨s.toArray⟩ ∧ rb = true := by
        have e : (rs, rb) = ((⟨s.toArray⟩ : ByteArray), true) := ht
        exact ⟨congrArg Prod.fst e, congrArg Prod.snd e⟩
      refine evp rfl ?_
      have hlen := txtO_len _ _ hs
      have next := rText_loop l hl d (x + 1) _ (h.next hx hs) (by omega)
      have w1 : wrap64 (x + 1) = x + 1 := wrap_small (by omega) (by omega)
      have w2 : x > 0 → wrap64 (x - 1) = x - 1 := fun _ => wrap_small (by omega) (by omega)
      have fits : ∀ ys : List Int, ys.length ≤ 18 * x.toNat + 1 → ys.length + (⟨s.toArray⟩ : ByteArray).size < 140737488355328 := by
        intro ys hy; rw [size_mk]; omega
      have bare : sepB (prevK l x.toNat) (rd_T35 l x).f0 = false → Ev (fun k => if (byteInts acc).length + (⟨s.toArray⟩ : ByteArray).size < 140737488355328 then (pr_Text.l0 k l (byteInts acc ++ bytesOf ⟨s.toArray⟩) l (l.length : Int) (wrap64 (x + 1))) else none) (endR l) := by
        intro hsep
        refine evp (fits _ (by rw [byteInts_len]; omega)) ?_
        rw [hsep] at next
        rw [w1, bytesOf_mk, ← byteInts_app]
        exact next
      by_cases hp : x > 0
      · have hpk : prevK l x.toNat = some (rd_T35 l (x - 1)).f0 := by
          unfold prevK
          rw [if_neg (by omega), rd_T35]
          congr 3
          omega
        refine evp hp ?_
        rw [w2 hp]
        refine evp (by omega) (evp (by omega) ?_)
        by_cases h1 : (rd_T35 l (x - 1)).f0 = 1
        · exact evp h1 (bare (by rw [hpk, sepB, h1]; rfl))
        · refine evn h1 ?_
          by_cases h2 : (rd_T35 l x).f0 = 2
          · exact evp h2 (bare (by rw [hpk, sepB, h2]; simp))
          · have hsep : sepB (prevK l x.toNat) (rd_T35 l x).f0 = true := by
              rw [hpk, sepB, Bool.and_eq_true, bne_iff_ne, bne_iff_ne]; exact ⟨h1, h2⟩
            refine evn h2 (evp (by rw [byteInts_len]; omega) ?_)
            simp only [Option.bind_some]
            refine evp (fits _ (by rw [List.length_append, byteInts_len]; simp; omega)) ?_
            rw [hsep] at next
            rw [w1, bytesOf_mk]
            have e : byteInts acc ++ [32] ++ byteInts s = byteInts (acc ++ ([32] ++ s)) := by
              rw [byteInts_app, byteInts_app, List.append_assoc]; rfl
            rw [e]
            exact next
      · refine evn hp (bare ?_)
        have : prevK l x.toNat = none := by unfold prevK; rw [if_pos (by omega)]
        rw [this]; rfl

theorem rText_ev (l : List S35) : Ev (fun k => pr_Text.f k l) (textR l) := by
  unfold pr_Text.f
  rw [textR_eq]
  by_cases h : l.length > 2048
  · rw [if_pos h]; exact evp (by omega) (Ev.now _)
  · rw [if_neg h]; exact evn (by omega) (rText_loop l (by omega) l.length 0 [] (Inv.start l) (by omega))

theorem decDigits_back : ∀ (n u : Nat), u ≤ n → Lib.decFrom 0 (Lib.decDigits u) = some u ∧ (Lib.decDigits u).all isD = true ∧ 1 ≤ (Lib.decDigits u).length ∧ ((Lib.decDigits u).headD 0 = 48 → u = 0)
  | n, u, hu => by
    have dv : ∀ d, d < 10 → Lib.digitVal (UInt8.ofNat (48 + d)) = some d := by decide
    have dd : ∀ d, d < 10 → isD (UInt8.ofNat (48 + d)) = true := by decide
    by_cases h : u < 10
    · rw [Lib.decDigits_one h]
      refine ⟨?_, by rw [List.all_cons, dd u h]; rfl, by simp, ?_⟩
      · have := Lib.decFrom_take [UInt8.ofNat (48 + u)] 0 0 0 (UInt8.ofNat (48 + u)) u rfl rfl (dv u h)
        simpa using this
      · intro e
        have : ∀ d, d < 10 → UInt8.ofNat (48 + d) = 48 → d = 0 := by decide
        exact this u h e
    · obtain ⟨i1, i2, i3, i4⟩ := decDigits_back (n - 1) (u / 10) (by omega)
      rw [Lib.decDigits, dif_neg h]
      have hm : u % 10 < 10 := by omega
      refine ⟨?_, by rw [List.all_append, i2, List.all_cons, dd _ hm]; rfl, by simp, ?_⟩
      · have := Lib.decFrom_take (Lib.decDigits (u / 10) ++ [UInt8.ofNat (48 + u % 10)]) (Lib.decDigits (u / 10)).length 0 (u / 10) (UInt8.ofNat (48 + u % 10)) (u % 10) (by rw [List.take_left]; exact i1) (by simp) (dv _ hm)
        rw [List.take_of_length_le (by simp)] at this
        rw [this]; congr 1; omega
      · intro e
        cases hd : Lib.decDigits (u / 10) with
        | nil => rw [hd] at i3; simp at i3
        | cons a t =>
          rw [hd] at e i4
          have := i4 (by simpa using e)
          omega

theorem isLD_ne {c : UInt8} (h : isLD c = true) : c ≠ 32 ∧ c ≠ 10 ∧ c ≠ 40 ∧ c ≠ 41 := by
  refine ⟨?_, ?_, ?_, ?_⟩ <;> (intro e; subst e; revert h; decide)
theorem isD_notL {c : UInt8} (h : isD c = true) : isL c = false := by
  have := isD_range h
  cases hl : isL c with
  | false => rfl
  | true => have := isL_range hl; omega

theorem dec_num {u : Nat} (h : u ≤ 999999) : numOk (Lib.decDigits u) = true ∧ numVal (Lib.decDigits u) = u ∧ nameOk (Lib.decDigits u) = false := by
  obtain ⟨h1, h2, h3, h4⟩ := decDigits_back u u (Nat.le_refl _)
  have h6 := (dec_six u).2 h
  refine ⟨?_, by rw [numVal, h1]; rfl, ?_⟩
  · rw [numOk, Bool.and_eq_true, Bool.and_eq_true, Bool.and_eq_true, decide_eq_true_iff, decide_eq_true_iff]
    refine ⟨⟨⟨h3, h6⟩, h2⟩, ?_⟩
    rw [Bool.not_eq_true', Bool.eq_false_iff, ne_eq, Bool.and_eq_true, beq_iff_eq, decide_eq_true_iff]
    rintro ⟨e, hlt⟩
    have := h4 e
    subst this
    rw [Lib.decDigits_one (by omega)] at hlt
    simp at hlt
  · rw [nameOk]
    cases hd : Lib.decDigits u with
    | nil => rw [hd] at h3; simp at h3
    | cons a t =>
      rw [hd, List.all_cons, Bool.and_eq_true] at h2
      rw [List.all_cons, isD_notL h2.1]; simp

/-- The text of a word is a word, and says the token. -/
theorem word_tok {t : S35} {s : List UInt8} (h : txtO t = some s) (h1 : t.f0 ≠ 1) (h2 : t.f0 ≠ 2) :
    s.all isLD = true ∧ 1 ≤ s.length ∧ wordR s = (t.f0, t.f1, t.f3.data.toList, true) := by
  have up : ∀ {l : List UInt8}, l.all isL = true → l.all isLD = true := by
    intro l hl
    rw [List.all_eq_true] at hl ⊢
    intro x hx; rw [isLD, hl x hx]; rfl
  have upd : ∀ {l : List UInt8}, l.all isD = true → l.all isLD = true := by
    intro l hl
    rw [List.all_eq_true] at hl ⊢
    intro x hx; rw [isLD, hl x hx]; simp
  unfold txtO at h
  rw [if_neg h1, if_neg h2] at h
  split at h
  · rename_i h3
    split at h
    · rename_i hn
      cases h
      have hk := hn.2
      rw [nameOk, Bool.and_eq_true, Bool.and_eq_true, decide_eq_true_iff, decide_eq_true_iff] at hk
      refine ⟨up hk.2, hk.1.1, ?_⟩
      unfold wordR
      rw [if_pos hn.2, h3, hn.1]
    · cases h
  · split at h
    · rename_i h4
      split at h
      · rename_i hn
        cases h
        obtain ⟨a1, a2, a3⟩ := dec_num (u := t.f1.toNat) (by omega)
        obtain ⟨_, b2, b3, _⟩ := decDigits_back t.f1.toNat _ (Nat.le_refl _)
        refine ⟨upd b2, b3, ?_⟩
        unfold wordR
        rw [a3, a1, a2, h4, hn.2.2, Int.toNat_of_nonneg hn.1]
        rfl
      · cases h
    · split at h
      · rename_i h5
        split at h
        · rename_i hn
          cases h
          obtain ⟨a1, a2, a3⟩ := dec_num (u := t.f1.toNat) (by omega)
          obtain ⟨_, b2, b3, _⟩ := decDigits_back t.f1.toNat _ (Nat.le_refl _)
          refine ⟨by rw [List.all_cons, upd b2]; rfl, by simp, ?_⟩
          have n1 : nameOk (120 :: Lib.decDigits t.f1.toNat) = false := by
            rw [nameOk, List.all_cons]
            cases hd : Lib.decDigits t.f1.toNat with
            | nil => rw [hd] at b3; simp at b3
            | cons a r =>
              rw [hd, List.all_cons, Bool.and_eq_true] at b2
              rw [List.all_cons, isD_notL b2.1]; simp
          have n2 : numOk (120 :: Lib.decDigits t.f1.toNat) = false := by
            rw [numOk, List.all_cons, show isD 120 = false from by decide]; simp
          unfold wordR
          rw [n1, n2, h5, hn.2.2]
          simp only [Bool.false_eq_true, if_false, if_true, numR, a1, a2]
          rw [Int.toNat_of_nonneg hn.1]
        · cases h
      · cases h

/-- The tokens with the places that their text gives them. -/
def putP (prev : Option Int) (pos : Int) : List S35 → List S35
  | [] => []
  | t :: r => ⟨t.f0, t.f1, pos + (if sepB prev t.f0 then 1 else 0), t.f3⟩ :: putP (some t.f0) (pos + (if sepB prev t.f0 then 1 else 0) + ((txtO t).getD []).length) r

/-- What stands behind a word is no letter and no digit. -/
def Stops (bs : List UInt8) : Prop := ∀ c, bs.head? = some c → isLD c = false
theorem takeWhile_stop {s rest : List UInt8} (hs : s.all isLD = true) (hr : Stops rest) : (s ++ rest).takeWhile isLD = s ∧ (s ++ rest).dropWhile isLD = rest := by
  induction s with
  | nil =>
    cases rest with
    | nil => exact ⟨rfl, rfl⟩
    | cons c r =>
      have := hr c rfl
      simp [this]
  | cons a t ih =>
    rw [List.all_cons, Bool.and_eq_true] at hs
    obtain ⟨h1, h2⟩ := ih hs.2
    simp [hs.1, h1, h2]

theorem stops_join {p : Int} (hp : p ≠ 1) {l : List S35} {bs : List UInt8} (h : joinF (some p) l = some bs) : Stops bs := by
  intro c hc
  cases l with
  | nil => simp [joinF] at h; subst h; simp at hc
  | cons t r =>
    rw [joinF] at h
    cases hs : txtO t with
    | none => rw [hs] at h; cases h
    | some s =>
      rw [hs] at h
      cases hj : joinF (some t.f0) r with
      | none => rw [hj] at h; cases h
      | some rest =>
        rw [hj] at h
        have e : (if sepB (some p) t.f0 then [32] else []) ++ s ++ rest = bs := Option.some.inj h
        subst e
        by_cases h2 : t.f0 = 2
        · have hsep : sepB (some p) t.f0 = false := by rw [sepB, h2]; simp
          have h41 : s = [41] := by
            unfold txtO at hs
            rw [if_neg (by omega), if_pos h2] at hs
            split at hs
            · cases hs; rfl
            · cases hs
          rw [hsep, h41] at hc
          simp at hc
          subst hc; decide
        · have hsep : sepB (some p) t.f0 = true := by
            rw [sepB, Bool.and_eq_true, bne_iff_ne, bne_iff_ne]; exact ⟨hp, h2⟩
          rw [hsep] at hc
          simp at hc
          subst hc; decide

theorem scan_join : ∀ (l : List S35) (prev : Option Int) (pos : Int) (bs : List UInt8) (n : Nat), joinF prev l = some bs → bs.length ≤ n → scanF n bs pos = some (putP prev pos l)
  | [], prev, pos, bs, n, h, hn => by
    simp [joinF] at h; subst h
    rw [scanF_nil]; rfl
  | t :: r, prev, pos, bs, n, h, hn => by
    rw [joinF] at h
    cases hs : txtO t with
    | none => rw [hs] at h; cases h
    | some s =>
      rw [hs] at h
      cases hj : joinF (some t.f0) r with
      | none => rw [hj] at h; cases h
      | some rest =>
        rw [hj] at h
        have e : (if sepB prev t.f0 then [32] else []) ++ s ++ rest = bs := Option.some.inj h
        -- without the space ahead
        have core : ∀ (m : Nat) (q : Int), s.length + rest.length ≤ m → scanF m (s ++ rest) q = some (⟨t.f0, t.f1, q, t.f3⟩ :: putP (some t.f0) (q + s.length) r) := by
          intro m q hm
          by_cases h1 : t.f0 = 1
          · unfold txtO at hs
            rw [if_pos h1] at hs
            split at hs
            · rename_i hk
              cases hs
              cases m with
              | zero => simp at hm
              | succ m =>
                have hf3 : t.f3 = ⟨#[]⟩ := by rw [← mk_data t.f3, hk.2]
                have ih := scan_join r (some t.f0) (q + 1) rest m hj (by simp at hm; omega)
                rw [List.singleton_append, scanF, if_neg (by decide), if_pos rfl, ih, h1, hk.1, hf3]
                rfl
            · cases hs
          · by_cases h2 : t.f0 = 2
            · unfold txtO at hs
              rw [if_neg h1, if_pos h2] at hs
              split at hs
              · rename_i hk
                cases hs
                cases m with
                | zero => simp at hm
                | succ m =>
                  have hf3 : t.f3 = ⟨#[]⟩ := by rw [← mk_data t.f3, hk.2]
                  have ih := scan_join r (some t.f0) (q + 1) rest m hj (by simp at hm; omega)
                  rw [List.singleton_append, scanF, if_neg (by decide), if_neg (by decide), if_pos rfl, ih, h2, hk.1, hf3]
                  rfl
              · cases hs
            · obtain ⟨w1, w2, w3⟩ := word_tok hs h1 h2
              obtain ⟨t1, t2⟩ := takeWhile_stop w1 (stops_join h1 hj)
              cases m with
              | zero => omega
              | succ m =>
                cases hsc : s with
                | nil => rw [hsc] at w2; simp at w2
                | cons c s' =>
                  rw [hsc] at w1 t1 t2 w3
                  rw [List.all_cons, Bool.and_eq_true] at w1
                  rw [List.cons_append] at t1 t2
                  have ih := scan_join r (some t.f0) (q + (c :: s').length) rest m hj (by rw [hsc] at hm; simp at hm; omega)
                  rw [List.cons_append, scanF_word _ _ _ _ w1.1, t1, t2, w3, if_pos rfl, ih]
                  simp only [Option.map_some, wtok, w3, mk_data]
        have hlen : ((txtO t).getD []).length = s.length := by rw [hs]; rfl
        rw [putP, hlen]
        cases hsep : sepB prev t.f0 with
        | false =>
          rw [hsep] at e
          simp only [Bool.false_eq_true, if_false, List.nil_append] at e
          subst e
          rw [List.length_append] at hn
          have := core n pos hn
          simpa using this
        | true =>
          rw [hsep] at e
          simp only [if_true, List.cons_append] at e
          subst e
          cases n with
          | zero => simp at hn
          | succ n =>
            rw [scanF, if_pos (.inl rfl)]
            simp only [List.length_cons, List.length_append] at hn
            have := core n (pos + 1) (by omega)
            simpa using this

end Go.Proofs.YthcllibbaindbaaDoor.Px
namespace Go.Proofs.YthcllibbaindbaaDoor.Px
open Go.RowKit Go.Proofs.YthcllibbaindbaaDoorW.PrintWords Go.Proofs.YthcllibbaindbaaDoorW.PrintLast Go.Proofs.YthcllibbaindbaaDoorW.PrintMore

/-- Tokens that have a text each. -/
def Valid (l : List S35) : Prop := ∀ t ∈ l, ∃ s, txtO t = some s
theorem join_valid : ∀ (l : List S35) (prev : Option Int), Valid l → ∃ bs, joinF prev l = some bs ∧ bs.length ≤ 18 * l.length
  | [], _, _ => ⟨[], rfl, by simp⟩
  | t :: r, prev, h => by
    obtain ⟨s, hs⟩ := h t (by simp)
    obtain ⟨rest, hr, hl⟩ := join_valid r (some t.f0) (fun x hx => h x (by simp [hx]))
    have := txtO_len _ _ hs
    refine ⟨(if sepB prev t.f0 then [32] else []) ++ s ++ rest, ?_, ?_⟩
    · rw [joinF, hs]; show (joinF (some t.f0) r).map _ = _; rw [hr]; rfl
    · rw [List.length_append, List.length_append, List.length_cons]
      split <;> simp <;> omega

theorem rdOf_mem {α : Type} (z : α) (l : List α) (i : Int) (h0 : 0 ≤ i) (h1 : i < l.length) : rdOf z l i ∈ l := by
  rw [rdOf, List.getD_eq_getElem?_getD, List.getElem?_eq_getElem (by omega)]
  exact List.getElem_mem _

theorem valid_app {l : List S35} {t : S35} {s : List UInt8} (h : Valid l) (ht : txtO t = some s) : Valid (l ++ [t]) := by
  intro x hx
  rcases List.mem_append.1 hx with h' | h'
  · exact h x h'
  · rw [List.mem_singleton] at h'; subst h'; exact ⟨s, ht⟩

theorem txt1 {a : Int} (h : a = 1) : txtO ⟨a, 0, 0, ⟨#[]⟩⟩ = some [40] := by subst h; rfl
theorem txt2 {a : Int} (h : a = 2) : txtO ⟨a, 0, 0, ⟨#[]⟩⟩ = some [41] := by subst h; rfl
theorem txt3 {a : Int} {s : ByteArray} (h : a = 3) (hs : nameOk s.data.toList = true) : txtO ⟨a, 0, 0, s⟩ = some s.data.toList := by
  subst h; unfold txtO; rw [if_neg (show ¬ (3 : Int) = 1 by decide), if_neg (show ¬ (3 : Int) = 2 by decide), if_pos rfl, if_pos ⟨rfl, hs⟩]
theorem txt4 {a n : Int} (h : a = 4) (h0 : 0 ≤ n) (h1 : n ≤ 999999) : txtO ⟨a, n, 0, ⟨#[]⟩⟩ = some (Lib.decDigits n.toNat) := by
  subst h; unfold txtO; rw [if_neg (show ¬ (4 : Int) = 1 by decide), if_neg (show ¬ (4 : Int) = 2 by decide), if_neg (show ¬ (4 : Int) = 3 by decide), if_pos rfl, if_pos ⟨h0, h1, rfl⟩]
theorem txt5 {a n : Int} (h : a = 5) (h0 : 0 ≤ n) (h1 : n ≤ 999999) : txtO ⟨a, n, 0, ⟨#[]⟩⟩ = some (120 :: Lib.decDigits n.toNat) := by
  subst h; unfold txtO; rw [if_neg (show ¬ (5 : Int) = 1 by decide), if_neg (show ¬ (5 : Int) = 2 by decide), if_neg (show ¬ (5 : Int) = 3 by decide), if_neg (show ¬ (5 : Int) = 4 by decide), if_pos rfl, if_pos ⟨h0, h1, rfl⟩]

theorem text_loop (l : List Int) (hl : l.length ≤ 1000) : ∀ (n : Nat) (xs : List S35) (pos : Int), Valid xs → xs.length + n ≤ 100 → 1 ≤ xs.length + n → 0 ≤ pos ∧ pos ≤ l.length →
    ∃ own pos', Ev (fun k => pl_text.l0 k xs ((n : Int) - 1) l pos) ((textR own).1, pos') ∧ Valid own ∧ 1 ≤ own.length ∧ own.length ≤ 100 ∧ 0 ≤ pos' ∧ pos' ≤ l.length
  | 0, xs, pos, hv, hn, h1, hp => by
    refine ⟨xs, pos, ?_, hv, by omega, by omega, hp⟩
    exact Ev.step (f := _) (fun k => by rw [pl_text.l0]) (evn (by omega) (Ev.bind (rText_ev xs) (Ev.now _)))
  | n + 1, xs, pos, hv, hn, h1, hp => by
    obtain ⟨v, pos', hw, h0, h5, h6⟩ := Next_f l pos 5 (by omega) (by omega) hp hl
    have hk : wrap64 (1 + v) = 1 + v := wrap_small (by omega) (by omega)
    have hd : wrap64 (((n + 1 : Nat) : Int) - 1 - 1) = (n : Int) - 1 := by rw [wrap_small (by omega) (by omega)]; omega
    have go : ∀ (t : S35) (s : List UInt8) (q : Int), txtO t = some s → 0 ≤ q ∧ q ≤ l.length → ∃ own pos', Ev (fun k => if xs.length < 3518437208883 then (pl_text.l0 k (xs ++ [t]) (wrap64 (((n + 1 : Nat) : Int) - 1 - 1)) l q) else none) ((textR own).1, pos') ∧ Valid own ∧ 1 ≤ own.length ∧ own.length ≤ 100 ∧ 0 ≤ pos' ∧ pos' ≤ l.length := by
      intro t s q ht hq
      obtain ⟨own, p2, h, r⟩ := text_loop l hl n (xs ++ [t]) q (valid_app hv ht) (by simp; omega) (by simp; omega) hq
      refine ⟨own, p2, ?_, r⟩
      rw [hd]
      exact evp (by omega) h
    have top : ∀ {R : ByteArray × Int}, Ev (fun k => if 1 + v = 3 then _ else _) R → Ev (fun k => pl_text.l0 k xs (((n + 1 : Nat) : Int) - 1) l pos) R := fun {R} h => by
      refine Ev.step (f := _) (fun k => by rw [pl_text.l0]) (evp (by omega) ?_)
      rw [hw]
      simp only [Option.bind_some]
      rw [hk]
      exact h
    by_cases h3 : 1 + v = 3
    · obtain ⟨j, p2, hj, j0, j1, j2⟩ := Next_f l pos' 7 (by omega) (by omega) h6 hl
      have hm := rdOf_mem ByteArray.empty [(⟨#[115, 117, 99, 99]⟩ : ByteArray), (⟨#[108, 97, 109]⟩ : ByteArray), (⟨#[110, 97, 116]⟩ : ByteArray), (⟨#[120]⟩ : ByteArray), (⟨#[112, 97, 105, 114]⟩ : ByteArray), (⟨#[101, 113]⟩ : ByteArray), (⟨#[97, 98, 99, 100, 101, 102, 103, 104, 105, 106, 107, 108, 109, 110, 111, 112]⟩ : ByteArray)] j j0 (by simpa using j1)
      have hok : ∀ b ∈ [(⟨#[115, 117, 99, 99]⟩ : ByteArray), (⟨#[108, 97, 109]⟩ : ByteArray), (⟨#[110, 97, 116]⟩ : ByteArray), (⟨#[120]⟩ : ByteArray), (⟨#[112, 97, 105, 114]⟩ : ByteArray), (⟨#[101, 113]⟩ : ByteArray), (⟨#[97, 98, 99, 100, 101, 102, 103, 104, 105, 106, 107, 108, 109, 110, 111, 112]⟩ : ByteArray)], nameOk b.data.toList = true := by decide
      have hname := hok _ hm
      obtain ⟨own, p3, h, r⟩ := go ⟨1 + v, 0, 0, _⟩ _ p2 (txt3 h3 hname) j2
      refine ⟨own, p3, top (evp h3 ?_), r⟩
      rw [hj]
      simp only [Option.bind_some]
      exact evp j0 (evp (by simpa using j1) h)
    · have nums : ∃ j p2, pm_Deck_Next.f l pos' 6 = some (j, p2) ∧ 0 ≤ j ∧ j < 6 ∧ (0 ≤ p2 ∧ p2 ≤ l.length) ∧ 0 ≤ rd [0, 1, 7, 12, 305, 999999] j ∧ rd [0, 1, 7, 12, 305, 999999] j ≤ 999999 := by
        obtain ⟨j, p2, hj, j0, j1, j2⟩ := Next_f l pos' 6 (by omega) (by omega) h6 hl
        refine ⟨j, p2, hj, j0, j1, j2, ?_⟩
        obtain ⟨m, rfl⟩ := Int.eq_ofNat_of_zero_le j0
        have : ∀ m : Nat, m < 6 → 0 ≤ rd [0, 1, 7, 12, 305, 999999] (m : Int) ∧ rd [0, 1, 7, 12, 305, 999999] (m : Int) ≤ 999999 := by decide
        exact this m (by omega)
      by_cases h4 : 1 + v = 4
      · obtain ⟨j, p2, hj, j0, j1, j2, b0, b1⟩ := nums
        obtain ⟨own, p3, h, r⟩ := go ⟨1 + v, rd [0, 1, 7, 12, 305, 999999] j, 0, ⟨#[]⟩⟩ _ p2 (txt4 h4 b0 b1) j2
        refine ⟨own, p3, top (evn h3 (evp h4 ?_)), r⟩
        rw [hj]
        simp only [Option.bind_some]
        exact evp j0 (evp (by simpa using j1) h)
      · by_cases h5' : 1 + v = 5
        · obtain ⟨j, p2, hj, j0, j1, j2, b0, b1⟩ := nums
          obtain ⟨own, p3, h, r⟩ := go ⟨1 + v, rd [0, 1, 7, 12, 305, 999999] j, 0, ⟨#[]⟩⟩ _ p2 (txt5 h5' b0 b1) j2
          refine ⟨own, p3, top (evn h3 (evn h4 (evp h5' ?_))), r⟩
          rw [hj]
          simp only [Option.bind_some]
          exact evp j0 (evp (by simpa using j1) h)
        · have : ∃ s, txtO (⟨1 + v, 0, 0, ⟨#[]⟩⟩ : S35) = some s := by
            by_cases e1 : 1 + v = 1
            · exact ⟨[40], txt1 e1⟩
            · exact ⟨[41], txt2 (by omega)⟩
          obtain ⟨s, hs⟩ := this
          obtain ⟨own, p3, h, r⟩ := go ⟨1 + v, 0, 0, ⟨#[]⟩⟩ s pos' hs h6
          exact ⟨own, p3, top (evn h3 (evn h4 (evn h5' h))), r⟩

theorem text_ev2 (l : List Int) (hl : l.length ≤ 1000) (pos : Int) (hp : 0 ≤ pos ∧ pos ≤ l.length) :
    ∃ own pos', Ev (fun k => pl_text.f k l pos) ((textR own).1, pos') ∧ Valid own ∧ 1 ≤ own.length ∧ own.length ≤ 100 ∧ 0 ≤ pos' ∧ pos' ≤ l.length := by
  obtain ⟨v, p1, hv, h0, h1, h2⟩ := Next_f l pos 12 (by omega) (by omega) hp hl
  obtain ⟨own, p2, h, r⟩ := text_loop l hl (v.toNat + 1) [] p1 (fun _ h => by cases h) (by simp; omega) (by simp) h2
  refine ⟨own, p2, ?_, r⟩
  unfold pl_text.f
  rw [hv]
  simp only [Option.bind_some]
  have : ((v.toNat + 1 : Nat) : Int) - 1 = v := by omega
  rw [this] at h
  exact h

theorem text_ev (l : List Int) (hl : l.length ≤ 1000) (pos : Int) (hp : 0 ≤ pos ∧ pos ≤ l.length) :
    ∃ own pos', Ev (fun k => pl_text.f k l pos) ((textR own).1, pos') ∧ Valid own ∧ 1 ≤ own.length ∧ own.length ≤ 100 := by
  obtain ⟨own, p, h1, h2, h3, h4, _⟩ := text_ev2 l hl pos hp
  exact ⟨own, p, h1, h2, h3, h4⟩

theorem txtO_int {t : S35} {s : List UInt8} (h : txtO t = some s) : intB t = true := by
  have : -9223372036854775808 ≤ t.f1 ∧ t.f1 ≤ 9223372036854775807 := by
    unfold txtO at h
    split at h
    · split at h
      · omega
      · cases h
    · split at h
      · split at h
        · omega
        · cases h
      · split at h
        · split at h
          · omega
          · cases h
        · split at h
          · split at h
            · omega
            · cases h
          · split at h
            · split at h
              · omega
              · cases h
            · cases h
  rw [intB, decide_eq_true this.1, decide_eq_true this.2]; rfl
theorem wrap_id {x : Int} (h0 : 0 ≤ x) (h1 : x ≤ 1000000) : wrap64 x = x := wrap_small (by omega) (by omega)

theorem putP_len : ∀ (l : List S35) (prev : Option Int) (p : Int), (putP prev p l).length = l.length
  | [], _, _ => rfl
  | t :: r, prev, p => by rw [putP, List.length_cons, putP_len r, List.length_cons]

theorem textR_valid {own : List S35} (h : Valid own) (hl : own.length ≤ 100) : ∃ bs, joinF none own = some bs ∧ textR own = (⟨bs.toArray⟩, 0) ∧ bs.length ≤ 1800 := by
  obtain ⟨bs, hb, hn⟩ := join_valid own none h
  exact ⟨bs, hb, by rw [textR_eq, if_neg (by omega), endR, hb], by omega⟩

theorem tokR_join {own : List S35} {bs : List UInt8} (h : joinF none own = some bs) (hb : bs.length ≤ 8192) (hl : own.length ≤ 2048) : tokR bs = (putP none 0 own, 0) := by
  unfold tokR
  rw [if_neg (by omega), scan, scan_join own none 0 bs bs.length h (Nat.le_refl _), outT]
  simp only [List.length_nil, Nat.zero_add, List.nil_append]
  rw [putP_len, if_neg (by omega)]

end Go.Proofs.YthcllibbaindbaaDoor.Px
namespace Go.Proofs.YthcllibbaindbaaDoor.Px
open Go.RowKit Go.Proofs.YthcllibbaindbaaDoorW.PrintWords Go.Proofs.YthcllibbaindbaaDoorW.PrintLast Go.Proofs.YthcllibbaindbaaDoorW.PrintMore

def lexis_Same.f (k : Nat) (l0 : List (S35)) (l1 : List (S35)) : Option (Bool) := api_Token.f k l0 l1
theorem lexis_Same.mono : ∀ l0 l1 k, LeO (lexis_Same.f k l0 l1) (lexis_Same.f (k + 1) l0 l1) := api_Token.mono
set_option maxHeartbeats 4000000 in
set_option maxRecDepth 100000 in
theorem lexis_Same.calls (k : Nat) (A0 : Option Addr) (c0 : Nat) (l0 : List (S35)) (A1 : Option Addr) (c1 : Nat) (l1 : List (S35)) (r : Bool) (w : World) (hr0 : Kd.C k35 w A0 l0.length l0) (hc0 : l0.length ≤ c0) (hr1 : Kd.C k35 w A1 l1.length l1) (hc1 : l1.length ≤ c1) (h : lexis_Same.f k l0 l1 = some r) :
    Calls Tryd.prog 15 #[.slice A0 l0.length c0, .slice A1 l1.length c1] w fun e w' => e = .returned (.bool r) ∧ Below w.heap.size w w' := by
  have HR0 := Aside0.mk hr0
  have HC0 := Aside0.mk hc0
  have HR1 := Aside0.mk hr1
  have HC1 := Aside0.mk hc1
  have AK := Aside0.mk (show api_Token.f k l0 l1 = some r from h)
  clear hr0 hc0 hr1 hc1 h
  go_enter Tryd.func15, Tryd.ntmps15
  go_wp2_with (go_at_call 27; (with_reducible refine (api_Token.calls k A0 c0 l0 A1 c1 l1 r _ HR0.out HC0.out HR1.out HC1.out AK.out).mono ?_); rintro e w1 ⟨rfl, hb⟩; have HB := Aside0.mk hb; clear hb)
  go_ret
  exact ⟨rfl, HB.out⟩
end Go.Proofs.YthcllibbaindbaaDoor.Px
namespace Go.Proofs.YthcllibbaindbaaDoor.Px
open Go.RowKit Go.Lib Go.Proofs.YthcllibbaindbaaDoorW.PrintWords Go.Proofs.YthcllibbaindbaaDoorW.PrintLast Go.Proofs.YthcllibbaindbaaDoorW.PrintMore

theorem num_notName {l : List UInt8} (h : numOk l = true) : nameOk l = false := by
  cases l with
  | nil => simp [numOk] at h
  | cons c r =>
    simp only [numOk, Bool.and_eq_true, List.all_cons] at h
    have hc := isD_notL h.1.2.1
    simp [nameOk, hc]
theorem numx_notName {r : List UInt8} (h : numOk r = true) : nameOk (120 :: r) = false := by
  cases r with
  | nil => simp [numOk] at h
  | cons c r =>
    simp only [numOk, Bool.and_eq_true, List.all_cons] at h
    have hc := isD_notL h.1.2.1
    simp [nameOk, hc]

theorem rword_ev (s : ByteArray) (hs : 1 ≤ s.size) (pos : Int) : ∃ r, Ev (fun k => pr_word.f k s pos) r ∧ r.2.2.2.2 = (wordR s.data.toList).2.2.2 ∧ (r.2.2.2.2 = true → (⟨r.1, r.2.1, r.2.2.1, r.2.2.2.1⟩ : S35) = wtok s.data.toList pos) := by
  have hnm : ∀ (x : Bool), (numOk s.data.toList = false) → (x = true → ∀ r, s.data.toList = 120 :: r → numOk r = false) → (x = false → ∀ r, s.data.toList = 120 :: r → r = []) →
      ∃ r, Ev (fun _ => some (3, 0, pos, s, nameOk s.data.toList)) r ∧ r.2.2.2.2 = (wordR s.data.toList).2.2.2 ∧ (r.2.2.2.2 = true → (⟨r.1, r.2.1, r.2.2.1, r.2.2.2.1⟩ : S35) = wtok s.data.toList pos) := by
    intro x hn h1 h2
    refine ⟨_, Ev.now _, ?_, fun h => ?_⟩
    · show nameOk s.data.toList = _
      unfold wordR
      cases hk : nameOk s.data.toList with
      | true => rfl
      | false =>
        rw [if_neg (by simp), hn, if_neg (by simp)]
        cases hd : s.data.toList with
        | nil => rfl
        | cons c r =>
          by_cases hc : c = 120
          · subst hc
            show false = (if (120 : UInt8) = 120 then ((5 : Int), (numR r).1, ([] : List UInt8), (numR r).2) else (0, 0, [], false)).2.2.2
            rw [if_pos rfl]
            cases x with
            | true => simp [numR, h1 rfl r hd]
            | false => rw [h2 rfl r hd]; simp [numR, numOk]
          · show false = (if c = 120 then ((5 : Int), (numR r).1, ([] : List UInt8), (numR r).2) else (0, 0, [], false)).2.2.2
            rw [if_neg hc]
    · have hk : nameOk s.data.toList = true := h
      show (⟨3, 0, pos, s⟩ : S35) = wtok s.data.toList pos
      unfold wtok wordR
      rw [if_pos hk]
  cases hn : numOk s.data.toList with
  | true =>
    refine ⟨(4, numVal s.data.toList, pos, (⟨#[]⟩ : ByteArray), true), ?_, ?_, fun _ => ?_⟩
    · unfold pr_word.f
      refine Ev.bind (number_ev s) ?_
      unfold numR
      rw [hn]
      exact evp rfl (Ev.now _)
    · unfold wordR; rw [num_notName hn, if_neg (by simp), hn, if_pos rfl]
    · unfold wtok wordR; rw [num_notName hn, if_neg (by simp), hn, if_pos rfl]
  | false =>
    cases hd : s.data.toList with
    | nil => have := len_data s; rw [hd] at this; simp at this; omega
    | cons c rr =>
      have hb0 : bt s 0 = (c.toNat : Int) := by
        have h0 := bt_get s 0 (by omega)
        have h1 := toList_at s 0 (by omega)
        rw [hd] at h1
        have e : c = s.get! 0 := by simpa using h1
        rw [e]; exact_mod_cast h0
      have hbe := byte_eq c 120 (by omega)
      have hsz : s.size = rr.length + 1 := by have := len_data s; rw [hd] at this; simpa using this.symm
      rw [← hd]
      have start : ∀ {r}, Ev (fun k => if 0 < (s.size : Int) then (if (bt s 0) = 120 then (pr_word.j0 k s pos (decide ((s.size : Int) > 1))) else (pr_word.j0 k s pos false)) else (none)) r → Ev (fun k => pr_word.f k s pos) r := by
        intro r h
        unfold pr_word.f
        refine Ev.bind (number_ev s) ?_
        unfold numR
        rw [hn]
        exact evn (by simp) h
      have plain : ∀ {r}, Ev (fun _ => some (3, 0, pos, s, nameOk s.data.toList)) r → Ev (fun k => pr_word.j0 k s pos false) r := fun h =>
        Ev.step (fun k => by rw [pr_word.j0]) (evn (by simp) (Ev.bind (Name_ev s) h))
      by_cases hc : c = 120
      · by_cases h1 : (s.size : Int) > 1
        · have hx : (s.extract 1 s.size).data.toList = rr := by
            rw [Lib.extract_data, hd]
            show rr.take (s.size - 1) = rr
            rw [List.take_of_length_le (by omega)]
          have he := number_ev (s.extract 1 s.size)
          rw [hx] at he
          cases hr : numOk rr with
          | true =>
            refine ⟨(5, numVal rr, pos, (⟨#[]⟩ : ByteArray), true), start (evp (by omega) (evp (by rw [hb0]; exact hbe.2 hc) ?_)), ?_, fun _ => ?_⟩
            · rw [decide_eq_true h1]
              refine Ev.step (f := _) (fun k => by rw [pr_word.j0]) (evp rfl (evp (by omega) (Ev.bind he ?_)))
              unfold numR
              rw [hr]
              exact evp rfl (Ev.now _)
            · unfold wordR
              rw [hn, hd, hc, numx_notName hr, if_neg (by simp), if_neg (by simp)]
              simp [numR, hr]
            · unfold wtok wordR
              rw [hn, hd, hc, numx_notName hr, if_neg (by simp), if_neg (by simp)]
              simp [numR, hr]
          | false =>
            obtain ⟨r, g1, g2, g3⟩ := hnm true hn (fun _ r' h' => by rw [hd] at h'; cases h'; exact hr) (fun h => by cases h)
            refine ⟨r, start (evp (by omega) (evp (by rw [hb0]; exact hbe.2 hc) ?_)), g2, g3⟩
            rw [decide_eq_true h1]
            refine Ev.step (f := _) (fun k => by rw [pr_word.j0]) (evp rfl (evp (by omega) (Ev.bind he ?_)))
            unfold numR
            rw [hr]
            exact evn (by simp) (Ev.bind (Name_ev s) g1)
        · obtain ⟨r, g1, g2, g3⟩ := hnm false hn (fun h => by cases h) (fun _ r' h' => by
            rw [hd] at h'; cases h'
            exact List.eq_nil_of_length_eq_zero (by omega))
          refine ⟨r, start (evp (by omega) (evp (by rw [hb0]; exact hbe.2 hc) ?_)), g2, g3⟩
          rw [decide_eq_false h1]
          exact plain g1
      · obtain ⟨r, g1, g2, g3⟩ := hnm false hn (fun h => by cases h) (fun _ r' h' => by rw [hd] at h'; cases h'; exact absurd rfl hc)
        exact ⟨r, start (evp (by omega) (evn (by rw [hb0]; exact fun h => hc (hbe.1 h)) (plain g1))), g2, g3⟩

theorem rfin_ev (s : ByteArray) (hs : s.size ≤ 8192) (xs : List S35) (i : Nat) (hi : i < s.size) (hx : xs.length ≤ i) {R : List S35 × Int}
    (rest : (wordR ((s.data.toList.drop i).takeWhile isLD)).2.2.2 = true → Ev (fun k => pr_Tokens.l0 k s (xs ++ [wtok ((s.data.toList.drop i).takeWhile isLD) i]) ((i + ((s.data.toList.drop i).takeWhile isLD).length : Nat) : Int)) R) :
    Ev (fun k => pr_Tokens.j3 k s xs i ((i + ((s.data.toList.drop i).takeWhile isLD).length : Nat) : Int)) (if (wordR ((s.data.toList.drop i).takeWhile isLD)).2.2.2 then R else ([], 15)) := by
  have hlen := takeWhile_append_dropWhile_len (s.data.toList.drop i) isLD
  rw [List.length_drop, len_data] at hlen
  refine Ev.step (f := _) (fun k => by rw [pr_Tokens.j3]) ?_
  by_cases h0 : ((s.data.toList.drop i).takeWhile isLD).length = 0
  · refine evp (by omega) ?_
    rw [List.eq_nil_of_length_eq_zero h0, wordR_nil]
    exact Ev.now _
  · refine evn (by omega) (evp (by omega) (evp (by omega) (evp (by omega) ?_)))
    have hw : (s.extract (i : Int).toNat ((i + ((s.data.toList.drop i).takeWhile isLD).length : Nat) : Int).toNat).data.toList = (s.data.toList.drop i).takeWhile isLD := by
      rw [Lib.extract_data]
      simp only [Int.toNat_natCast]
      rw [Nat.add_sub_cancel_left]
      exact take_takeWhile_len _ _
    obtain ⟨r, g1, g2, g3⟩ := rword_ev (s.extract (i : Int).toNat ((i + ((s.data.toList.drop i).takeWhile isLD).length : Nat) : Int).toNat) (by rw [← len_data, hw]; omega) i
    rw [hw] at g2 g3
    refine Ev.bind g1 ?_
    cases hb : (wordR ((s.data.toList.drop i).takeWhile isLD)).2.2.2 with
    | true =>
      rw [hb] at g2
      refine evp g2 (evp (by omega) ?_)
      rw [g3 g2]
      exact rest hb
    | false =>
      rw [hb] at g2
      exact evn (by rw [g2]; simp) (Ev.now _)

theorem rl1_ev (s : ByteArray) (hs : s.size ≤ 8192) (xs : List S35) (i : Nat) (hi : i < s.size) (hx : xs.length ≤ i) {R : List S35 × Int}
    (rest : (wordR ((s.data.toList.drop i).takeWhile isLD)).2.2.2 = true → Ev (fun k => pr_Tokens.l0 k s (xs ++ [wtok ((s.data.toList.drop i).takeWhile isLD) i]) ((i + ((s.data.toList.drop i).takeWhile isLD).length : Nat) : Int)) R) :
    ∀ (d j : Nat), i ≤ j → j + d = i + ((s.data.toList.drop i).takeWhile isLD).length →
      Ev (fun k => pr_Tokens.l1 k s xs i j) (if (wordR ((s.data.toList.drop i).takeWhile isLD)).2.2.2 then R else ([], 15)) := by
  have hlen := takeWhile_append_dropWhile_len (s.data.toList.drop i) isLD
  rw [List.length_drop, len_data] at hlen
  intro d
  induction d with
  | zero =>
    intro j hij hj
    rw [Nat.add_zero] at hj
    subst hj
    have hf := rfin_ev s hs xs i hi hx rest
    refine Ev.step (f := _) (fun k => by rw [pr_Tokens.l1]) ?_
    by_cases hlt : ((i + ((s.data.toList.drop i).takeWhile isLD).length : Nat) : Int) < (s.size : Int)
    · have hlt' : i + ((s.data.toList.drop i).takeWhile isLD).length < s.size := by omega
      simp only [if_pos hlt, if_pos (show (0 : Int) ≤ ((i + ((s.data.toList.drop i).takeWhile isLD).length : Nat) : Int) by omega)]
      have hb := bt_get s _ hlt'
      have hnot : isLD (s.get! (i + ((s.data.toList.drop i).takeWhile isLD).length)) = false := by
        have h1 := drop_takeWhile_len (s.data.toList.drop i) isLD
        rw [List.drop_drop, drop_cons s _ hlt'] at h1
        have h2 := List.head?_dropWhile_not isLD (s.data.toList.drop i)
        rw [← h1] at h2
        simpa using h2
      rw [isLD, Bool.or_eq_false_iff] at hnot
      rw [hb, rletter_f, rdigit_f]
      rw [show letterP (s.get! (i + ((s.data.toList.drop i).takeWhile isLD).length)).toNat = false from hnot.1, show digitP (s.get! (i + ((s.data.toList.drop i).takeWhile isLD).length)).toNat = false from hnot.2]
      simp only [Option.bind_some, Bool.false_eq_true, if_false]
      exact hf
    · simp only [if_neg hlt]
      exact hf
  | succ d ih =>
    intro j hij hj
    have hlt : j < s.size := by omega
    have hyes : isLD (s.get! j) = true := by
      have h1 : j - i < ((s.data.toList.drop i).takeWhile isLD).length := by omega
      have h2 := List.all_takeWhile (p := isLD) (l := s.data.toList.drop i)
      rw [List.all_eq_true] at h2
      have h3 := h2 _ (List.getElem_mem h1)
      have h4 : ((s.data.toList.drop i).takeWhile isLD)[j - i]? = (s.data.toList.drop i)[j - i]? := by
        rw [← take_takeWhile_len, List.getElem?_take, if_pos h1]
      rw [List.getElem?_eq_getElem h1, List.getElem?_drop, show i + (j - i) = j by omega, toList_at s j hlt] at h4
      rw [Option.some.inj h4] at h3
      exact h3
    have nx := ih (j + 1) (by omega) (by omega)
    refine Ev.step (f := _) (fun k => by rw [pr_Tokens.l1]) ?_
    have hb := bt_get s j hlt
    simp only [if_pos (show (j : Int) < (s.size : Int) by omega), if_pos (show (0 : Int) ≤ (j : Int) by omega)]
    rw [hb, rletter_f, rdigit_f, wrap_small (x := (j : Int) + 1) (by omega) (by omega)]
    rw [isLD, Bool.or_eq_true] at hyes
    simp only [Option.bind_some]
    cases hL : letterP (s.get! j).toNat with
    | true => simp only [if_true]; exact_mod_cast nx
    | false =>
      have hD : digitP (s.get! j).toNat = true := by
        rcases hyes with h | h
        · rw [isL, hL] at h; cases h
        · exact h
      simp only [Bool.false_eq_true, if_false, hD, if_true]
      exact_mod_cast nx

theorem rl0_ev (s : ByteArray) (hs : s.size ≤ 8192) : ∀ (n i : Nat) (xs : List S35), s.size - i ≤ n → i ≤ s.size → xs.length ≤ i →
    Ev (fun k => pr_Tokens.l0 k s xs i) (outT xs (scanF n (s.data.toList.drop i) i)) := by
  have last : ∀ (xs : List S35), outT xs (some []) = if (xs.length : Int) > 2048 then ([], 3) else (xs, 0) := by
    intro xs
    simp only [outT, List.length_nil, Nat.add_zero, List.append_nil]
    by_cases h : xs.length > 2048
    · rw [if_pos h, if_pos (by omega)]
    · rw [if_neg h, if_neg (by omega)]
  intro n
  induction n with
  | zero =>
    intro i xs h1 h2 hx
    refine Ev.step (f := _) (fun k => by rw [pr_Tokens.l0]) ?_
    simp only [if_neg (show ¬ (i : Int) < (s.size : Int) by omega), scanF]
    rw [last]
    split <;> exact Ev.now _
  | succ n ih =>
    intro i xs h1 h2 hx
    by_cases hlt : i < s.size
    · have hb : bt s i = ((s.get! i).toNat : Int) := bt_get s i hlt
      have e32 := byte_eq (s.get! i) 32 (by omega)
      have e10 := byte_eq (s.get! i) 10 (by omega)
      have e40 := byte_eq (s.get! i) 40 (by omega)
      have e41 := byte_eq (s.get! i) 41 (by omega)
      rw [drop_cons s i hlt]
      have top : ∀ {R : List S35 × Int}, Ev (fun k => pr_Tokens.j1 k s xs i (decide (s.get! i = 32 ∨ s.get! i = 10))) R → Ev (fun k => pr_Tokens.l0 k s xs i) R := by
        intro R h
        refine Ev.step (f := _) (fun k => by rw [pr_Tokens.l0]) ?_
        simp only [if_pos (show (i : Int) < (s.size : Int) by omega), if_pos (show (0 : Int) ≤ (i : Int) by omega)]
        by_cases h32 : s.get! i = 32
        · refine Ev_pos (by rw [hb]; exact e32.2 h32) ?_
          simpa [h32] using h
        · refine Ev_neg (by rw [hb]; exact fun h => h32 (e32.1 h)) ?_
          have : (bt s i == 10) = decide (s.get! i = 32 ∨ s.get! i = 10) := by
            rw [Bool.eq_iff_iff, beq_iff_eq, decide_eq_true_iff, hb]
            exact ⟨fun h => .inr (e10.1 h), fun h => h.elim (fun h => absurd h h32) e10.2⟩
          rw [this]; exact h
      refine top (Ev.step (f := _) (fun k => by rw [pr_Tokens.j1]) ?_)
      rw [wrap_small (x := (i : Int) + 1) (by omega) (by omega)]
      simp only [scanF]
      by_cases hsp : s.get! i = 32 ∨ s.get! i = 10
      · rw [if_pos hsp]
        refine Ev_pos (by simpa using hsp) ?_
        exact_mod_cast ih (i + 1) xs (by omega) (by omega) (by omega)
      · rw [if_neg hsp]
        refine Ev_neg (by simpa using hsp) (Ev_pos (by omega) (Ev_pos (by omega) ?_))
        by_cases h40 : s.get! i = 40
        · rw [if_pos h40, outT_cons]
          refine Ev_pos (by rw [hb]; exact e40.2 h40) (Ev_pos (by omega) ?_)
          exact_mod_cast ih (i + 1) _ (by omega) (by omega) (by rw [List.length_append]; simp; omega)
        · rw [if_neg h40]
          refine Ev_neg (by rw [hb]; exact fun h => h40 (e40.1 h)) ?_
          by_cases h41 : s.get! i = 41
          · rw [if_pos h41, outT_cons]
            refine Ev_pos (by rw [hb]; exact e41.2 h41) (Ev_pos (by omega) ?_)
            exact_mod_cast ih (i + 1) _ (by omega) (by omega) (by rw [List.length_append]; simp; omega)
          · rw [if_neg h41, ← drop_cons s i hlt]
            refine Ev_neg (by rw [hb]; exact fun h => h41 (e41.1 h)) ?_
            have hlen := takeWhile_append_dropWhile_len (s.data.toList.drop i) isLD
            rw [List.length_drop, len_data] at hlen
            cases hw : (wordR ((s.data.toList.drop i).takeWhile isLD)).2.2.2 with
            | true =>
              have hpos : 0 < ((s.data.toList.drop i).takeWhile isLD).length := by
                rcases Nat.eq_zero_or_pos ((s.data.toList.drop i).takeWhile isLD).length with h | h
                · rw [List.eq_nil_of_length_eq_zero h] at hw; simp [wordR_nil] at hw
                · exact h
              have rest := ih (i + ((s.data.toList.drop i).takeWhile isLD).length) (xs ++ [wtok ((s.data.toList.drop i).takeWhile isLD) i]) (by omega) (by omega) (by rw [List.length_append]; simp; omega)
              have := rl1_ev s hs xs i hlt hx (fun _ => rest) _ i (Nat.le_refl _) rfl
              rw [hw, if_pos rfl] at this
              rw [if_pos rfl, outT_cons, ← drop_takeWhile_len, List.drop_drop]
              exact_mod_cast this
            | false =>
              have := rl1_ev s hs xs i hlt hx (R := ([], 15)) (fun h => by rw [hw] at h; cases h) _ i (Nat.le_refl _) rfl
              rw [hw, if_neg (by simp)] at this
              simpa [outT] using this
    · refine Ev.step (f := _) (fun k => by rw [pr_Tokens.l0]) ?_
      simp only [if_neg (show ¬ (i : Int) < (s.size : Int) by omega)]
      have hd : s.data.toList.drop i = [] := List.drop_eq_nil_of_le (by rw [len_data]; omega)
      rw [hd]
      simp only [scanF]
      rw [last]
      split <;> exact Ev.now _

theorem rTokens_ev (s : ByteArray) : Ev (fun k => pr_Tokens.f k s) (tokR s.data.toList) := by
  unfold pr_Tokens.f tokR
  rw [len_data]
  by_cases h : s.size > 8192
  · simp only [if_pos (show (s.size : Int) > 8192 by omega), if_pos h]; exact Ev.now _
  · simp only [if_neg (show ¬ (s.size : Int) > 8192 by omega), if_neg h]
    have := rl0_ev s (by omega) s.size 0 [] (by omega) (by omega) (by simp)
    rw [List.drop_zero] at this
    unfold scan
    rw [len_data]
    exact_mod_cast this

/-! ### Comparisons -/
theorem same_self (a : List S35) (hb : a.length ≤ 100000) : ∀ (d : Nat) (i : Int), 0 ≤ i → (a.length : Int) - i = d → Ev (fun k => pl_same.l0 k a a (a.length : Int) i) true
  | 0, i, h0, hd => Ev.step (f := _) (fun k => by rw [pl_same.l0]) (evn (by omega) (Ev.now _))
  | d + 1, i, h0, hd => by
    have next := same_self a hb d (i + 1) (by omega) (by omega)
    refine Ev.step (f := _) (fun k => by rw [pl_same.l0]) (evp (by omega) (evp h0 (evp (by omega) (evp (by omega) (evn (by simp) ?_)))))
    rw [wrap_id (x := i + 1) (by omega) (by omega)]
    exact next
theorem lsame_ev (a : List S35) (hb : a.length ≤ 100000) : Ev (fun k => pl_same.f k a a) true := by
  unfold pl_same.f
  exact evp rfl (same_self a hb a.length 0 (by omega) (by omega))

/-- Are the lists equal but for the places, from i on? -/
def eqT (t u : S35) : Bool := t.f0 == u.f0 && (t.f1 == u.f1 && (t.f3.toList == u.f3.toList))
def sameF : Nat → List S35 → List S35 → Int → Bool
  | 0, _, _, _ => true
  | d + 1, a, b, i => if eqT (rd_T35 a i) (rd_T35 b i) then sameF d a b (i + 1) else false
def sameR (a b : List S35) : Bool := if a.length = b.length then sameF a.length a b 0 else false

theorem lexSame_loop (a b : List S35) (hl : a.length = b.length) (hb : a.length ≤ 100000) : ∀ (d : Nat) (i : Int), 0 ≤ i → (a.length : Int) - i = d → Ev (fun k => api_Token.l0 k b a (a.length : Int) i) (sameF d a b i)
  | 0, i, h0, hd => by
    show Ev (fun k => api_Token.l0 k b a (a.length : Int) i) true
    exact Ev.step (f := _) (fun k => by rw [api_Token.l0]) (evn (by omega) (Ev.now _))
  | d + 1, i, h0, hd => by
    have next := lexSame_loop a b hl hb d (i + 1) (by omega) (by omega)
    refine Ev.step (f := _) (fun k => by rw [api_Token.l0]) (evp (by omega) (evp h0 (evp (by omega) (evp (by omega) ?_))))
    rw [lexis_Same_1.f, wrap_id (x := i + 1) (by omega) (by omega)]
    simp only [Option.bind_some]
    rw [sameF]
    have e : ((rd_T35 a i).f0 == (rd_T35 b i).f0 && ((rd_T35 a i).f1 == (rd_T35 b i).f1 && ((rd_T35 a i).f3.toList == (rd_T35 b i).f3.toList))) = eqT (rd_T35 a i) (rd_T35 b i) := rfl
    rw [e]
    cases eqT (rd_T35 a i) (rd_T35 b i) with
    | true => exact evp rfl next
    | false => exact evn (by simp) (Ev.now _)
theorem lexSame_ev (a b : List S35) (hb : a.length ≤ 100000) : Ev (fun k => lexis_Same.f k a b) (sameR a b) := by
  show Ev (fun k => api_Token.f k a b) _
  unfold api_Token.f sameR
  by_cases h : a.length = b.length
  · rw [if_pos h]; exact evp (by rw [h]) (lexSame_loop a b h hb a.length 0 (by omega) (by omega))
  · rw [if_neg h]; exact evn (by omega) (Ev.now _)
theorem refSame_loop (a b : List S35) (hl : a.length = b.length) (hb : a.length ≤ 100000) : ∀ (d : Nat) (i : Int), 0 ≤ i → (a.length : Int) - i = d → Ev (fun k => pr_Same.l0 k a b (a.length : Int) i) (sameF d a b i)
  | 0, i, h0, hd => by
    show Ev (fun k => pr_Same.l0 k a b (a.length : Int) i) true
    exact Ev.step (f := _) (fun k => by rw [pr_Same.l0]) (evn (by omega) (Ev.now _))
  | d + 1, i, h0, hd => by
    have next := refSame_loop a b hl hb d (i + 1) (by omega) (by omega)
    refine Ev.step (f := _) (fun k => by rw [pr_Same.l0]) (evp (by omega) (evp h0 (evp (by omega) (evp (by omega) ?_))))
    rw [wrap_id (x := i + 1) (by omega) (by omega), sameF, eqT]
    by_cases h1 : (rd_T35 a i).f0 = (rd_T35 b i).f0
    · by_cases h2 : (rd_T35 a i).f1 = (rd_T35 b i).f1
      · by_cases h3 : (rd_T35 a i).f3.toList = (rd_T35 b i).f3.toList
        · simp only [h1, h2, h3, beq_self_eq_true, Bool.and_self]; exact evp trivial (evp trivial (evp trivial next))
        · rw [if_neg (by simp [h3])]; exact evp h1 (evp h2 (evn h3 (Ev.now _)))
      · rw [if_neg (by simp [h2])]; exact evp h1 (evn h2 (Ev.now _))
    · rw [if_neg (by simp [h1])]; exact evn h1 (Ev.now _)
theorem refSame_ev (a b : List S35) (hb : a.length ≤ 100000) : Ev (fun k => pr_Same.f k a b) (sameR a b) := by
  unfold pr_Same.f sameR
  by_cases h : a.length = b.length
  · rw [if_pos h]; exact evp (by rw [h]) (refSame_loop a b h hb a.length 0 (by omega) (by omega))
  · rw [if_neg h]; exact evn (by omega) (Ev.now _)

end Go.Proofs.YthcllibbaindbaaDoor.Px
namespace Go.Proofs.YthcllibbaindbaaDoor.Px
open Go.RowKit Go.Lib Go.Proofs.YthcllibbaindbaaDoorW.PrintWords Go.Proofs.YthcllibbaindbaaDoorW.PrintLast Go.Proofs.YthcllibbaindbaaDoorW.PrintMore
set_option linter.unusedVariables false
set_option linter.unusedSimpArgs false

theorem BRow.ne_own {w : World} {g gg : Nat} {l : List Int} {base : Nat} {ok : Nat → Prop} {n c : Nat} {xs : List S35} (h : BRow w g l) (ho : Kd.R k35 35 w base ok (.slice (some ⟨gg, 0, none⟩) n c) xs) : g ≠ gg := by
  obtain ⟨cur, fr, h, _⟩ := h
  obtain ⟨inner, ho⟩ := Kd.R_own ho
  obtain ⟨_, ho⟩ := ho
  rcases ho with ⟨he, _⟩ | ⟨g', cap, cur', he, _, hh, _⟩
  · injection he with he; cases he
  · injection he with he
    injection he with he
    injection he with he
    rintro rfl
    rw [← he, h] at hh
    injection hh with hh
    injection hh with _ ht
    exact absurd ht (by decide)

section
variable {P : Program} {ops : Array Oper} {o : Oper} {rest : List Oper} {a : Act} {Q : Exit → Act → World → Prop}
theorem lit_event {W : World} (hgd : o.guard = none) {N : Tmp} (_hd : o.dst = some N) {cs : Array Value} {t : TypeId} {n : Nat}
    (hrun : (execOp a.eval o).run P W = .ok (.value (.slice (some ⟨W.heap.size, 0, none⟩) n n)) (W.alloc (.cells cs t (0, 0))))
    (h : ∀ ad w1, (∀ j v, cs[j]? = some v → w1.cell? (ad.add j) = some v) → ad.block < w1.heap.size → Below W.heap.size W w1 → wpList P ops Q rest (a.put o.dst (.slice (some ad) n n)) w1) : wpList P ops Q (o :: rest) a W := by
  refine Kd.event_run hgd hrun (h _ _ (fun j v hj => ?_) ?_ (below_alloc (Below.refl _ _) _))
  · have e : (⟨W.heap.size, 0, none⟩ : Addr).add j = ⟨W.heap.size, j, none⟩ := by unfold Addr.add; split <;> simp_all
    rw [e]
    have := blk_new W (.cells cs t (0, 0))
    simp only [World.cell?, this]
    exact hj
  · show W.heap.size < (W.alloc (.cells cs t (0, 0))).heap.size
    simp [World.alloc, -World.alloc_eq]
end

theorem decFrom_lt : ∀ (l : List UInt8) (acc u : Nat), decFrom acc l = some u → u < (acc + 1) * 10 ^ l.length
  | [], acc, u, h => by
    have : acc = u := Option.some.inj h
    simp; omega
  | b :: r, acc, u, h => by
    unfold decFrom at h
    cases hd : digitVal b with
    | none => rw [hd] at h; cases h
    | some d =>
      rw [hd] at h
      have ih := decFrom_lt r _ u h
      have h9 : d ≤ 9 := by
        unfold digitVal at hd
        split at hd
        · have := Option.some.inj hd
          rename_i hc
          omega
        · cases hd
      have : (acc * 10 + d + 1) * 10 ^ r.length ≤ ((acc + 1) * 10) * 10 ^ r.length := Nat.mul_le_mul_right _ (by omega)
      rw [List.length_cons, Nat.pow_succ, Nat.mul_comm (10 ^ r.length) 10, ← Nat.mul_assoc]
      omega
theorem numVal_int {l : List UInt8} (h : numOk l = true) : 0 ≤ numVal l ∧ numVal l ≤ 999999 := by
  unfold numVal
  have hl : l.length ≤ 6 := by
    simp only [numOk, Bool.and_eq_true, decide_eq_true_eq] at h
    exact h.1.1.2
  cases hd : decFrom 0 l with
  | none => simp
  | some u =>
    have := decFrom_lt l 0 u hd
    have h6 : 10 ^ l.length ≤ 10 ^ 6 := Nat.pow_le_pow_right (by decide) hl
    simp only [Option.getD_some]
    have : u < 10 ^ 6 := by omega
    have e : (10 : Nat) ^ 6 = 1000000 := by decide
    rw [e] at this
    omega
theorem intB_of {t : S35} (h0 : 0 ≤ t.f1) (h1 : t.f1 ≤ 999999) : intB t = true := by
  rw [intB, Bool.and_eq_true, decide_eq_true_eq, decide_eq_true_eq]; omega
theorem word_int (w : List UInt8) (pos : Int) : intB (wtok w pos) = true := by
  have hr : ∀ r, 0 ≤ (numR r).1 ∧ (numR r).1 ≤ 999999 := by
    intro r
    unfold numR
    cases h : numOk r with
    | true => rw [if_pos rfl]; exact numVal_int h
    | false => rw [if_neg (by simp)]; simp
  have : 0 ≤ (wordR w).2.1 ∧ (wordR w).2.1 ≤ 999999 := by
    unfold wordR
    split
    · simp
    · split
      · rename_i h; exact numVal_int h
      · split
        · simp
        · split
          · exact hr _
          · simp
  exact intB_of this.1 this.2
theorem scanF_int : ∀ (n : Nat) (l : List UInt8) (pos : Int) (ts : List S35), scanF n l pos = some ts → ts.all intB = true
  | 0, l, pos, ts, h => by have : [] = ts := Option.some.inj h; subst this; rfl
  | _ + 1, [], pos, ts, h => by have : [] = ts := Option.some.inj h; subst this; rfl
  | n + 1, c :: r, pos, ts, h => by
    have cons : ∀ (o : Option (List S35)) (t : S35), o.map (t :: ·) = some ts → intB t = true → (∀ us, o = some us → us.all intB = true) → ts.all intB = true := by
      intro o t h1 h2 h3
      cases o with
      | none => cases h1
      | some us =>
        have e : t :: us = ts := Option.some.inj h1
        rw [← e, List.all_cons, h2, h3 us rfl]; rfl
    simp only [scanF] at h
    by_cases h1 : c = 32 ∨ c = 10
    · rw [if_pos h1] at h; exact scanF_int n r _ ts h
    · rw [if_neg h1] at h
      by_cases h2 : c = 40
      · rw [if_pos h2] at h; exact cons _ _ h (intB_of (by simp) (by simp)) (fun us hu => scanF_int n r _ us hu)
      · rw [if_neg h2] at h
        by_cases h3 : c = 41
        · rw [if_pos h3] at h; exact cons _ _ h (intB_of (by simp) (by simp)) (fun us hu => scanF_int n r _ us hu)
        · rw [if_neg h3] at h
          cases hw : (wordR ((c :: r).takeWhile isLD)).2.2.2 with
          | true => rw [hw, if_pos rfl] at h; exact cons _ _ h (word_int _ _) (fun us hu => scanF_int n _ _ us hu)
          | false => rw [hw, if_neg (by simp)] at h; cases h
theorem tokR_facts (l : List UInt8) : (tokR l).1.all intB = true ∧ (tokR l).1.length ≤ 2048 := by
  unfold tokR
  split
  · simp
  · cases hs : scan l with
    | none => simp [outT]
    | some t =>
      have := scanF_int _ _ _ _ hs
      rw [outT]; split
      · simp
      · rename_i h
        simp at h
        rw [List.nil_append]
        exact ⟨this, h⟩
theorem set_int {l : List S35} {t : S35} (h : l.all intB = true) (ht : intB t = true) (i : Nat) : (l.set i t).all intB = true := by
  rw [List.all_eq_true] at h ⊢
  intro x hx
  rcases List.mem_or_eq_of_mem_set hx with h1 | h1
  · exact h x h1
  · rw [h1]; exact ht

set_option maxHeartbeats 2000000 in
set_option maxRecDepth 100000 in
theorem does_early (A0 : Option Addr) (c0 : Nat) (l0 : List Int) (s : ByteArray) (A2 : Option Addr) (c2 : Nat) (l2 : List S35) (w : World) (hr0 : Kd.C (Kd.int .i64) w A0 l0.length l0) (hc0 : l0.length ≤ c0) (hLaid : Laid w)
    (hs : s.size ≤ 140737488351232) (hbig : 500 < l0.length ∨ 12000 < s.size ∨ 3000 < l2.length) :
    Calls Tryd.prog 6 #[.slice A0 l0.length c0, .string s, .slice A2 l2.length c2] w fun e w' => e = .returned (.bool true) ∧ Below w.heap.size w w' := by
  obtain ⟨ks, hsane⟩ := sane_ev.rounds
  have HSane := Aside0.mk hsane
  have HLaid := Aside0.mk hLaid
  have HR0 := Aside0.mk hr0
  have HC0 := Aside0.mk hc0
  clear hsane hLaid hr0 hc0
  by_cases h1 : 500 < l0.length
  · have hfew : pm_Few.f l0 = some false := by
      unfold pm_Few.f; simp; omega
    have HFew := Aside0.mk hfew
    clear hfew hbig hs h1
    go_enter Tryd.func6, Tryd.ntmps6
    go_wp2_with (first | ((with_reducible refine gate_callee (f := 8) rfl ?_); refine goesL_ (some 24) rfl rfl Tryd.func8 (by kernel_rfl) rfl #[] rfl (by (try simp only [List.map_toArray, List.map_cons, List.map_nil]); first | done | rfl) ?_; (with_reducible refine (pl_sane.calls ks true _ ?s1 HSane.out).mono ?_); (case s1 => exact HLaid.out); rintro e w1 ⟨rfl, hb⟩; refine ⟨_, rfl, ?_⟩; have HB := Aside0.mk hb; clear hb) | ((with_reducible refine gate_callee (f := 9) rfl ?_); refine goesL_ (some 27) rfl rfl Tryd.func9 (by kernel_rfl) rfl #[.slice A0 l0.length c0] rfl (by (try simp only [List.map_toArray, List.map_cons, List.map_nil]); first | done | rfl) ?_; (with_reducible refine (pm_Few.calls _ _ l0 false _ ?s1 ?s2 HFew.out).mono ?_); (case s1 => exact Kd.C_below HR0.out HB.out); (case s2 => exact HC0.out); rintro e w' ⟨rfl, ⟨nd, rfl⟩⟩; refine ⟨_, rfl, ?_⟩; skip))
    go_ret
    exact ⟨rfl, (by repeat (first | (with_reducible first | exact HB.out | apply below_alloc | apply pw_below_drewN | apply below_drew1) | exact HB.out))⟩
  · have hfew : pm_Few.f l0 = some true := by
      unfold pm_Few.f; simp; omega
    have HFew := Aside0.mk hfew
    by_cases h2 : 12000 < s.size
    · have h12 : decide (12000 < (s.size : Int)) = true := by simp; omega
      have h12n : decide (12000 < s.size) = true := by simp; omega
      clear hfew hbig hs h1 h2
      go_enter Tryd.func6, Tryd.ntmps6
      go_wp2_with (first | ((with_reducible refine gate_callee (f := 8) rfl ?_); refine goesL_ (some 24) rfl rfl Tryd.func8 (by kernel_rfl) rfl #[] rfl (by (try simp only [List.map_toArray, List.map_cons, List.map_nil]); first | done | rfl) ?_; (with_reducible refine (pl_sane.calls ks true _ ?s1 HSane.out).mono ?_); (case s1 => exact HLaid.out); rintro e w1 ⟨rfl, hb⟩; refine ⟨_, rfl, ?_⟩; have HB := Aside0.mk hb; clear hb) | ((with_reducible refine gate_callee (f := 9) rfl ?_); refine goesL_ (some 27) rfl rfl Tryd.func9 (by kernel_rfl) rfl #[.slice A0 l0.length c0] rfl (by (try simp only [List.map_toArray, List.map_cons, List.map_nil]); first | done | rfl) ?_; (with_reducible refine (pm_Few.calls _ _ l0 true _ ?s1 ?s2 HFew.out).mono ?_); (case s1 => exact Kd.C_below HR0.out HB.out); (case s2 => exact HC0.out); rintro e w' ⟨rfl, ⟨nd, rfl⟩⟩; refine ⟨_, rfl, ?_⟩; skip))
      go_ret
      exact ⟨rfl, (by repeat (first | (with_reducible first | exact HB.out | apply below_alloc | apply pw_below_drewN | apply below_drew1) | exact HB.out))⟩
    · have h12 : decide (12000 < (s.size : Int)) = false := by simp; omega
      have h12n : decide (12000 < s.size) = false := by simp; omega
      have h30 : decide (3000 < (l2.length : Int)) = true := by simp; omega
      have h30n : decide (3000 < l2.length) = true := by simp; omega
      clear hfew hbig hs h1 h2
      go_enter Tryd.func6, Tryd.ntmps6
      go_wp2_with (first | ((with_reducible refine gate_callee (f := 8) rfl ?_); refine goesL_ (some 24) rfl rfl Tryd.func8 (by kernel_rfl) rfl #[] rfl (by (try simp only [List.map_toArray, List.map_cons, List.map_nil]); first | done | rfl) ?_; (with_reducible refine (pl_sane.calls ks true _ ?s1 HSane.out).mono ?_); (case s1 => exact HLaid.out); rintro e w1 ⟨rfl, hb⟩; refine ⟨_, rfl, ?_⟩; have HB := Aside0.mk hb; clear hb) | ((with_reducible refine gate_callee (f := 9) rfl ?_); refine goesL_ (some 27) rfl rfl Tryd.func9 (by kernel_rfl) rfl #[.slice A0 l0.length c0] rfl (by (try simp only [List.map_toArray, List.map_cons, List.map_nil]); first | done | rfl) ?_; (with_reducible refine (pm_Few.calls _ _ l0 true _ ?s1 ?s2 HFew.out).mono ?_); (case s1 => exact Kd.C_below HR0.out HB.out); (case s2 => exact HC0.out); rintro e w' ⟨rfl, ⟨nd, rfl⟩⟩; refine ⟨_, rfl, ?_⟩; skip))
      go_ret
      exact ⟨rfl, (by repeat (first | (with_reducible first | exact HB.out | apply below_alloc | apply pw_below_drewN | apply below_drew1) | exact HB.out))⟩

set_option maxHeartbeats 8000000 in
set_option maxRecDepth 100000 in
theorem does_main (A0 : Option Addr) (c0 : Nat) (l0 : List Int) (s : ByteArray) (A2 : Option Addr) (c2 : Nat) (l2 : List S35) (w : World) (hr0 : Kd.C (Kd.int .i64) w A0 l0.length l0) (hc0 : l0.length ≤ c0) (hr2 : Kd.C k35 w A2 l2.length l2) (hc2 : l2.length ≤ c2) (hi2 : l2.all intB = true) (hLaid : Laid w)
    (h500 : l0.length ≤ 500) (hs : s.size ≤ 12000) (h3000 : l2.length ≤ 3000) :
    Calls Tryd.prog 6 #[.slice A0 l0.length c0, .string s, .slice A2 l2.length c2] w fun e w' => e = .returned (.bool true) ∧ Below w.heap.size w w' := by
  obtain ⟨ks, hsane⟩ := sane_ev.rounds
  have hfew : pm_Few.f l0 = some true := by
    unfold pm_Few.f; simp; omega
  obtain ⟨own, p1, hown, hv, ho1, ho2, hp1, hp1'⟩ := text_ev2 l0 (by omega) 0 (by omega)
  obtain ⟨bs, hjb, htx, hbl⟩ := textR_valid hv ho2
  rw [htx] at hown
  obtain ⟨kt, htext⟩ := hown.rounds
  have htok : tokR bs = (putP none 0 own, 0) := tokR_join hjb (by omega) (by omega)
  obtain ⟨good, hgood⟩ : ∃ g, g = putP none 0 own := ⟨_, rfl⟩
  have hgl : 1 ≤ good.length ∧ good.length ≤ 100 := by rw [hgood, putP_len]; omega
  have hgi : good.all intB = true := by have := (tokR_facts bs).1; rw [htok] at this; rw [hgood]; exact this
  have hbs0 : 1 ≤ bs.length := by
    rcases Nat.eq_zero_or_pos bs.length with h | h
    · exfalso
      have e0 : bs = [] := List.eq_nil_of_length_eq_zero h
      subst e0
      have e2 : putP none 0 own = [] := (congrArg Prod.fst htok).symm
      rw [hgood, e2] at hgl
      simp at hgl
    · exact h
  obtain ⟨OWN, hOWN⟩ : ∃ o, o = (⟨bs.toArray⟩ : ByteArray) := ⟨_, rfl⟩
  have hOsz : OWN.size = bs.length := by rw [hOWN, size_mk]
  have hrt := rTokens_ev OWN
  have hOd : OWN.data.toList = bs := by rw [hOWN]
  rw [hOd, htok, ← hgood] at hrt
  obtain ⟨kg, hkg⟩ := hrt.rounds
  rw [← hOWN] at htext
  have hnew : pm_New.f l0 = some (l0, 0) := rfl
  obtain ⟨i1, p2, hn1, hi1, hi1', hp2⟩ := Next_f l0 p1 (OWN.size : Int) (by omega) (by omega) ⟨hp1, hp1'⟩ (by omega)
  obtain ⟨j1, p3, hn2, hj1, hj1', hp3⟩ := Next_f l0 p2 10 (by omega) (by omega) hp2 (by omega)
  obtain ⟨i3, p4, hn3, hi3, hi3', hp4⟩ := Next_f l0 p3 (good.length : Int) (by omega) (by omega) hp3 (by omega)
  obtain ⟨i4, p5, hn4, hi4, hi4', hp5⟩ := Next_f l0 p4 3 (by omega) (by omega) hp4 (by omega)
  obtain ⟨ys, hys⟩ : ∃ y : List Int, y = [32, 10, 40, 41, 48, 57, 97, 120, 65, 0] := ⟨_, rfl⟩
  have hyl : ys.length = 10 := by rw [hys]; rfl
  have HI1n : Aside0 (i1.toNat < (bytesOf OWN).length) := ⟨by rw [bytesOf_length]; omega⟩
  have HLen : Aside0 (((bytesOf OWN).set i1.toNat ((rd ys j1) % 256)).length = OWN.size) := ⟨by rw [List.length_set, bytesOf_length]⟩
  obtain ⟨strs, hstrs⟩ : ∃ y : List ByteArray, y = [s, OWN, (strOfNums ((bytesOf OWN).set i1.toNat ((rd ys j1) % 256))), OWN ++ s] := ⟨_, rfl⟩
  have HStl : Aside0 (strs.length = 4) := ⟨by rw [hstrs]; rfl⟩
  have HG2i : Aside0 ((good.set i3.toNat (⟨(rd_T35 good i3).f0, i4, (rd_T35 good i3).f2, (rd_T35 good i3).f3⟩ : S35)).all intB = true) := ⟨set_int hgi (intB_of (by show 0 ≤ i4; omega) (by show i4 ≤ 999999; omega)) _⟩
  have HG2l : Aside0 ((good.set i3.toNat (⟨(rd_T35 good i3).f0, i4, (rd_T35 good i3).f2, (rd_T35 good i3).f3⟩ : S35)).length = good.length) := ⟨by rw [List.length_set]⟩
  have hfewi : decide ((l0.length : Int) ≤ 500) = true := by simp; omega
  have h12 : decide (12000 < (s.size : Int)) = false := by simp; omega
  have h12n : decide (12000 < s.size) = false := by simp; omega
  have h30 : decide (3000 < (l2.length : Int)) = false := by simp; omega
  have h30n : decide (3000 < l2.length) = false := by simp; omega
  have hg0 : decide (0 < (good.length : Int)) = true := by simp; omega
  have hg0n : decide (0 < good.length) = true := by simp; omega
  have hcat : decide (OWN.size + s.size ≤ 9223372036854775807) = true := by simp; omega
  have hcat1 := eq_true (show OWN.size + s.size ≤ 9223372036854775807 by omega)
  have hcat2 : (9223372036854775807 < OWN.size + s.size) = False := eq_false (by omega)
  have HLaid := Aside0.mk hLaid
  have HR0 := Aside0.mk hr0
  have HC0 := Aside0.mk hc0
  have HR2 := Aside0.mk hr2
  have HC2 := Aside0.mk hc2
  have HI2 := Aside0.mk hi2
  have H3000 := Aside0.mk h3000
  have HSane := Aside0.mk hsane
  have HFew := Aside0.mk hfew
  have HNew := Aside0.mk hnew
  have HText := Aside0.mk htext
  have HGood := Aside0.mk hkg
  have HGl := Aside0.mk hgl
  have HOs : Aside0 (OWN.size ≤ 1800) := ⟨by omega⟩
  have HN1 := Aside0.mk hn1
  have HN2 := Aside0.mk hn2
  have HN3 := Aside0.mk hn3
  have HN4 := Aside0.mk hn4
  have HI1 : Aside0 (0 ≤ i1 ∧ i1 < (OWN.size : Int)) := ⟨hi1, hi1'⟩
  have HJ1 : Aside0 (0 ≤ j1 ∧ j1 < (ys.length : Int)) := ⟨hj1, by rw [hyl]; exact hj1'⟩
  have HI3 : Aside0 (0 ≤ i3 ∧ i3 < (good.length : Int)) := ⟨hi3, hi3'⟩
  have HYs := Aside0.mk hys
  have HStr := Aside0.mk hstrs
  clear hLaid hr0 hc0 hr2 hc2 hi2 h3000 hsane hfew hnew htext hkg hn1 hn2 hn3 hn4 hi1 hi1' hj1 hj1' hi3 hi3' hi4 hi4' hys hyl hstrs hgi hrt hOd htok hgood hbs0 hOsz hOWN hown htx hjb hbl hv ho1 ho2 hp1 hp1' hp2 hp3 hp4 hp5 h500 hs hgl
  clear bs own
  go_enter Tryd.func6, Tryd.ntmps6
  go_wp2_with (first
        | ((with_reducible refine gate_callee (f := 8) rfl ?_); refine goesL_ (some 24) rfl rfl Tryd.func8 (by kernel_rfl) rfl #[] rfl (by (try simp only [List.map_toArray, List.map_cons, List.map_nil]); first | done | rfl) ?_; (with_reducible refine (pl_sane.calls ks true _ ?s1 HSane.out).mono ?_); (case s1 => exact HLaid.out); rintro e w1 ⟨rfl, hb⟩; refine ⟨_, rfl, ?_⟩; have HB := Aside0.mk hb; clear hb)
        | ((with_reducible refine gate_callee (f := 9) rfl ?_); refine goesL_ (some 27) rfl rfl Tryd.func9 (by kernel_rfl) rfl #[.slice A0 l0.length c0] rfl (by (try simp only [List.map_toArray, List.map_cons, List.map_nil]); first | done | rfl) ?_; (with_reducible refine (pm_Few.calls _ _ l0 true _ ?s1 ?s2 HFew.out).mono ?_); (case s1 => exact Kd.C_below HR0.out HB.out); (case s2 => exact HC0.out); rintro e w' ⟨rfl, ⟨nd, rfl⟩⟩; refine ⟨_, rfl, ?_⟩; skip)
        | ((with_reducible refine gate_callee (f := 10) rfl ?_); refine goesL_ (some 40) rfl rfl Tryd.func10 (by kernel_rfl) rfl #[.slice A0 l0.length c0] rfl (by (try simp only [List.map_toArray, List.map_cons, List.map_nil]); first | done | rfl) ?_; (with_reducible refine (pm_New.calls _ _ l0 l0 0 w _ ?s1 ?s2 ?s3 HNew.out).mono ?_); (case s1 => exact (by repeat (first | (with_reducible first | exact HB.out | apply below_alloc | apply pw_below_drewN | apply below_drew1) | exact HB.out))); (case s2 => exact HR0.out); (case s3 => exact HC0.out); rintro e w2 ⟨gd, rfl, hi, hb, hb2⟩; refine ⟨_, rfl, ?_⟩; have n0_ := Aside0.mk (hb); have n1_ := Aside0.mk (hi); clear HB; have HB := n0_; have HI := n1_; clear n0_ n1_; clear hb hb2 hi)
        | ((with_reducible refine gate_callee (f := 14) rfl ?_); refine goesL_ (some 42) rfl rfl Tryd.func14 (by kernel_rfl) rfl #[.pointer (some ⟨gd, 0, none⟩)] rfl (by (try simp only [List.map_toArray, List.map_cons, List.map_nil]); first | done | rfl) ?_; (with_reducible refine (pl_text.calls kt gd l0 0 OWN p1 w _ ?s1 ?s2 HText.out).mono ?_); (case s1 => exact HI.out); (case s2 => exact HB.out); rintro e w3 ⟨rfl, hi, hb, hk⟩; refine ⟨_, rfl, ?_⟩; have n0_ := Aside0.mk (hb); have n1_ := Aside0.mk (hi); clear HB; clear HI; have HB := n0_; have HI := n1_; clear n0_ n1_; clear hb hi hk)
        | ((with_reducible refine gate_dst (N := 44) rfl ?_); refine conv_event rfl (N := 44) rfl rfl OWN ?hx Tryd.underlying9 Tryd.underlying28 Tryd.underlying5 ?hm ?_; (case hx => first | rfl | (go_simp; done) | (go_simp; rfl)); (case hm => have := HOs.out; omega); intro gb cb w4 hcb hgb hbr hb; have n0_ := Aside0.mk (below_step HB.out hb); have n1_ := Aside0.mk (IsS50.below HI.out hb); have n2_ := Aside0.mk (hbr); have n3_ := Aside0.mk ((by rw [← hgb]; exact below_size HB.out : w.heap.size ≤ gb)); have n4_ := Aside0.mk (hcb); clear HB; clear HI; have HB := n0_; have HI := n1_; have HBb := n2_; have HGb := n3_; have HCb := n4_; clear n0_ n1_ n2_ n3_ n4_; clear hcb hgb hbr hb)
        | ((with_reducible refine gate_callee (f := 11) rfl ?_); refine goesL_ (some 49) rfl rfl Tryd.func11 (by kernel_rfl) rfl #[.pointer (some ⟨gd, 0, none⟩), .int .i64 (OWN.size : Int)] rfl (by (try simp only [List.map_toArray, List.map_cons, List.map_nil]); first | done | rfl) ?_; (with_reducible refine (pm_Deck_Next.calls gd l0 p1 (OWN.size : Int) i1 p2 w _ ?s1 ?s2 HN1.out).mono ?_); (case s1 => exact HI.out); (case s2 => exact HB.out); rintro e w5 ⟨rfl, hi, hb, hk⟩; refine ⟨_, rfl, ?_⟩; have n0_ := Aside0.mk (BRow.keep HBb.out hk (BRow.ne HBb.out HI.out)); have n1_ := Aside0.mk (hb); have n2_ := Aside0.mk (hi); clear HB; clear HI; clear HBb; have HBb := n0_; have HB := n1_; have HI := n2_; clear n0_ n1_ n2_; clear hb hi hk; skip)
        | ((with_reducible refine gate_dst (N := 50) rfl ?_); refine Kd.R_lit (Kd.int .i64) _ 3 ?hg (N := 50) ?hd (xs := ([32, 10, 40, 41, 48, 57, 97, 120, 65, 0] : List Int)) (inner := [.int .i64 32, .int .i64 10, .int .i64 40, .int .i64 41, .int .i64 48, .int .i64 57, .int .i64 97, .int .i64 120, .int .i64 65, .int .i64 0]) (ok := fun _ => True) (okp := fun _ => True) ?hr ?hp (fun _ hk => hk) trivial (Below.refl _ _) (Nat.le_refl _) (by simp) ?_; (case hd => rfl); (case hg => rfl); (case hr => first | (go_simp; done) | (go_simp; rfl)); (case hp => exact (Reps.one (show Kd.M (Kd.int .i64) _ _ _ 32 [.int .i64 32] from rfl) (Reps.one (show Kd.M (Kd.int .i64) _ _ _ 10 [.int .i64 10] from rfl) (Reps.one (show Kd.M (Kd.int .i64) _ _ _ 40 [.int .i64 40] from rfl) (Reps.one (show Kd.M (Kd.int .i64) _ _ _ 41 [.int .i64 41] from rfl) (Reps.one (show Kd.M (Kd.int .i64) _ _ _ 48 [.int .i64 48] from rfl) (Reps.one (show Kd.M (Kd.int .i64) _ _ _ 57 [.int .i64 57] from rfl) (Reps.one (show Kd.M (Kd.int .i64) _ _ _ 97 [.int .i64 97] from rfl) (Reps.one (show Kd.M (Kd.int .i64) _ _ _ 120 [.int .i64 120] from rfl) (Reps.one (show Kd.M (Kd.int .i64) _ _ _ 65 [.int .i64 65] from rfl) (Reps.one (show Kd.M (Kd.int .i64) _ _ _ 0 [.int .i64 0] from rfl) (Reps.none _ _)))))))))))); intro v50 w6 ho hb hg_ hnew_; clear hg_ hnew_; rw [← HYs.out] at ho; have n0_ := Aside0.mk (ho); have n1_ := Aside0.mk (BRow.below HBb.out hb); have n2_ := Aside0.mk (IsS50.below HI.out hb); have n3_ := Aside0.mk (below_step HB.out hb); clear HBb; clear HI; clear HB; have HO := n0_; have HBb := n1_; have HI := n2_; have HB := n3_; clear n0_ n1_ n2_ n3_; clear hb ho)
        | ((with_reducible refine gate_callee (f := 11) rfl ?_); refine goesL_ (some 52) rfl rfl Tryd.func11 (by kernel_rfl) rfl #[.pointer (some ⟨gd, 0, none⟩), .int .i64 10] rfl (by (try simp only [List.map_toArray, List.map_cons, List.map_nil]); first | done | rfl) ?_; (with_reducible refine (pm_Deck_Next.calls gd l0 p2 10 j1 p3 w _ ?s1 ?s2 HN2.out).mono ?_); (case s1 => exact HI.out); (case s2 => exact HB.out); rintro e w7 ⟨rfl, hi, hb, hk⟩; refine ⟨_, rfl, ?_⟩; have n0_ := Aside0.mk (BRow.keep HBb.out hk (BRow.ne HBb.out HI.out)); have n1_ := Aside0.mk (Kd.R_mono (Kd.R_keep (IsS50.apart HI.out HO.out (by decide)) hk (fun _ h => h.2)) (fun _ h => h.1)); have n2_ := Aside0.mk (hb); have n3_ := Aside0.mk (hi); clear HB; clear HI; clear HBb; clear HO; have HBb := n0_; have HO := n1_; have HB := n2_; have HI := n3_; clear n0_ n1_ n2_ n3_; clear hb hi hk; obtain ⟨Al, cl, el⟩ := Kd.R_slice HO.out; subst el; obtain ⟨ad50, e50, hx50⟩ := Kd.at_int (Kd.R_reads' HO.out).2.2 j1 HJ1.out.1 HJ1.out.2; cases e50; have p50 := eq_true HJ1.out.1; have q50 := eq_true HJ1.out.2; have p21 := eq_true HI1.out.1; have q21 := eq_true HI1.out.2; obtain ⟨hx21, hf21⟩ := BRow.cell HBb.out i1.toNat HI1n.out)
        | ((with_reducible refine gate_store (t := 5) (p := 56) rfl ?_); refine store_event (t := 5) (p := 56) (v := ?vo1) (w1 := (w7.setCell ⟨gb, i1.toNat, none⟩ (.int .u8 ((rd ys j1) % 256)))) ?hg ?ho ?hn ?hr ?_; (case ho => rfl); (case hg => rfl); (case hn => rfl); (case hr => first | (go_simp; done) | (go_simp; rfl)); intro w8 hw; have n0_ := Aside0.mk ((by rw [hw]; exact BRow.put HBb.out i1.toNat HI1n.out ((rd ys j1) % 256) : BRow w8 gb ((bytesOf OWN).set i1.toNat ((rd ys j1) % 256)))); have n1_ := Aside0.mk ((by rw [hw]; exact IsS50.far HI.out (Ne.symm (BRow.ne HBb.out HI.out)) _ : IsS50 w w8 gd l0 p3)); have n2_ := Aside0.mk ((by rw [hw]; exact below_set HB.out HGb.out : Below w.heap.size w w8)); clear HI; clear HB; have HBb2 := n0_; have HI := n1_; have HB := n2_; clear n0_ n1_ n2_; clear hw HBb; clear hx21 hf21 p21 q21 p50 q50 hx50; have HBb := HBb2; clear HBb2)
        | ((with_reducible refine gate_callee (f := 17) rfl ?_); refine goesL_ (some 59) rfl rfl Tryd.func17 (by kernel_rfl) rfl #[.string OWN] rfl (by (try simp only [List.map_toArray, List.map_cons, List.map_nil]); first | done | rfl) ?_; (with_reducible refine (pr_Tokens.calls kg OWN good 0 _ HGood.out).mono ?_); rintro e w9 ⟨vg, rfl, ho, hb⟩; refine ⟨_, rfl, ?_⟩; have n0_ := Aside0.mk (Kd.R_lower ho (below_size HB.out)); have n1_ := Aside0.mk (BRow.below HBb.out hb); have n2_ := Aside0.mk (IsS50.below HI.out hb); have n3_ := Aside0.mk (below_step HB.out hb); clear HBb; clear HI; clear HB; have HG := n0_; have HBb := n1_; have HI := n2_; have HB := n3_; clear n0_ n1_ n2_ n3_; clear hb ho; obtain ⟨Ag, cg, eg⟩ := Kd.R_slice HG.out; subst eg)
        | ((with_reducible refine gate_callee (f := 11) rfl ?_); refine goesL_ (some 69) rfl rfl Tryd.func11 (by kernel_rfl) rfl #[.pointer (some ⟨gd, 0, none⟩), .int .i64 (good.length : Int)] rfl (by (try simp only [List.map_toArray, List.map_cons, List.map_nil]); first | done | rfl) ?_; (with_reducible refine (pm_Deck_Next.calls gd l0 p3 (good.length : Int) i3 p4 w _ ?s1 ?s2 HN3.out).mono ?_); (case s1 => exact HI.out); (case s2 => exact HB.out); rintro e w10 ⟨rfl, hi, hb, hk⟩; refine ⟨_, rfl, ?_⟩; have n0_ := Aside0.mk (BRow.keep HBb.out hk (BRow.ne HBb.out HI.out)); have n1_ := Aside0.mk (Kd.R_mono (Kd.R_keep (IsS50.apart HI.out HG.out (by decide)) hk (fun _ h => h.2)) (fun _ h => h.1)); have n2_ := Aside0.mk (hb); have n3_ := Aside0.mk (hi); clear HB; clear HI; clear HBb; clear HG; have HBb := n0_; have HG := n1_; have HB := n2_; have HI := n3_; clear n0_ n1_ n2_ n3_; clear hb hi hk; skip)
        | ((with_reducible refine gate_callee (f := 11) rfl ?_); refine goesL_ (some 71) rfl rfl Tryd.func11 (by kernel_rfl) rfl #[.pointer (some ⟨gd, 0, none⟩), .int .i64 3] rfl (by (try simp only [List.map_toArray, List.map_cons, List.map_nil]); first | done | rfl) ?_; (with_reducible refine (pm_Deck_Next.calls gd l0 p4 3 i4 p5 w _ ?s1 ?s2 HN4.out).mono ?_); (case s1 => exact HI.out); (case s2 => exact HB.out); rintro e w11 ⟨rfl, hi, hb, hk⟩; refine ⟨_, rfl, ?_⟩; have n0_ := Aside0.mk (BRow.keep HBb.out hk (BRow.ne HBb.out HI.out)); have n1_ := Aside0.mk (Kd.R_mono (Kd.R_keep (IsS50.apart HI.out HG.out (by decide)) hk (fun _ h => h.2)) (fun _ h => h.1)); have n2_ := Aside0.mk (hb); have n3_ := Aside0.mk (hi); clear HB; clear HI; clear HBb; clear HG; have HBb := n0_; have HG := n1_; have HB := n2_; have HI := n3_; clear n0_ n1_ n2_ n3_; clear hb hi hk; obtain ⟨gg, cg', eg, gbg, glg, clg, HGG⟩ := Kd.R_form HG.out (by have := HGl.out; omega); (first | cases eg | (injection eg with ea_ en_ ec_; (first | subst ea_ | (injection ea_ with ea_; subst ea_)); subst ec_; clear en_)); have GBg := Aside0.mk gbg; clear gbg glg HGG clg; obtain ⟨ceg, hclg, hMg, hccg, hfrg⟩ := Kd.R_elem HG.out z35 (i3 : Int) HI3.out.1 HI3.out.2; obtain rfl := k35_openM hMg; have hxg0 : w11.cell? ⟨gg, (i3 : Int).toNat * 4, none⟩ = some (.int .i64 ((rd_T35 good i3).f0)) := hccg 0 _ rfl; have hxg1 : w11.cell? ⟨gg, (i3 : Int).toNat * 4 + 1, none⟩ = some (.int .i64 ((rd_T35 good i3).f1)) := hccg 1 _ rfl; have hfg1 : w11.frozen? ⟨gg, (i3 : Int).toNat * 4 + 1, none⟩ = false := hfrg 1; have HP := Kd.R_seg HG.out (i3 : Int) HI3.out.1 HI3.out.2 (seg := [.int .i64 i4]) (j := 1) hclg hccg (show 2 ≤ 4 from by decide) (x' := (⟨(rd_T35 good i3).f0, i4, (rd_T35 good i3).f2, (rd_T35 good i3).f3⟩ : S35)) (k35_mkM _ _ _ (⟨(rd_T35 good i3).f0, i4, (rd_T35 good i3).f2, (rd_T35 good i3).f3⟩ : S35)) (fun _ hk => hk); clear hclg hccg hfrg hMg; have pg := eq_true HI3.out.1; have qg := eq_true HI3.out.2)
        | ((with_reducible refine gate_store (t := 3) (p := 73) rfl ?_); refine store_event (t := 3) (p := 73) (v := ?vo2) (w1 := (w11.setCell ⟨gg, (i3 : Int).toNat * 4 + 1, none⟩ (.int .i64 i4))) ?hg ?ho ?hn ?hr ?_; (case ho => rfl); (case hg => rfl); (case hn => rfl); (case hr => first | (go_simp; done) | (go_simp; rfl)); intro w12 hw; have hgr : w11.grownBy w12 (some gg) := (by rw [hw]; exact HP.2); have hp_ : Kd.R k35 35 w12 w.heap.size (fun _ => True) (.slice (some ⟨gg, 0, none⟩) good.length cg) (good.set i3.toNat (⟨(rd_T35 good i3).f0, i4, (rd_T35 good i3).f2, (rd_T35 good i3).f3⟩ : S35)) := (by rw [hw]; exact HP.1); clear HP; have hne : gb ≠ gg := BRow.ne_own HBb.out HG.out; have n0_ := Aside0.mk ((by rw [hw]; exact HBb.out.move (Below.heap_setCell w11 _ _ gb hne) : BRow w12 gb ((bytesOf OWN).set i1.toNat ((rd ys j1) % 256)))); have n1_ := Aside0.mk (hp_); have n2_ := Aside0.mk ((by rw [hw]; exact below_set HB.out GBg.out : Below w.heap.size w w12)); clear HBb; clear HG; clear HB; have HBb := n0_; have HG := n1_; have HB := n2_; clear n0_ n1_ n2_; clear hw hgr hp_ hne hxg0 hxg1 hfg1 pg qg; have hcv := string_of_reads (c := cb) (P := Tryd.prog) Tryd.underlying28 Tryd.underlying5 Tryd.underlying9 HBb.out.reads; rw [HLen.out] at hcv)
        | ((with_reducible refine gate_dst (N := 81) rfl ?_); refine Kd.R_lit Kd.string _ 9 ?hg (N := 81) ?hd (xs := ([s, OWN, (strOfNums ((bytesOf OWN).set i1.toNat ((rd ys j1) % 256))), OWN ++ s] : List ByteArray)) (inner := [.string s, .string OWN, .string (strOfNums ((bytesOf OWN).set i1.toNat ((rd ys j1) % 256))), .string (OWN ++ s)]) (ok := fun _ => True) (okp := fun _ => True) ?hr ?hp (fun _ hk => hk) trivial (Below.refl _ _) (Nat.le_refl _) (by simp) ?_; (case hd => rfl); (case hg => rfl); (case hr => first | (go_simp; done) | (go_simp; rfl)); (case hp => exact (Reps.one (show Kd.M Kd.string _ _ _ s [.string s] from rfl) (Reps.one (show Kd.M Kd.string _ _ _ OWN [.string OWN] from rfl) (Reps.one (show Kd.M Kd.string _ _ _ (strOfNums ((bytesOf OWN).set i1.toNat ((rd ys j1) % 256))) [.string (strOfNums ((bytesOf OWN).set i1.toNat ((rd ys j1) % 256)))] from rfl) (Reps.one (show Kd.M Kd.string _ _ _ (OWN ++ s) [.string (OWN ++ s)] from rfl) (Reps.none _ _)))))); intro v81 w13 ho hb hg_ hnew_; clear hg_ hnew_; rw [← HStr.out] at ho; have n0_ := Aside0.mk (ho); have n1_ := Aside0.mk (Kd.R_below HG.out hb); have n2_ := Aside0.mk (below_step HB.out hb); clear HG; clear HB; have HY := n0_; have HG := n1_; have HB := n2_; clear n0_ n1_ n2_; clear hb ho hcv; obtain ⟨A81, c81, e81⟩ := Kd.R_slice HY.out; subst e81))
  have HYc : Aside0 (Kd.string.C w13 A81 strs.length strs) := ⟨(Kd.R_reads' HY.out).2.2⟩
  have HLd : Aside0 (Laid w13) := ⟨Laid.below HLaid.out HB.out⟩
  have HL2 : Aside0 (Kd.C k35 w13 A2 l2.length l2) := ⟨Kd.C_below HR2.out HB.out⟩
  have HG2 : Aside0 (Kd.C k35 w13 (some ⟨gg, 0, none⟩) (good.set i3.toNat (⟨(rd_T35 good i3).f0, i4, (rd_T35 good i3).f2, (rd_T35 good i3).f3⟩ : S35)).length (good.set i3.toNat (⟨(rd_T35 good i3).f0, i4, (rd_T35 good i3).f2, (rd_T35 good i3).f3⟩ : S35))) := ⟨(Kd.R_reads' HG.out).2.2⟩
  have HG2c : Aside0 (good.length ≤ cg) := ⟨(Kd.R_reads' HG.out).2.1⟩
  obtain ⟨ad, ead, _⟩ := Kd.at_string HYc.out 0 (by omega) (by have := HStl.out; omega)
  subst ead
  clear HY HG HBb HI HGb HCb hfewi h12 h12n h30 h30n hg0 hg0n hcat hcat1 hcat2
  go_loopw [83] (fun i wr => ∃ j : Nat, j ≤ 4 ∧ i = .int .i64 j ∧ Aside0 (Below w13.heap.size w13 wr)) (fun i _ => 4 - (intOf i).toNat)
  case atStart => exact ⟨0, by omega, rfl, ⟨Below.refl _ _⟩⟩
  case round =>
    obtain ⟨j, hj, rfl, HBo⟩ := hrel
    by_cases hlt : j < 4
    · have q1 : j < strs.length := by rw [HStl.out]; exact hlt
      have q2 : decide ((j : Int) < (strs.length : Int)) = true := by simp; omega
      have q3 : decide (j < strs.length) = true := by simp; omega
      have q4 : ((j : Int) < (strs.length : Int)) := by omega
      have q5 : (0 : Int) ≤ (j : Int) := by omega
      obtain ⟨ad', ead, hx⟩ := Kd.at_string HYc.out (j : Int) q5 q4
      cases ead
      simp only [Int.toNat_natCast] at hx
      replace hx := (HBo.out.cell (World.block_lt_of_cell? w13 _ hx)).trans hx
      obtain ⟨Y, hY⟩ : ∃ Y, Y = rdOf ByteArray.empty strs (j : Int) := ⟨_, rfl⟩
      rw [← hY] at hx
      clear hY
      obtain ⟨⟨Q, E⟩, hQE⟩ : ∃ q, q = tokR Y.data.toList := ⟨_, rfl⟩
      have hQf := tokR_facts Y.data.toList
      rw [← hQE] at hQf
      have HQf := Aside0.mk hQf
      have hT1 := Tokens_ev Y
      have hT2 := rTokens_ev Y
      rw [← hQE] at hT1 hT2
      obtain ⟨k1, hT1⟩ := hT1.rounds
      obtain ⟨k2, hT2⟩ := hT2.rounds
      obtain ⟨k3, hS1⟩ := (lsame_ev Q (by have := hQf.2; simp at this; omega)).rounds
      obtain ⟨NM, hNM⟩ : ∃ b, b = nameOk Y.data.toList := ⟨_, rfl⟩
      have hn1 := Name_ev' Y
      have hn2 := Name_ev Y
      rw [← hNM] at hn1 hn2
      obtain ⟨k4, hn1⟩ := hn1.rounds
      obtain ⟨k5, hn2⟩ := hn2.rounds
      have HT1 := Aside0.mk hT1
      have HT2 := Aside0.mk hT2
      have HS1 := Aside0.mk hS1
      have HN13 := Aside0.mk hn1
      have HN19 := Aside0.mk hn2
      have hE : (E != E) = false := by simp
      have hNN : (NM != NM) = false := by simp
      clear hQE hQf hT1 hT2 hS1 hn1 hn2 hNM
      go_wp2_with (first
          | (go_at_call 12; (with_reducible refine (lexis_Tokens.calls k1 Y Q E _ ?s1 HT1.out).mono ?_); (case s1 => exact Laid.below HLd.out (by repeat (first | (with_reducible first | exact HBo.out | apply below_alloc | apply pw_below_drewN | apply below_drew1) | exact HBo.out))); rintro e w21 ⟨vp, rfl, ho, hb⟩; have n0_ := Aside0.mk (ho); have n1_ := Aside0.mk (below_step (by repeat (first | (with_reducible first | exact HBo.out | apply below_alloc | apply pw_below_drewN | apply below_drew1) | exact HBo.out)) hb); clear HBo; have HP := n0_; have HBo := n1_; clear n0_ n1_; clear hb ho)
          | (go_at_call 17; (with_reducible refine (pr_Tokens.calls k2 Y Q E _ HT2.out).mono ?_); rintro e w22 ⟨vq, rfl, ho, hb⟩; have n0_ := Aside0.mk (Kd.R_below HP.out hb); have n1_ := Aside0.mk (ho); have n2_ := Aside0.mk (below_step (by repeat (first | (with_reducible first | exact HBo.out | apply below_alloc | apply pw_below_drewN | apply below_drew1) | exact HBo.out)) hb); clear HP; clear HBo; have HP := n0_; have HQ := n1_; have HBo := n2_; clear n0_ n1_ n2_; clear hb ho; obtain ⟨Ap, cp, ep⟩ := Kd.R_slice HP.out; subst ep; obtain ⟨Aq, cq, eq_⟩ := Kd.R_slice HQ.out; subst eq_)
          | (go_at_call 18; (with_reducible refine (pl_same.calls k3 _ _ Q _ _ Q true _ ?s1 ?s2 ?s3 ?s4 HS1.out).mono ?_); (case s1 => exact (Kd.R_reads' HP.out).2.2); (case s2 => exact (Kd.R_reads' HP.out).2.1); (case s3 => exact (Kd.R_reads' HQ.out).2.2); (case s4 => exact (Kd.R_reads' HQ.out).2.1); rintro e w' ⟨rfl, ⟨nd, rfl⟩⟩)
          | (go_at_call 13; (with_reducible refine (lexis_Name.calls k4 Y NM _ ?s1 HN13.out).mono ?_); (case s1 => exact Laid.below HLd.out (by repeat (first | (with_reducible first | exact HBo.out | apply below_alloc | apply pw_below_drewN | apply below_drew1) | exact HBo.out))); rintro e w23 ⟨rfl, hb⟩; have n0_ := Aside0.mk (Kd.R_below (by (with_reducible repeat (first | apply Kd.R_alloc | apply Kd.R_drewN | apply Kd.R_drew)); exact HQ.out) hb); have n1_ := Aside0.mk (below_step (by repeat (first | (with_reducible first | exact HBo.out | apply below_alloc | apply pw_below_drewN | apply below_drew1) | exact HBo.out)) hb); clear HQ; clear HBo; have HQ := n0_; have HBo := n1_; clear n0_ n1_; clear hb)
          | (go_at_call 19; (with_reducible refine (pr_Name.calls k5 Y NM _ HN19.out).mono ?_); rintro e w' ⟨rfl, ⟨nd, rfl⟩⟩)
          | ((with_reducible refine gate_dst (N := 116) rfl ?_); refine lit_event ?hg (N := 116) ?hd (n := 3) (cs := #[.slice A2 l2.length c2, .slice Aq Q.length cq, .slice (some ⟨gg, 0, none⟩) good.length cg]) (t := 30) ?hr ?_; (case hd => rfl); (case hg => rfl); (case hr => first | (go_simp; done) | (go_simp; rfl)); intro adz w24 hc had hb; have n0_ := Aside0.mk (Kd.C_below (Kd.C_drewN (Kd.R_reads' HQ.out).2.2 nd) hb); have n1_ := Aside0.mk ((Kd.R_reads' HQ.out).2.1); have n2_ := Aside0.mk (hc); have n3_ := Aside0.mk (had); have n4_ := Aside0.mk (below_step (by repeat (first | (with_reducible first | exact HBo.out | apply below_alloc | apply pw_below_drewN | apply below_drew1) | exact HBo.out)) hb); clear HQ; clear HBo; have HQ := n0_; have HCq := n1_; have HC3 := n2_; have HAd := n3_; have HBo := n4_; clear n0_ n1_ n2_ n3_ n4_; clear hb hc had))
      have HLd2 : Aside0 (Laid w24) := ⟨Laid.below HLd.out HBo.out⟩
      have HZs : Aside0 (∀ m : Nat, m < 3 → ∃ Az cz zs, w24.cell? (adz.add m) = some (.slice Az zs.length cz) ∧ zs.length ≤ cz ∧ Kd.C k35 w24 Az zs.length zs ∧ zs.all intB = true ∧ zs.length ≤ 100000) := by
        refine ⟨fun m hm => ?_⟩
        rcases m with _ | _ | _ | m
        · exact ⟨A2, c2, l2, HC3.out 0 _ rfl, HC2.out, Kd.C_below HL2.out HBo.out, HI2.out, by have := H3000.out; omega⟩
        · exact ⟨Aq, cq, Q, HC3.out 1 _ rfl, HCq.out, HQ.out, HQf.out.1, by have h_ : Q.length ≤ 2048 := HQf.out.2; omega⟩
        · refine ⟨some ⟨gg, 0, none⟩, cg, (good.set i3.toNat (⟨(rd_T35 good i3).f0, i4, (rd_T35 good i3).f2, (rd_T35 good i3).f3⟩ : S35)), ?_, ?_, Kd.C_below HG2.out HBo.out, HG2i.out, ?_⟩
          · rw [HG2l.out]; exact HC3.out 2 _ rfl
          · rw [HG2l.out]; exact HG2c.out
          · rw [HG2l.out]; have := HGl.out; omega
        · omega
      clear HC3 hE hNN hx
      go_loopw [118] (fun i wr => ∃ m : Nat, m ≤ 3 ∧ i = .int .i64 m ∧ Aside0 (Below w24.heap.size w24 wr)) (fun i _ => 3 - (intOf i).toNat)
      case atStart => exact ⟨0, by omega, rfl, ⟨Below.refl _ _⟩⟩
      case round =>
        obtain ⟨m, hm, rfl, HBi⟩ := hrel
        by_cases hmt : m < 3
        · obtain ⟨Az, cz, zs, hcz, hcz2, hz, hzi, hzl⟩ := HZs.out m hmt
          replace hcz := (HBi.out.cell (World.block_lt_of_cell? w24 _ hcz)).trans hcz
          obtain ⟨⟨TS, TE⟩, hT⟩ : ∃ t, t = textR zs := ⟨_, rfl⟩
          have hTx : lexis_Text.f zs = some (TS, TE) := by unfold lexis_Text.f; rw [if_pos hzi, hT]
          have hTr := rText_ev zs
          rw [← hT] at hTr
          obtain ⟨k6, hTr⟩ := hTr.rounds
          obtain ⟨SR, hSR⟩ : ∃ b, b = sameR zs Q := ⟨_, rfl⟩
          have hSa := lexSame_ev zs Q hzl
          have hSb := refSame_ev zs Q hzl
          rw [← hSR] at hSa hSb
          obtain ⟨k7, hSa⟩ := hSa.rounds
          obtain ⟨k8, hSb⟩ := hSb.rounds
          have HCz := Aside0.mk hcz2
          have HZ := Aside0.mk hz
          have HTx := Aside0.mk hTx
          have HTr := Aside0.mk hTr
          have HSa := Aside0.mk hSa
          have HSb := Aside0.mk hSb
          have hTE : (TE != TE) = false := by simp
          have hTS : (TS.toList != TS.toList) = false := by simp
          have hSS : (SR != SR) = false := by simp
          have r4 : ((m : Int) < 3) := by omega
          have r5 : (0 : Int) ≤ (m : Int) := by omega
          clear hcz2 hz hzi hzl hT hTx hTr hSR hSa hSb
          go_wp2_with (first
            | (go_at_call 16; (with_reducible refine (lexis_Text.calls Az cz zs TS TE _ ?s1 ?s2 ?s3 HTx.out).mono ?_); (case s1 => exact Kd.C_below HZ.out (by repeat (first | (with_reducible first | exact HBi.out | apply below_alloc | apply pw_below_drewN | apply below_drew1) | exact HBi.out))); (case s2 => exact HCz.out); (case s3 => exact Laid.below HLd2.out (by repeat (first | (with_reducible first | exact HBi.out | apply below_alloc | apply pw_below_drewN | apply below_drew1) | exact HBi.out))); rintro e w31 ⟨rfl, hb⟩; have n0_ := Aside0.mk (below_step (by repeat (first | (with_reducible first | exact HBi.out | apply below_alloc | apply pw_below_drewN | apply below_drew1) | exact HBi.out)) hb); clear HBi; have HBi := n0_; clear n0_; clear hb)
            | (go_at_call 20; (with_reducible refine (pr_Text.calls k6 Az cz zs TS TE _ ?s1 ?s2 HTr.out).mono ?_); (case s1 => exact Kd.C_below HZ.out (by repeat (first | (with_reducible first | exact HBi.out | apply below_alloc | apply pw_below_drewN | apply below_drew1) | exact HBi.out))); (case s2 => exact HCz.out); rintro e w32 ⟨rfl, hb⟩; have n0_ := Aside0.mk (below_step (by repeat (first | (with_reducible first | exact HBi.out | apply below_alloc | apply pw_below_drewN | apply below_drew1) | exact HBi.out)) hb); clear HBi; have HBi := n0_; clear n0_; clear hb)
            | (go_at_call 15; (with_reducible refine (lexis_Same.calls k7 Az cz zs Aq cq Q SR _ ?s1 ?s2 ?s3 ?s4 HSa.out).mono ?_); (case s1 => exact Kd.C_below HZ.out (by repeat (first | (with_reducible first | exact HBi.out | apply below_alloc | apply pw_below_drewN | apply below_drew1) | exact HBi.out))); (case s2 => exact HCz.out); (case s3 => exact Kd.C_below HQ.out (by repeat (first | (with_reducible first | exact HBi.out | apply below_alloc | apply pw_below_drewN | apply below_drew1) | exact HBi.out))); (case s4 => exact HCq.out); rintro e w33 ⟨rfl, hb⟩; have n0_ := Aside0.mk (below_step (by repeat (first | (with_reducible first | exact HBi.out | apply below_alloc | apply pw_below_drewN | apply below_drew1) | exact HBi.out)) hb); clear HBi; have HBi := n0_; clear n0_; clear hb)
            | (go_at_call 21; (with_reducible refine (pr_Same.calls k8 Az cz zs Aq cq Q SR _ ?s1 ?s2 ?s3 ?s4 HSb.out).mono ?_); (case s1 => exact Kd.C_below HZ.out (by repeat (first | (with_reducible first | exact HBi.out | apply below_alloc | apply pw_below_drewN | apply below_drew1) | exact HBi.out))); (case s2 => exact HCz.out); (case s3 => exact Kd.C_below HQ.out (by repeat (first | (with_reducible first | exact HBi.out | apply below_alloc | apply pw_below_drewN | apply below_drew1) | exact HBi.out))); (case s4 => exact HCq.out); rintro e w' ⟨rfl, ⟨nd, rfl⟩⟩))
          go_roundw
          case rel => exact ⟨m + 1, by omega, by go_num, ⟨(by repeat (first | (with_reducible first | exact HBi.out | apply below_alloc | apply pw_below_drewN | apply below_drew1) | exact HBi.out))⟩⟩
          case measure => simp [intOf]; omega
        · have hme : m = 3 := by omega
          subst hme
          go_wp2
          go_roundw
          case rel => exact ⟨j + 1, by omega, by go_num, ⟨below_step HBo.out (by repeat (first | (with_reducible first | exact HBi.out | apply below_alloc | apply pw_below_drewN | apply below_drew1) | exact HBi.out))⟩⟩
          case measure => simp [intOf]; omega
    · have hje : j = 4 := by omega
      subst hje
      have q2 : decide ((4 : Int) < (strs.length : Int)) = false := by have := HStl.out; simp; omega
      have q3 : decide (4 < strs.length) = false := by have := HStl.out; simp; omega
      have q6 : decide (((4 : Nat) : Int) < (strs.length : Int)) = false := by have := HStl.out; simp; omega
      go_wp2
      go_ret
      exact ⟨rfl, below_step HB.out HBo.out⟩

theorem LexisDoes_walk (a0 : Option Addr) (len0 cap0 : Nat) (z0 : List Int) (s : ByteArray) (A2 : Option Addr) (c2 : Nat) (l2 : List S35) (w : World) (w0 : (a0 = none ∧ len0 = 0 ∧ cap0 = 0 ∧ z0 = []) ∨ ∃ x, a0 = some x ∧ len0 ≤ cap0 ∧ cap0 ≤ maxLen ∧ z0.length = cap0 ∧ (∀ i, i < z0.length → w.cell? (x.add i) = some (.int .i64 (z0.getD i 0))) ∧ ∀ n ∈ z0, (Lit.int .i64 n).wf = true) (_y0 : len0 * 8 ≤ 140737488351232) (w1 : s.size ≤ 140737488351232) (hc2 : l2.length ≤ c2) (hr2 : Kd.C k35 w A2 l2.length l2) (hi2 : l2.all intB = true) (hLaid : Laid w) :
    Calls Tryd.prog 6 #[.slice a0 len0 cap0, .string s, .slice A2 l2.length c2] w fun e w' => e = .returned (.bool true) ∧ Below w.heap.size w w' := by
  obtain ⟨l0, rfl, hr0, _, _, hc0⟩ := ReadsInt.ofRowC w0
  have hr0' := Kd.C_of_reads (d := (0 : Int)) (h1 := fun _ => rfl) hr0
  by_cases h : 500 < l0.length ∨ 12000 < s.size ∨ 3000 < l2.length
  · exact does_early _ _ l0 s A2 c2 l2 w hr0' hc0 hLaid w1 h
  · exact does_main _ _ l0 s A2 c2 l2 w hr0' hc0 hr2 hc2 hi2 hLaid (by omega) (by omega) (by omega)

end Go.Proofs.YthcllibbaindbaaDoor.Px
namespace Go.Proofs.YthcllibbaindbaaDoor.Px
open Go.RowKit Go.ChangeShapes Go.WideShapes Go.Deep Go.Proofs.YthcllibbaindbaaDoorW.PrintWords Go.Proofs.YthcllibbaindbaaDoorW.PrintLast Go.Proofs.YthcllibbaindbaaDoorW.PrintMore

theorem wf_intB {t : S35} (h : (Lit.int .i64 t.f1).wf = true) : intB t = true := by
  rw [intB, Bool.and_eq_true, decide_eq_true_eq, decide_eq_true_eq]
  have h1 : IntKind.i64.min = -9223372036854775808 := by decide
  have h2 : IntKind.i64.max = 9223372036854775807 := by decide
  have h3 : (decide (IntKind.i64.min ≤ t.f1) && decide (t.f1 ≤ IntKind.i64.max)) = true := h
  rw [h1, h2] at h3
  simpa using h3

set_option maxRecDepth 100000 in
theorem open_tokens2 {H : Type} {enc : TypeId × Value → H} {w : World} {base : Nat} {spare : Nat → Bool} {held : Bool} {fuel : Nat} {cs : List Value} {x : DataW H × List MemPlace}
    (h : DataW.trod enc Tryd.prog w base spare held fuel 30 cs = some x) :
    ∃ (A : Option Addr) (c : Nat) (xs : List S35), cs = [.slice A xs.length c] ∧ xs.length ≤ c ∧ Kd.C k35 w A xs.length xs ∧ xs.all intB = true := by
  rcases open_slice Tryd.underlying30 h with ⟨rfl, _⟩ | ⟨a, len, cap, m, n, D, Pl, rfl, _, hl, hm, hmm, _, hi⟩
  · exact ⟨none, 0, [], rfl, by simp, ⟨rfl, by simp, fun h => by simp at h⟩, rfl⟩
  · have hlm : len ≤ m := by rw [hmm]; split <;> omega
    have hC : Tryd.prog.cellsOf 35 = 4 := by kernel_rfl
    obtain ⟨xs, hxl, hxs⟩ := choose_row z35 (Q := fun i t => (∃ c, c.length = 4 ∧ k35.K w t c ∧ ∀ j u, c[j]? = some u → w.cell? (a.add (i * 4 + j)) = some u) ∧ (Lit.int .i64 t.f1).wf = true) len (fun i him => by
      obtain ⟨cs', hc, ht'⟩ := hi i (by omega)
      rw [hC] at hc
      obtain ⟨ys, n', _, _, hlen, hyl, hf⟩ := DataW.trod_struct Tryd.underlying35 ht'
      rw [hC] at hlen
      obtain ⟨_, _, hat⟩ := World.cells?_some hc
      have c3 : Tryd.prog.cellsOf 3 = 1 := by kernel_rfl
      have c9 : Tryd.prog.cellsOf 9 = 1 := by kernel_rfl
      match cs', hlen with
      | [u0, u1, u2, u3], _ =>
        have h0 : DataW.trod enc Tryd.prog w base spare held n' 3 (([u0, u1, u2, u3].drop 0).take (Tryd.prog.cellsOf 3)) = ys[0]? := hf 0 _ rfl
        have h1 : DataW.trod enc Tryd.prog w base spare held n' 3 (([u0, u1, u2, u3].drop 1).take (Tryd.prog.cellsOf 3)) = ys[1]? := hf 1 _ rfl
        have h2 : DataW.trod enc Tryd.prog w base spare held n' 3 (([u0, u1, u2, u3].drop 2).take (Tryd.prog.cellsOf 3)) = ys[2]? := hf 2 _ rfl
        have h3 : DataW.trod enc Tryd.prog w base spare held n' 9 (([u0, u1, u2, u3].drop 3).take (Tryd.prog.cellsOf 9)) = ys[3]? := hf 3 _ rfl
        rw [c3] at h0 h1 h2
        rw [c9] at h3
        match ys, hyl with
        | [y0, y1, y2, y3], _ =>
          obtain ⟨n0, e0, _, _⟩ := DataW.trod_int Tryd.underlying3 (show DataW.trod enc Tryd.prog w base spare held n' 3 [u0] = some y0 from h0)
          obtain ⟨n1, e1, _, wf1⟩ := DataW.trod_int Tryd.underlying3 (show DataW.trod enc Tryd.prog w base spare held n' 3 [u1] = some y1 from h1)
          obtain ⟨n2, e2, _, _⟩ := DataW.trod_int Tryd.underlying3 (show DataW.trod enc Tryd.prog w base spare held n' 3 [u2] = some y2 from h2)
          obtain ⟨s3, e3, _, _⟩ := DataW.trod_string Tryd.underlying9 (show DataW.trod enc Tryd.prog w base spare held n' 9 [u3] = some y3 from h3)
          cases e0; cases e1; cases e2; cases e3
          refine ⟨⟨n0, n1, n2, s3⟩, ⟨_, rfl, k35_mk w ⟨n0, n1, n2, s3⟩, fun j u hj => ?_⟩, wf1⟩
          rw [← Go.Deep.add_add, hat j (by have := (List.getElem?_eq_some_iff.1 hj).1; simpa using this)]
          exact hj)
    refine ⟨some a, cap, xs, by rw [hxl], by omega, ⟨rfl, ?_, fun _ => ⟨a, rfl, fun j p hj => ?_⟩⟩, ?_⟩
    · have : maxLen ≤ 9223372036854775807 := by decide
      omega
    · obtain ⟨⟨c, h1, h2, h3⟩, _⟩ := hxs j p hj
      exact ⟨c, h1, h2, fun i u hu => h3 i u hu⟩
    · rw [List.all_eq_true]
      intro t ht
      obtain ⟨i, hi, e⟩ := List.getElem_of_mem ht
      exact wf_intB (hxs i t (by rw [List.getElem?_eq_getElem hi, e])).2
end Go.Proofs.YthcllibbaindbaaDoor.Px
namespace Go.Proofs.YthcllibbaindbaaDoor.lexisDoes
open Go.ChangeShapes Go.WideShapes Go.ChangeAt Go.RowKit
open Go.ChangeMaps (open_string shut_string)
set_option linter.unusedVariables false
theorem own : ownKnob Tryd.prog.godebug = none := by kernel_rfl
theorem laidOut : laidOutB Tryd.prog = true := by kernel_rfl
def IsRow (k : IntKind) (w : World) (a : Option Addr) (len cap : Nat) (zs : List Int) : Prop :=
  (a = none ∧ len = 0 ∧ cap = 0 ∧ zs = []) ∨
  ∃ x, a = some x ∧ len ≤ cap ∧ cap ≤ maxLen ∧ zs.length = cap ∧ (∀ i, i < zs.length → w.cell? (x.add i) = some (.int k (zs.getD i 0))) ∧ ∀ n ∈ zs, (Lit.int k n).wf = true
theorem reads (os : Os) {H : Type} (enc : TypeId × Value → H) : ∃ places, DataW.whole enc Tryd.prog ((laidWorld os).forCall (fun _ _ => 0) ⟨#[], #[.slice none 0 0, .string ByteArray.empty, .slice none 0 0], []⟩).memory Tryd.f6.params.toList Rows.lexisDoesSpec.vars false (#[.slice none 0 0, .string ByteArray.empty, .slice none 0 0] : Array Value).toList 8 = some ([.nil, .lit (.string []), .nil], [], places) :=
  ⟨[], by kernel_rfl⟩
set_option maxRecDepth 100000 in
theorem lifted (os : Os) (started : os.Started) (H : Type) (enc : TypeId × Value → H) (F : Stop.Interp) :
    ReturnsInHanded {} Tryd.checked os 6 .any ((OpenSpec.ofChange Rows.lexisDoesSpec).preRow enc Tryd.prog Tryd.f6 Rows.lexisDoesRow.domain false Rows.lexisDoesRow.laid) (((OpenSpec.ofChange Rows.lexisDoesSpec).at F).post enc Tryd.prog Tryd.f6 false true false false) := by
  obtain ⟨places, hx⟩ := reads os enc
  refine returnsInHanded_of_row (C := Tryd.checked) (s := OpenSpec.ofChange Rows.lexisDoesSpec) own started (by kernel_rfl) Tryd.func6
    (witness_row_at (enc := enc) (C := Tryd.checked) false (laidWorld os) #[.slice none 0 0, .string ByteArray.empty, .slice none 0 0] rfl (by kernel_rfl) (by kernel_rfl) (by kernel_rfl)
      (OpenSpec.preRow_of_cond 8 hx (by kernel_rfl) (fun k hk => by cases hk) (by kernel_rfl) (laid_met os _))) ?_
  intro W base args ds gs before hval0 hW hcnd _ hsz0 hL _ _
  have hlaid : Laid W := laid_of hL
  clear hL
  have hsz : (DataW.weightsEach Tryd.prog (Tryd.f6.params.toList ++ Rows.lexisDoesSpec.plain.varTypes Tryd.prog) (ds ++ gs)).all (· ≤ reachBytes) = true := hsz0
  have hval : ∀ (j : Nat) t v, Tryd.f6.params[j]? = some t → args[j]? = some v → Value.okWide Tryd.prog W .any base t v := hval0
  have hW' := hW
  obtain ⟨p, q, hA0, hV, rfl, hfz, hnd⟩ := hW
  have hA : DataW.TrodAll enc Tryd.prog W 0 (fun _ => true) true Tryd.f6.params.toList args.toList ds p := hA0
  rw [Tryd.params6] at hA hval hsz
  obtain ⟨v0, vs0, d0, ds0, p0, q0, hargs, rfl, rfl, h0, r0⟩ := trodAll_cons hA
  obtain ⟨v1, vs1, d1, ds1, p1, q1, rfl, rfl, rfl, h1, r1⟩ := trodAll_cons r0
  obtain ⟨v2, vs2, d2, ds2, p2, q2, rfl, rfl, rfl, h2, r2⟩ := trodAll_cons r1
  obtain ⟨rfl, rfl, rfl⟩ := trodAll_nil r2
  obtain rfl : args = #[v0, v1, v2] := by cases args; simp_all
  obtain ⟨rfl, rfl⟩ := trodVars_none hV
  obtain ⟨a0, len0, cap0, rfl⟩ := okWide_slice Tryd.underlying22 (hval 0 22 v0 rfl rfl)
  have k0 := h0
  have lt0 : ∀ x ∈ p0, x.block < W.heap.size := by obtain ⟨m, hm⟩ := k0; exact DataW.trod_lt m _ _ _ hm
  obtain ⟨z0, w0⟩ : ∃ zs, IsRow .i64 W a0 len0 cap0 zs := by
    obtain ⟨fuel, hf⟩ := h0
    rcases open_ints Tryd.underlying22 Tryd.underlying3 (by kernel_rfl) hf with ⟨hcs, _⟩ | ⟨x, l, c, zs, hcs, _, hl, hm, hz, _, hcell, hwz⟩
    · simp [Value.cells] at hcs
      obtain ⟨rfl, rfl, rfl⟩ := hcs
      exact ⟨[], .inl ⟨rfl, rfl, rfl, rfl⟩⟩
    · simp [Value.cells] at hcs
      obtain ⟨rfl, rfl, rfl⟩ := hcs
      exact ⟨zs, .inr ⟨_, rfl, hl, hm, by simpa using hz, hcell, hwz⟩⟩
  have y0 : len0 * 8 ≤ 140737488351232 := YthcllibbaindbaaDoorW.PrintWords.sized_ints hsz (j := 0) (t := 22) rfl rfl Tryd.underlying22 Tryd.underlying3 (by kernel_rfl) (by kernel_rfl) h0
  obtain ⟨a1, rfl, rfl, rfl, y1⟩ := open_string Tryd.underlying9 (hval 1 9 v1 rfl rfl) h1
  have w1 : a1.size ≤ 140737488351232 := by
    have z := sized_string hsz (j := 1) (t := 9) rfl rfl
    rw [Array.length_toList] at z
    exact z
  obtain ⟨a2, len2, cap2, rfl⟩ := okWide_slice Tryd.underlying30 (hval 2 30 v2 rfl rfl)
  have k2 := h2
  have lt2 : ∀ x ∈ p2, x.block < W.heap.size := by obtain ⟨m, hm⟩ := k2; exact DataW.trod_lt m _ _ _ hm
  obtain ⟨z2, l2, c2, i2, n2⟩ : ∃ xs : List Px.S35, xs.length ≤ cap2 ∧ YthcllibbaindbaaDoorW.PrintWords.Kd.C Px.k35 W a2 xs.length xs ∧ xs.all Px.intB = true ∧ len2 = xs.length := by
    obtain ⟨fuel, hf⟩ := h2
    obtain ⟨A, c, xs, hcs, hl, hC, hI⟩ := Px.open_tokens2 hf
    simp [Value.cells] at hcs
    obtain ⟨rfl, rfl, rfl⟩ := hcs
    exact ⟨xs, hl, hC, hI, rfl⟩
  subst n2
  clear hA0 hval0 hsz0 hsz
  refine (Px.LexisDoes_walk  a0 len0 cap0 z0 a1 a2 cap2 z2 W w0 y0 w1 l2 c2 i2 hlaid).mono fun e W' ⟨he, bel⟩ => ?_
  subst he
  exact ⟨_, rfl, _, _, _, [], _, [], hW', trodAll_mk1 (shut_bool Tryd.underlying4 _), (trodAll_cons_mk (Below.trod laidOut (by kernel_rfl) (of_decide_eq_true (by kernel_rfl)) k0 bel lt0) (trodAll_cons_mk (shut_string Tryd.underlying9 y1) (trodAll_cons_mk (Below.trod laidOut (by kernel_rfl) (of_decide_eq_true (by kernel_rfl)) k2 bel lt2) trodAll_mk0))), rfl, bel.frame _, fun h => by cases h⟩
theorem said : Rows.LexisDoesSaid :=
  OpenClaim.holds_of_cond 6 Tryd.f6 rfl rfl rfl rfl rfl rfl rfl ⟨rfl, rfl, rfl, rfl, rfl⟩ rfl rfl rfl rfl rfl (by kernel_rfl) Tryd.func6 (by kernel_rfl)
    (of_decide_eq_true (by kernel_rfl)) (by unfold Func.isWrapper; first | (rw [if_pos (by decide +kernel)]; kernel_rfl) | (rw [if_neg (by decide +kernel)]; exact ⟨rfl, rfl⟩))
    (fun os started H enc _ F => by rw [OpenClaim.pre_eq_preRow]; exact lifted os started H enc F)
theorem plain (f : FuncId) (fn : Func) (hf : Tryd.pinned.checked.prog.funcNamed "proofprograms/proofprogramslaw14.LexisDoes" = some f) (hfn : Tryd.pinned.checked.prog.funcs[f]? = some fn) :
    true = Tryd.pinned.checked.prog.looks [] ∧ ∀ (j : Nat) t, fn.params[j]? = some t → Tryd.pinned.checked.prog.wantsStandIn t = false := by
  obtain rfl : f = 6 := Option.some.inj ((show Tryd.prog.funcNamed "proofprograms/proofprogramslaw14.LexisDoes" = some 6 by kernel_rfl).symm.trans hf) |>.symm
  obtain rfl : fn = Tryd.f6 := (Option.some.inj (Tryd.func6.symm.trans hfn)).symm
  refine ⟨by kernel_rfl, fun j t ht => ?_⟩
  rw [Tryd.params6] at ht
  obtain rfl | rfl | rfl : t = 22 ∨ t = 9 ∨ t = 30 := by simpa using Array.mem_of_getElem? ht
  · exact (show Tryd.prog.wantsStandIn 22 = false by kernel_rfl)
  · exact (show Tryd.prog.wantsStandIn 9 = false by kernel_rfl)
  · exact (show Tryd.prog.wantsStandIn 30 = false by kernel_rfl)
theorem card : Rows.LexisDoesCardSaid :=
  Claim7.holds_tied_plain_at .later [] _ _ _ _ said (fun _ h => by cases h) (by kernel_rfl) (fun _ h => by cases h) lexisDoes_row_tie rfl ⟨rfl, rfl⟩ (by kernel_rfl) rfl plain (by kernel_rfl)
#print axioms card
end Go.Proofs.YthcllibbaindbaaDoor.lexisDoes
namespace Go.Proofs.YthcllibbaindbaaDoor
/-- The card, under a short name, for the claim. -/
theorem lexisDoes_holds : Rows.LexisDoesCardSaid := lexisDoes.card
end Go.Proofs.YthcllibbaindbaaDoor
