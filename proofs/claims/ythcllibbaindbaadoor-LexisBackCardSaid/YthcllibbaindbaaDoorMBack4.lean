/- What lexis.Tokens comes to: a plain function on lists of bytes. The text of a token: the program's and the reference's agree. The contract of lexis.Text: the texts of tokens, with spaces between. lexis.Tokens as a plain function: the tokens of a list of bytes. Plain facts for the laws about tokens: the sanity check, the deck, which texts are one name. The reference's Text; and back: the tokens of the text of tokens. The generated texts of tokens; one token's text. The contract of lexis.Same: slices.EqualFunc at the function literal of lexis.Same. More blanks: the tokens of a text do not change with the blanks behind spaces and parentheses. -/
import Derived.Test.YthcllibbaindbaaDoorMBack3
import Derived.Test.YthcllibbaindbaaDoorMBack2
import Derived.Lib.ItoaLen
import Derived.Test.YthcllibbaindbaaDoorMBack0
import Derived.Test.YthcllibbaindbaaDoorMBack1
namespace Go.Proofs.YthcllibbaindbaaDoor.Px
open Go.RowKit Go.Lib Go.Proofs.YthcllibbaindbaaDoorW.PrintWords Go.Proofs.YthcllibbaindbaaDoorW.PrintLast Go.Proofs.YthcllibbaindbaaDoorW.PrintMore

def isL (b : UInt8) : Bool := letterP b.toNat
def isD (b : UInt8) : Bool := digitP b.toNat
def isLD (b : UInt8) : Bool := isL b || isD b
def nameOk (l : List UInt8) : Bool := decide (1 ≤ l.length) && decide (l.length ≤ 16) && l.all isL
def numOk (l : List UInt8) : Bool := decide (1 ≤ l.length) && decide (l.length ≤ 6) && l.all isD && !(l.headD 0 == 48 && decide (1 < l.length))
def numVal (l : List UInt8) : Int := ((decFrom 0 l).getD 0 : Nat)

theorem len_data (s : ByteArray) : s.data.toList.length = s.size := by rw [Array.length_toList]; rfl
theorem get_list (s : ByteArray) (i : Nat) (h : i < s.size) : s.data.toList[i]'(by rw [len_data]; exact h) = s.get! i := by
  have := toList_at s i h
  rw [List.getElem?_eq_getElem (by rw [len_data]; exact h)] at this
  exact Option.some.inj this

theorem all_iff (p : Nat → Bool) (s : ByteArray) : s.data.toList.all (fun b => p b.toNat) = true ↔ AllB p s 0 s.size := by
  rw [List.all_eq_true]
  refine ⟨fun h i _ hi => ?_, fun h x hx => ?_⟩
  · have := h (s.data.toList[i]'(by rw [len_data]; exact hi)) (List.getElem_mem _)
    rwa [get_list s i hi] at this
  · obtain ⟨i, hi, rfl⟩ := List.getElem_of_mem hx
    rw [get_list s i (by rw [← len_data]; exact hi)]
    exact h i (by omega) (by rw [← len_data]; exact hi)

theorem isName_iff (s : ByteArray) : IsName s ↔ nameOk s.data.toList = true := by
  unfold IsName nameOk
  rw [Bool.and_eq_true, Bool.and_eq_true, decide_eq_true_iff, decide_eq_true_iff, len_data, and_assoc]
  exact and_congr_right fun _ => and_congr_right fun _ => (all_iff letterP s).symm

theorem head_bt (s : ByteArray) (h : 1 ≤ s.size) : (s.data.toList.headD 0 == 48) = true ↔ bt s 0 = 48 := by
  have e : s.data.toList.headD 0 = s.get! 0 := by
    have h0 := toList_at s 0 (by omega)
    cases hl : s.data.toList with
    | nil => rw [hl] at h0; simp at h0
    | cons a t => rw [hl] at h0; simpa using h0
  have hb : bt s 0 = ((s.get! 0).toNat : Int) := bt_get s 0 (by omega)
  rw [e, beq_iff_eq, hb]
  refine ⟨fun h => by rw [h]; rfl, fun h => ?_⟩
  apply UInt8.toNat_inj.1
  show (s.get! 0).toNat = 48
  omega

theorem isNum_iff (s : ByteArray) : IsNum s ↔ numOk s.data.toList = true := by
  unfold IsNum numOk
  rw [Bool.and_eq_true, Bool.and_eq_true, Bool.and_eq_true, decide_eq_true_iff, decide_eq_true_iff, len_data, and_assoc, and_assoc]
  refine and_congr_right fun h1 => and_congr_right fun _ => and_congr (all_iff digitP s).symm ?_
  rw [Bool.not_eq_true', Bool.eq_false_iff, ne_eq, Bool.and_eq_true, head_bt s h1, decide_eq_true_iff]

theorem Name_ev (s : ByteArray) : Ev (fun k => proofprogramsref14_Name.f k s) (nameOk s.data.toList) := by
  obtain ⟨r, hr⟩ := Name_some 20 (Nat.le_refl _) s
  have e : r = nameOk s.data.toList := by
    rw [Bool.eq_iff_iff, Name_law 20 s r hr]; exact isName_iff s
  rw [← e]
  exact Ev.of (proofprogramsref14_Name.mono s) hr

def numR (l : List UInt8) : Int × Bool := if numOk l then (numVal l, true) else (0, false)
theorem number_ev (s : ByteArray) : Ev (fun k => proofprogramsref14_number.f k s) (numR s.data.toList) := by
  obtain ⟨⟨r1, r2⟩, hr⟩ := number_some 20 (Nat.le_refl _) s
  have e : (r1, r2) = numR s.data.toList := by
    unfold numR
    rcases number_law 20 s r1 r2 hr with ⟨rfl, hn, n, rfl, hd⟩ | ⟨rfl, rfl, hn⟩
    · rw [if_pos ((isNum_iff s).1 hn)]; simp [numVal, hd]
    · rw [if_neg (fun h => hn ((isNum_iff s).2 h))]
  rw [← e]
  exact Ev.of (proofprogramsref14_number.mono s) hr

theorem Name_ev' (s : ByteArray) : Ev (fun k => lexis_Name.f k s) (nameOk s.data.toList) := Name_ev s
theorem number_ev' (s : ByteArray) : Ev (fun k => lexis_number.f k s) (numR s.data.toList) := number_ev s

/-- A word as a token: kind, number, text; and whether it is one. -/
def wordR (l : List UInt8) : Int × Int × List UInt8 × Bool :=
  if nameOk l then (3, 0, l, true)
  else if numOk l then (4, numVal l, [], true)
  else match l with
    | [] => (0, 0, [], false)
    | c :: r => if c = 120 then (5, (numR r).1, [], (numR r).2) else (0, 0, [], false)

theorem mk_data (s : ByteArray) : (⟨s.data.toList.toArray⟩ : ByteArray) = s := by obtain ⟨d⟩ := s; rfl
theorem empty_mk : (⟨([] : List UInt8).toArray⟩ : ByteArray) = ⟨#[]⟩ := rfl

theorem cutx (s : ByteArray) : strings_CutPrefix.f s (⟨#[120]⟩ : ByteArray) = some (match s.data.toList with
    | [] => (s, false)
    | c :: r => if c = 120 then (⟨r.toArray⟩, true) else (s, false)) := by
  have h1 : ((⟨#[120]⟩ : ByteArray).size : Int) = 1 := rfl
  have h2 : (⟨#[120]⟩ : ByteArray).toList = [120] := by rw [Lib.toList_data]
  unfold strings_CutPrefix.f stringslite_CutPrefix.f stringslite_HasPrefix.f
  rw [h1]
  have hl := len_data s
  cases hd : s.data.toList with
  | nil =>
    rw [hd] at hl; simp at hl
    rw [if_neg (by omega)]
    simp
  | cons c r =>
    rw [hd] at hl; simp at hl
    rw [if_pos (by omega), if_pos (by omega), if_pos (by omega), Lib.extract_toList, hd, h2]
    have e : (List.take (Int.toNat 1 - 0) (List.drop 0 (c :: r)) == [120]) = decide (c = 120) := by
      rw [Bool.eq_iff_iff]; simp
    rw [e]
    simp only [Option.bind_some]
    by_cases hc : c = 120
    · rw [if_pos (by simpa using hc), if_pos (by omega), if_pos (by omega)]
      simp only [Option.bind_some, if_pos hc]
      congr 2
      rw [← mk_data (s.extract (Int.toNat 1) s.size), Lib.extract_data, hd]
      congr 2
      simp
      rw [List.take_of_length_le (by omega)]
    · rw [if_neg (by simpa using hc)]
      simp [hc]

theorem word_ev (s : ByteArray) : Ev (fun k => lexis_word.f k s) ((wordR s.data.toList).1, (wordR s.data.toList).2.1, 0, ⟨(wordR s.data.toList).2.2.1.toArray⟩, (wordR s.data.toList).2.2.2) := by
  unfold lexis_word.f
  refine Ev.bind (Name_ev' s) ?_
  unfold wordR
  cases hn : nameOk s.data.toList with
  | true => simp only [if_true]; rw [mk_data]; exact Ev.now _
  | false =>
    simp only [Bool.false_eq_true, if_false]
    refine Ev.bind (number_ev' s) ?_
    unfold numR
    cases hm : numOk s.data.toList with
    | true => simp only [if_true]; exact Ev.now _
    | false =>
      simp only [Bool.false_eq_true, if_false, cutx, Option.bind_some]
      cases hd : s.data.toList with
      | nil => simp only [Bool.false_eq_true, if_false]; exact Ev.now _
      | cons c r =>
        by_cases hc : c = 120
        · simp only [if_pos hc, if_true]
          exact Ev.bind (number_ev' ⟨r.toArray⟩) (Ev.now _)
        · simp only [if_neg hc, Bool.false_eq_true, if_false]; exact Ev.now _

end Go.Proofs.YthcllibbaindbaaDoor.Px
namespace Go.Proofs.YthcllibbaindbaaDoor.Px
open Go.RowKit Go.Lib Go.Proofs.YthcllibbaindbaaDoorW.PrintWords Go.Proofs.YthcllibbaindbaaDoorW.PrintLast Go.Proofs.YthcllibbaindbaaDoorW.PrintMore

theorem evp {α : Type} {f g : Nat → Option α} {r : α} {c : Prop} [Decidable c] (h : c) (k : Ev f r) : Ev (fun n => if c then f n else g n) r := by simpa only [if_pos h] using k
theorem evn {α : Type} {f g : Nat → Option α} {r : α} {c : Prop} [Decidable c] (h : ¬ c) (k : Ev g r) : Ev (fun n => if c then f n else g n) r := by simpa only [if_neg h] using k

theorem dec_len : ∀ (m u : Nat), (u < 10 ^ (m + 1)) ↔ (decDigits u).length ≤ m + 1
  | 0, u => by
    by_cases h : u < 10
    · rw [decDigits_one h]; simp; omega
    · rw [decDigits, dif_neg h, List.length_append]
      have : 1 ≤ (decDigits (u / 10)).length := by rw [decDigits_length]; exact nDigits_pos _
      simp only [List.length_cons, List.length_nil]; omega
  | m + 1, u => by
    by_cases h : u < 10
    · rw [decDigits_one h]
      have : (10 : Nat) ≤ 10 ^ (m + 1 + 1) := by
        have := Nat.pow_le_pow_right (n := 10) (by omega) (show 1 ≤ m + 1 + 1 by omega)
        simpa using this
      simp; omega
    · rw [decDigits, dif_neg h, List.length_append]
      have ih := dec_len m (u / 10)
      have e : u < 10 ^ (m + 1 + 1) ↔ u / 10 < 10 ^ (m + 1) := by
        rw [Nat.pow_succ 10 (m + 1)]; omega
      rw [e, ih]; simp

theorem dec_six (u : Nat) : (decDigits u).length ≤ 6 ↔ u ≤ 999999 := by
  rw [← dec_len 5 u]; omega

/-- The text of a token, where it is one. -/
def txtO (t : S35) : Option (List UInt8) :=
  if t.f0 = 1 then (if t.f1 = 0 ∧ t.f3.data.toList = [] then some [40] else none)
  else if t.f0 = 2 then (if t.f1 = 0 ∧ t.f3.data.toList = [] then some [41] else none)
  else if t.f0 = 3 then (if t.f1 = 0 ∧ nameOk t.f3.data.toList = true then some t.f3.data.toList else none)
  else if t.f0 = 4 then (if 0 ≤ t.f1 ∧ t.f1 ≤ 999999 ∧ t.f3.data.toList = [] then some (decDigits t.f1.toNat) else none)
  else if t.f0 = 5 then (if 0 ≤ t.f1 ∧ t.f1 ≤ 999999 ∧ t.f3.data.toList = [] then some (120 :: decDigits t.f1.toNat) else none)
  else none

theorem isnil_beq (s : ByteArray) : (s.toList == ([] : List UInt8)) = decide (s.data.toList = []) := by
  rw [Lib.toList_data, Bool.eq_iff_iff]; simp
theorem nenil_bne (s : ByteArray) : (s.toList != ([] : List UInt8)) = !decide (s.data.toList = []) := by
  rw [bne, isnil_beq]

/-- What a text function answers, told by 'txtO': the text where it is one. -/
def Tells (o : Option (List UInt8)) (r : ByteArray × Bool) : Prop := match o with
  | some l => r = (⟨l.toArray⟩, true)
  | none => r.2 = false

theorem tells_if {p : Prop} [Decidable p] {b : Bool} {s : ByteArray} {l : List UInt8} (hb : b = decide p) (hs : p → s = ⟨l.toArray⟩) : Tells (if p then some l else none) (s, b) := by
  by_cases h : p
  · rw [if_pos h]; show (s, b) = _; rw [hb, hs h, decide_eq_true h]
  · rw [if_neg h]; show b = false; rw [hb, decide_eq_false h]

theorem no_num {a n : Int} {s : ByteArray} (h : ¬ (0 ≤ n ∧ n ≤ 999999 ∧ s.data.toList = [])) :
    Tells (if a = 4 then (if 0 ≤ n ∧ n ≤ 999999 ∧ s.data.toList = [] then some (decDigits n.toNat) else none) else if a = 5 then (if 0 ≤ n ∧ n ≤ 999999 ∧ s.data.toList = [] then some (120 :: decDigits n.toNat) else none) else none) ((⟨#[]⟩ : ByteArray), false) := by
  rw [if_neg h, if_neg h]
  split
  · rfl
  · split <;> rfl

def InInt (n : Int) : Prop := -9223372036854775808 ≤ n ∧ n ≤ 9223372036854775807

theorem ltext_ev (t : S35) (hn : InInt t.f1) : ∃ r, Ev (fun k => lexis_text.f k t.f0 t.f1 t.f2 t.f3) r ∧ Tells (txtO t) r := by
  obtain ⟨a, n, c, s⟩ := t
  simp only [txtO]
  have hn' : -9223372036854775808 ≤ n ∧ n ≤ 9223372036854775807 := hn
  have hI : strconv_Itoa.f n = some ⟨(Lib.itoa n).toArray⟩ := by unfold strconv_Itoa.f; rw [if_pos hn']
  have hsz : (⟨(Lib.itoa n).toArray⟩ : ByteArray).size ≤ 21 := by
    have := itoa_length_le n hn'.1 hn'.2
    simpa [ByteArray.size] using this
  have step1 : ∀ (x : ByteArray) (b : Bool), (b = decide (0 ≤ n ∧ n ≤ 999999)) → (a = 4 → x = ⟨(Lib.itoa n).toArray⟩) → (a = 5 → x = ⟨(120 :: Lib.itoa n).toArray⟩) →
      ∃ r, Ev (fun k => lexis_text.j1 k x b a n c s) r ∧ Tells (if a = 1 then (if n = 0 ∧ s.data.toList = [] then some [40] else none)
  else if a = 2 then (if n = 0 ∧ s.data.toList = [] then some [41] else none)
  else if a = 3 then (if n = 0 ∧ nameOk s.data.toList = true then some s.data.toList else none)
  else if a = 4 then (if 0 ≤ n ∧ n ≤ 999999 ∧ s.data.toList = [] then some (decDigits n.toNat) else none)
  else if a = 5 then (if 0 ≤ n ∧ n ≤ 999999 ∧ s.data.toList = [] then some (120 :: decDigits n.toNat) else none)
  else none) r := by
    intro x b hb hx4 hx5
    have st : ∀ {r : ByteArray × Bool}, Ev (fun k => if a = 1 then (if n = 0 then (some ((⟨#[40]⟩ : ByteArray), (s.toList == ([] : List UInt8)))) else (some ((⟨#[40]⟩ : ByteArray), false))) else (if a = 2 then (if n = 0 then (some ((⟨#[41]⟩ : ByteArray), (s.toList == ([] : List UInt8)))) else (some ((⟨#[41]⟩ : ByteArray), false))) else (if a = 3 then (if n = 0 then ((lexis_Name.f k s).bind fun t261 => (some (s, t261))) else (some (s, false))) else (if a = 4 then (if b = true then (some (x, (s.toList == ([] : List UInt8)))) else (some (x, false))) else (if a = 5 then (if b = true then (some (x, (s.toList == ([] : List UInt8)))) else (some (x, false))) else (some ((⟨#[]⟩ : ByteArray), false))))))) r → Ev (fun k => lexis_text.j1 k x b a n c s) r := fun h => Ev.step (fun k => by rw [lexis_text.j1]) h
    have hit : 0 ≤ n → Lib.itoa n = decDigits n.toNat := fun h => by unfold Lib.itoa; rw [if_neg (by omega)]
    by_cases h1 : a = 1
    · rw [if_pos h1]
      by_cases hn : n = 0
      · exact ⟨_, st (evp h1 (evp hn (Ev.now _))), tells_if (by rw [isnil_beq]; simp [hn]) (fun _ => rfl)⟩
      · exact ⟨_, st (evp h1 (evn hn (Ev.now _))), by rw [if_neg (fun h => hn h.1)]; rfl⟩
    · rw [if_neg h1]
      by_cases h2 : a = 2
      · rw [if_pos h2]
        by_cases hn : n = 0
        · exact ⟨_, st (evn h1 (evp h2 (evp hn (Ev.now _)))), tells_if (by rw [isnil_beq]; simp [hn]) (fun _ => rfl)⟩
        · exact ⟨_, st (evn h1 (evp h2 (evn hn (Ev.now _)))), by rw [if_neg (fun h => hn h.1)]; rfl⟩
      · rw [if_neg h2]
        by_cases h3 : a = 3
        · rw [if_pos h3]
          by_cases hn : n = 0
          · exact ⟨_, st (evn h1 (evn h2 (evp h3 (evp hn (Ev.bind (Name_ev' s) (Ev.now _)))))), tells_if (by simp [hn]) (fun _ => (mk_data s).symm)⟩
          · exact ⟨_, st (evn h1 (evn h2 (evp h3 (evn hn (Ev.now _))))), by rw [if_neg (fun h => hn h.1)]; rfl⟩
        · rw [if_neg h3]
          by_cases h4 : a = 4
          · rw [if_pos h4]
            by_cases hr : 0 ≤ n ∧ n ≤ 999999
            · have : b = true := by rw [hb]; exact decide_eq_true hr
              exact ⟨_, st (evn h1 (evn h2 (evn h3 (evp h4 (evp this (Ev.now _)))))), tells_if (by rw [isnil_beq]; simp [hr]) (fun _ => by rw [hx4 h4, hit hr.1])⟩
            · have : b = false := by rw [hb]; exact decide_eq_false hr
              exact ⟨_, st (evn h1 (evn h2 (evn h3 (evp h4 (evn (by simp [this]) (Ev.now _)))))), by rw [if_neg (fun h => hr ⟨h.1, h.2.1⟩)]; rfl⟩
          · rw [if_neg h4]
            by_cases h5 : a = 5
            · rw [if_pos h5]
              by_cases hr : 0 ≤ n ∧ n ≤ 999999
              · have : b = true := by rw [hb]; exact decide_eq_true hr
                exact ⟨_, st (evn h1 (evn h2 (evn h3 (evn h4 (evp h5 (evp this (Ev.now _))))))), tells_if (by rw [isnil_beq]; simp [hr]) (fun _ => by rw [hx5 h5, hit hr.1])⟩
              · have : b = false := by rw [hb]; exact decide_eq_false hr
                exact ⟨_, st (evn h1 (evn h2 (evn h3 (evn h4 (evp h5 (evn (by simp [this]) (Ev.now _))))))), by rw [if_neg (fun h => hr ⟨h.1, h.2.1⟩)]; rfl⟩
            · rw [if_neg h5]
              exact ⟨_, st (evn h1 (evn h2 (evn h3 (evn h4 (evn h5 (Ev.now _)))))), rfl⟩
  have step0 : ∀ (x : ByteArray), (a = 4 → x = ⟨(Lib.itoa n).toArray⟩) → (a = 5 → x = ⟨(120 :: Lib.itoa n).toArray⟩) →
      ∃ r, Ev (fun k => lexis_text.j0 k x a n c s) r ∧ Tells (if a = 1 then (if n = 0 ∧ s.data.toList = [] then some [40] else none)
  else if a = 2 then (if n = 0 ∧ s.data.toList = [] then some [41] else none)
  else if a = 3 then (if n = 0 ∧ nameOk s.data.toList = true then some s.data.toList else none)
  else if a = 4 then (if 0 ≤ n ∧ n ≤ 999999 ∧ s.data.toList = [] then some (decDigits n.toNat) else none)
  else if a = 5 then (if 0 ≤ n ∧ n ≤ 999999 ∧ s.data.toList = [] then some (120 :: decDigits n.toNat) else none)
  else none) r := by
    intro x hx4 hx5
    by_cases h0 : n ≥ 0
    · obtain ⟨r, hr, ht⟩ := step1 x (decide (((⟨(Lib.itoa n).toArray⟩ : ByteArray).size : Int) ≤ 6)) (by
        rw [Bool.eq_iff_iff, decide_eq_true_iff, decide_eq_true_iff]
        have e : (⟨(Lib.itoa n).toArray⟩ : ByteArray).size = (decDigits n.toNat).length := by
          have : Lib.itoa n = decDigits n.toNat := by unfold Lib.itoa; rw [if_neg (by omega)]
          rw [this]; simp [ByteArray.size]
        rw [e]
        have := dec_six n.toNat
        omega) hx4 hx5
      refine ⟨r, Ev.step (f := _) (fun k => by rw [lexis_text.j0]) (evp h0 ?_), ht⟩
      rw [hI]; exact hr
    · obtain ⟨r, hr, ht⟩ := step1 x false (by simp; omega) hx4 hx5
      exact ⟨r, Ev.step (f := _) (fun k => by rw [lexis_text.j0]) (evn h0 hr), ht⟩
  unfold lexis_text.f
  rw [hI]
  simp only [Option.bind_some]
  by_cases h5 : a = 5
  · obtain ⟨r, hr, ht⟩ := step0 ((⟨#[120]⟩ : ByteArray) ++ ⟨(Lib.itoa n).toArray⟩) (fun h => by omega) (fun _ => by
      rw [← mk_data ((⟨#[120]⟩ : ByteArray) ++ (⟨(Lib.itoa n).toArray⟩ : ByteArray)), Go.Joins.data_append]; rfl)
    exact ⟨r, evp h5 (evp (by omega) hr), ht⟩
  · obtain ⟨r, hr, ht⟩ := step0 ⟨(Lib.itoa n).toArray⟩ (fun _ => rfl) (fun h => absurd h h5)
    exact ⟨r, evn h5 hr, ht⟩
end Go.Proofs.YthcllibbaindbaaDoor.Px
namespace Go.Proofs.YthcllibbaindbaaDoor.Px
open Go.RowKit Go.Lib Go.Proofs.YthcllibbaindbaaDoorW.PrintWords Go.Proofs.YthcllibbaindbaaDoorW.PrintLast Go.Proofs.YthcllibbaindbaaDoorW.PrintMore

def sepB (prev : Option Int) (k : Int) : Bool := match prev with
  | none => false
  | some p => p != 1 && k != 2
def joinF (prev : Option Int) : List S35 → Option (List UInt8)
  | [] => some []
  | t :: r => match txtO t with
    | none => none
    | some s => (joinF (some t.f0) r).map fun rest => (if sepB prev t.f0 then [32] else []) ++ s ++ rest
def textR (l : List S35) : ByteArray × Int :=
  if l.length > 2048 then (⟨#[]⟩, 3) else match joinF none l with
    | none => (⟨#[]⟩, 2)
    | some bs => (⟨bs.toArray⟩, 0)
def intB (t : S35) : Bool := decide (-9223372036854775808 ≤ t.f1) && decide (t.f1 ≤ 9223372036854775807)
def lexis_Text.f (l0 : List (S35)) : Option (ByteArray × Int) := if l0.all intB then some (textR l0) else none

def prevK (l : List S35) (i : Nat) : Option Int := if i = 0 then none else some (l.getD (i - 1) z35).f0
/-- Where the loop stands: at x, with 'acc' written. -/
def Inv (l : List S35) (x : Int) (acc : List UInt8) : Prop :=
  0 ≤ x ∧ x ≤ l.length ∧ acc.length ≤ 18 * x.toNat ∧ joinF none l = (joinF (prevK l x.toNat) (l.drop x.toNat)).map (acc ++ ·)

theorem txtO_len (t : S35) (s : List UInt8) (h : txtO t = some s) : s.length ≤ 17 := by
  unfold txtO at h
  split at h
  · split at h
    · cases h; simp
    · cases h
  · split at h
    · split at h
      · cases h; simp
      · cases h
    · split at h
      · split at h
        · rename_i hn
          cases h
          have := hn.2
          rw [nameOk, Bool.and_eq_true, Bool.and_eq_true, decide_eq_true_iff, decide_eq_true_iff] at this
          omega
        · cases h
      · split at h
        · split at h
          · rename_i hn
            cases h
            have := (dec_six t.f1.toNat).2 (by omega)
            omega
          · cases h
        · split at h
          · split at h
            · rename_i hn
              cases h
              have := (dec_six t.f1.toNat).2 (by omega)
              simp; omega
            · cases h
          · cases h

theorem drop_rd (l : List S35) (x : Int) (h0 : 0 ≤ x) (h1 : x < l.length) : l.drop x.toNat = rd_T35 l x :: l.drop (x.toNat + 1) := by
  rw [List.drop_eq_getElem_cons (by omega)]
  congr 1
  rw [rd_T35, List.getD_eq_getElem?_getD, List.getElem?_eq_getElem (by omega)]
  rfl

theorem Inv.start (l : List S35) : Inv l 0 [] := ⟨by omega, by omega, by simp, by
  show joinF none l = Option.map (fun x => [] ++ x) (joinF none l)
  cases joinF none l <;> rfl⟩
theorem Inv.next {l : List S35} {x : Int} {acc s : List UInt8} (h : Inv l x acc) (h1 : x < l.length) (hs : txtO (rd_T35 l x) = some s) :
    Inv l (x + 1) (acc ++ ((if sepB (prevK l x.toNat) (rd_T35 l x).f0 then [32] else []) ++ s)) := by
  obtain ⟨h0, _, hl, hj⟩ := h
  have hlen := txtO_len _ _ hs
  have e : (x + 1).toNat = x.toNat + 1 := by omega
  refine ⟨by omega, by omega, ?_, ?_⟩
  · rw [List.length_append, List.length_append, e]
    split <;> simp <;> omega
  · rw [hj, drop_rd l x h0 h1, e]
    have hp : prevK l (x.toNat + 1) = some (rd_T35 l x).f0 := by
      unfold prevK; rw [if_neg (by omega)]; rfl
    rw [hp, joinF, hs]
    cases joinF (some (rd_T35 l x).f0) (l.drop (x.toNat + 1)) with
    | none => rfl
    | some rest => simp [List.append_assoc]
theorem Inv.fails {l : List S35} {x : Int} {acc : List UInt8} (h : Inv l x acc) (h1 : x < l.length) (hs : txtO (rd_T35 l x) = none) : joinF none l = none := by
  obtain ⟨h0, _, _, hj⟩ := h
  rw [hj, drop_rd l x h0 h1, joinF, hs]; rfl
theorem Inv.done {l : List S35} {x : Int} {acc : List UInt8} (h : Inv l x acc) (h1 : ¬ x < l.length) : joinF none l = some acc := by
  obtain ⟨h0, h2, _, hj⟩ := h
  rw [hj, List.drop_eq_nil_of_le (by omega)]
  simp [joinF]

theorem builder_later {B b : Nat} {bs : List Value} {w w' : World} (h : Lib.IsBuilder 59 5 B b bs w) (hb : Below w.heap.size w w') : Lib.IsBuilder 59 5 B b bs w' := by
  have at_ : ∀ {p : Value}, Lib.BuilderAt 59 5 B b p bs w → Lib.BuilderAt 59 5 B b p bs w' := by
    rintro p ⟨hB, v, hbk, hown, hne⟩
    have lt : ∀ {k : Nat} {o : Obj}, w.heap[k]? = some o → k < w.heap.size := by
      intro k o hk
      rcases Nat.lt_or_ge k w.heap.size with h' | h'
      · exact h'
      · simp [Array.getElem?_eq_none h'] at hk
    refine ⟨hB, v, (hb.block b (lt hbk)).trans hbk, ⟨hown.1, ?_⟩, hne⟩
    rcases hown.2 with h | ⟨g, cap, cur, h1, h2, h3, h4⟩
    · exact .inl h
    · exact .inr ⟨g, cap, cur, h1, h2, (hb.block g (lt h3)).trans h3, h4⟩
  exact h.elim (fun h => .inl (at_ h)) (fun h => .inr (at_ h))

theorem used_builder {B b : Nat} {bs : List Value} {w : World} (h : Lib.BuilderAt 59 5 B b (.pointer (some ⟨b, 0, none⟩)) bs w) : Lib.IsBuilder 59 5 B b bs w := .inr h
theorem byteCells_app (a b : List UInt8) : Lib.byteCells (a ++ b) = Lib.byteCells a ++ Lib.byteCells b := by simp [Lib.byteCells]
theorem byteCells_len (a : List UInt8) : (Lib.byteCells a).length = a.length := by simp [Lib.byteCells]
theorem strCells_mk (s : List UInt8) : Lib.strCells ⟨s.toArray⟩ = Lib.byteCells s := by simp [Lib.strCells, Lib.byteCells]

theorem int_at {l : List S35} (h : l.all intB = true) (x : Int) (h0 : 0 ≤ x) (h1 : x < l.length) : InInt (rd_T35 l x).f1 := by
  rw [List.all_eq_true] at h
  have hm : rd_T35 l x ∈ l := by
    rw [rd_T35, List.getD_eq_getElem?_getD, List.getElem?_eq_getElem (by omega)]
    exact List.getElem_mem _
  have := h _ hm
  rw [intB, Bool.and_eq_true, decide_eq_true_iff, decide_eq_true_iff] at this
  exact this

set_option maxHeartbeats 4000000 in
set_option maxRecDepth 100000 in
theorem Text_walk (A0 : Option Addr) (c0 : Nat) (l0 : List (S35)) (w : World) (hr0 : Kd.C k35 w A0 l0.length l0) (hc0 : l0.length ≤ c0) (hLaid : Laid w) (hi : l0.all intB = true) :
    Calls Tryd.prog 16 #[.slice A0 l0.length c0] w fun e w' => e = .returned (.tuple #[.string (textR l0).1, .int .i64 (textR l0).2]) ∧ Below w.heap.size w w' := by
  have hu35 := Tryd.underlying35
  have HR0 := Aside0.mk hr0
  have HC0 := Aside0.mk hc0
  have HLaid := Aside0.mk hLaid
  have HI := Aside0.mk hi
  clear hr0 hc0 hLaid hi
  have HB := Aside0.mk (Below.refl w.heap.size w)
  by_cases c2 : (l0.length : Int) > 2048
  · have ht : textR l0 = (⟨#[]⟩, 3) := by unfold textR; rw [if_pos (by omega)]
    rw [ht]
    have c2b0 : decide (2048 < (l0.length : Int)) = true := decide_eq_true c2
    have c2b1 : decide (2048 < l0.length) = true := decide_eq_true (by omega)
    clear c2 ht
    go_enter Tryd.func16, Tryd.ntmps16
    go_wp2
    go_ret2
    exact ⟨rfl, HB.out⟩
  · have c2b0 : decide (2048 < (l0.length : Int)) = false := decide_eq_false c2
    have c2b1 : decide (2048 < l0.length) = false := decide_eq_false (by omega)
    have HLN := Aside0.mk (show l0.length ≤ 2048 by omega)
    have HT : Aside0 (∀ o, joinF none l0 = o → textR l0 = match o with | none => (⟨#[]⟩, 2) | some bs => (⟨bs.toArray⟩, 0)) := ⟨fun o ho => by unfold textR; rw [if_neg (by omega), ho]⟩
    clear c2
    generalize textR l0 = T at HT ⊢
    go_enter Tryd.func16, Tryd.ntmps16
    go_wp2
    go_loopw [14] (fun s14 wr => ∃ (x : Int) (acc : List UInt8), s14 = .int .i64 x ∧ Aside0 (Inv l0 x acc) ∧ Aside0 (Lib.IsBuilder 59 5 w.heap.size w.heap.size (Lib.byteCells acc) wr) ∧ Aside0 (Below w.heap.size w wr)) (fun s14 _ => l0.length - (intOf s14).toNat)
    case atStart => exact ⟨0, [], rfl, ⟨Inv.start _⟩, ⟨fresh_isBuilder 59 5 w⟩, ⟨below_alloc HB.out _⟩⟩
    case round =>
      clear HB
      obtain ⟨x, acc, rfl, HIv, HBu, HB⟩ := hrel
      have hx0 : 0 ≤ x := HIv.out.1
      have hx2 : x ≤ 2048 := by have := HIv.out.2.1; have := HLN.out; omega
      have HAL : Aside0 (acc.length ≤ 40000) := ⟨by have := HIv.out.2.2.1; omega⟩
      by_cases hx1 : x < (l0.length : Int)
      · obtain ⟨⟨s, ok⟩, hev, htell⟩ := ltext_ev (rd_T35 l0 x) (int_at HI.out x hx0 hx1)
        obtain ⟨kt, hk⟩ := Ev.rounds hev
        have AK := Aside0.mk hk
        clear hev hk
        have c3b0 : decide (x < (l0.length : Int)) = true := decide_eq_true hx1
        cases ho : txtO (rd_T35 l0 x) with
        | none =>
          rw [ho] at htell
          obtain rfl : ok = false := htell
          have ht := HT.out none (HIv.out.fails hx1 ho)
          simp only at ht
          subst ht
          clear HT ho
          obtain ⟨ad, e188, hx188_0, hx188_1, hx188_2, hx188_3⟩ := at_T35 HR0.out x hx0 hx1
          cases e188
          replace hx188_0 := (HB.out.cell (World.block_lt_of_cell? w _ hx188_0)).trans hx188_0
          replace hx188_1 := (HB.out.cell (World.block_lt_of_cell? w _ hx188_1)).trans hx188_1
          replace hx188_2 := (HB.out.cell (World.block_lt_of_cell? w _ hx188_2)).trans hx188_2
          replace hx188_3 := (HB.out.cell (World.block_lt_of_cell? w _ hx188_3)).trans hx188_3
          go_wp2_with (first | ((with_reducible refine gate_dst (N := 6) rfl ?_); refine box_event ?hg (N := 6) ?hd (cs := #[.int .i64 0, .int .i64 0, .int .i64 0, .string (⟨#[]⟩ : ByteArray)]) (t := 35) ?hr ?_; (case hd => rfl); (case hg => rfl); (case hr => first | (go_simp; done) | (go_simp; rfl)); intro gb hg w14 hbox hb; have HW := Aside0.mk (below_step (Below.refl wr.heap.size wr) hb); have BK := Aside0.mk hbox; have GE := Aside0.mk (show wr.heap.size ≤ gb by rw [hg]; exact Nat.le_refl _); clear hb hbox hg; have hcz0 : w14.cell? ⟨gb, 0, none⟩ = some (.int .i64 0) := (blk_cell BK.out 0).trans rfl; have hcz1 : w14.cell? ⟨gb, 1, none⟩ = some (.int .i64 0) := (blk_cell BK.out 1).trans rfl; have hcz2 : w14.cell? ⟨gb, 2, none⟩ = some (.int .i64 0) := (blk_cell BK.out 2).trans rfl; have hcz3 : w14.cell? ⟨gb, 3, none⟩ = some (.string (⟨#[]⟩ : ByteArray)) := (blk_cell BK.out 3).trans rfl; have hfz0 := blk_frozen BK.out 0; have hfz1 := blk_frozen BK.out 1; have hfz2 := blk_frozen BK.out 2; have hfz3 := blk_frozen BK.out 3) | ((with_reducible refine gate_callee (f := 29) rfl ?_); refine goesL_ (some 21) rfl rfl Tryd.func29 (by kernel_rfl) rfl #[.agg #[.int .i64 ((rd_T35 l0 x).f0), .int .i64 ((rd_T35 l0 x).f1), .int .i64 ((rd_T35 l0 x).f2), .string ((rd_T35 l0 x).f3)]] rfl (by (try simp only [List.map_toArray, List.map_cons, List.map_nil]); first | done | rfl | (simp only [List.length_drop, List.length_take]; rfl)) ?_; (with_reducible refine (lexis_text.calls kt ((rd_T35 l0 x).f0) ((rd_T35 l0 x).f1) ((rd_T35 l0 x).f2) ((rd_T35 l0 x).f3) s false _ ?side1 AK.out).mono ?_); (case side1 => exact Laid.below HLaid.out (HB.out.trans (Below.mono (by repeat (first | (with_reducible first | exact HW.out | apply below_alloc | apply pw_below_drewN | apply below_drew1 | refine below_set ?_ GE.out) | exact HW.out)) HB.out.size))); rintro e w16 ⟨rfl, hb⟩; refine ⟨_, rfl, ?_⟩; have BK2 := Aside0.mk (blk_below (g := gb) (o := .cells #[.int .i64 ((rd_T35 l0 x).f0), .int .i64 ((rd_T35 l0 x).f1), .int .i64 ((rd_T35 l0 x).f2), .string ((rd_T35 l0 x).f3)] 35 (0, 0)) (by (with_reducible repeat (first | refine blk_drewN ?_ _ | refine blk_drew ?_ | refine blk_alloc ?_ _)); refine blk_put (cs := #[.int .i64 ((rd_T35 l0 x).f0), .int .i64 ((rd_T35 l0 x).f1), .int .i64 ((rd_T35 l0 x).f2), .string (⟨#[]⟩ : ByteArray)]) ?_ 3 _ rfl; (with_reducible repeat (first | refine blk_drewN ?_ _ | refine blk_drew ?_ | refine blk_alloc ?_ _)); refine blk_put (cs := #[.int .i64 ((rd_T35 l0 x).f0), .int .i64 ((rd_T35 l0 x).f1), .int .i64 0, .string (⟨#[]⟩ : ByteArray)]) ?_ 2 _ rfl; (with_reducible repeat (first | refine blk_drewN ?_ _ | refine blk_drew ?_ | refine blk_alloc ?_ _)); refine blk_put (cs := #[.int .i64 ((rd_T35 l0 x).f0), .int .i64 0, .int .i64 0, .string (⟨#[]⟩ : ByteArray)]) ?_ 1 _ rfl; (with_reducible repeat (first | refine blk_drewN ?_ _ | refine blk_drew ?_ | refine blk_alloc ?_ _)); refine blk_put (cs := #[.int .i64 0, .int .i64 0, .int .i64 0, .string (⟨#[]⟩ : ByteArray)]) ?_ 0 _ rfl; (with_reducible repeat (first | refine blk_drewN ?_ _ | refine blk_drew ?_ | refine blk_alloc ?_ _)); exact BK.out) hb); have HW2 := Aside0.mk (below_step (show Below wr.heap.size wr _ from by repeat (first | (with_reducible first | exact HW.out | apply below_alloc | apply pw_below_drewN | apply below_drew1 | refine below_set ?_ GE.out) | exact HW.out)) hb); clear hb; have HBu2 := Aside0.mk (builder_later HBu.out HW2.out); have HB2 := Aside0.mk (HB.out.trans (HW2.out.mono HB.out.size)); clear HW; have hd0 : w16.cell? ⟨gb, 0, none⟩ = some (.int .i64 ((rd_T35 l0 x).f0)) := (blk_cell BK2.out 0).trans rfl))
          go_ret2
          exact ⟨rfl, HB2.out⟩
        | some bs =>
          rw [ho] at htell
          obtain ⟨hsb, rfl⟩ := Prod.mk.inj (show (s, ok) = ((⟨bs.toArray⟩ : ByteArray), true) from htell)
          have HSB := Aside0.mk hsb
          have HS := Aside0.mk ho
          have HSL : Aside0 (s.size ≤ 17) := ⟨by have := txtO_len _ _ ho; rw [hsb]; simpa [ByteArray.size] using this⟩
          clear hsb ho htell
          by_cases hx3 : 0 < x
          · have hx4 : 1 ≤ x := hx3
            have hx5 : 0 ≤ x - 1 := by omega
            have hx6 : x - 1 < (l0.length : Int) := by omega
            have c8b0 : decide (0 < x) = true := decide_eq_true hx3
            have hpk : prevK l0 x.toNat = some (rd_T35 l0 (x - 1)).f0 := by unfold prevK; rw [if_neg (by omega), rd_T35, show (x - 1).toNat = x.toNat - 1 by omega]
            have HPK := Aside0.mk hpk
            clear hpk
            by_cases c12 : (rd_T35 l0 (x - 1)).f0 = 1
            · have HSep : Aside0 (sepB (prevK l0 x.toNat) (rd_T35 l0 x).f0 = false) := ⟨by rw [HPK.out]; simp [sepB, c12]⟩
              have c12b0 : (((rd_T35 l0 (x - 1)).f0) == 1) = true := beq_iff_eq.mpr c12
              have c12b1 : (((rd_T35 l0 (x - 1)).f0) != 1) = false := bne_eq_false_iff_eq.mpr c12
              clear c12
              obtain ⟨ad, e188, hx188_0, hx188_1, hx188_2, hx188_3⟩ := at_T35 HR0.out x hx0 hx1
              obtain ⟨ad1, e189, hy188_0, hy1, hy2, hy3⟩ := at_T35 HR0.out (x - 1) (by omega) (by omega)
              clear hy1 hy2 hy3
              rw [show (x - 1).toNat = x.toNat - 1 by omega] at hy188_0
              have HY := Aside0.mk hy188_0
              clear hy188_0
              have e190 := e188.symm.trans e189
              cases e188
              cases e190
              clear e189
              replace hx188_0 := (HB.out.cell (World.block_lt_of_cell? w _ hx188_0)).trans hx188_0
              replace hx188_1 := (HB.out.cell (World.block_lt_of_cell? w _ hx188_1)).trans hx188_1
              replace hx188_2 := (HB.out.cell (World.block_lt_of_cell? w _ hx188_2)).trans hx188_2
              replace hx188_3 := (HB.out.cell (World.block_lt_of_cell? w _ hx188_3)).trans hx188_3
              go_wp2_with (first | ((with_reducible refine gate_dst (N := 6) rfl ?_); refine box_event ?hg (N := 6) ?hd (cs := #[.int .i64 0, .int .i64 0, .int .i64 0, .string (⟨#[]⟩ : ByteArray)]) (t := 35) ?hr ?_; (case hd => rfl); (case hg => rfl); (case hr => first | (go_simp; done) | (go_simp; rfl)); intro gb hg w14 hbox hb; have HW := Aside0.mk (below_step (Below.refl wr.heap.size wr) hb); have BK := Aside0.mk hbox; have GE := Aside0.mk (show wr.heap.size ≤ gb by rw [hg]; exact Nat.le_refl _); clear hb hbox hg; have hcz0 : w14.cell? ⟨gb, 0, none⟩ = some (.int .i64 0) := (blk_cell BK.out 0).trans rfl; have hcz1 : w14.cell? ⟨gb, 1, none⟩ = some (.int .i64 0) := (blk_cell BK.out 1).trans rfl; have hcz2 : w14.cell? ⟨gb, 2, none⟩ = some (.int .i64 0) := (blk_cell BK.out 2).trans rfl; have hcz3 : w14.cell? ⟨gb, 3, none⟩ = some (.string (⟨#[]⟩ : ByteArray)) := (blk_cell BK.out 3).trans rfl; have hfz0 := blk_frozen BK.out 0; have hfz1 := blk_frozen BK.out 1; have hfz2 := blk_frozen BK.out 2; have hfz3 := blk_frozen BK.out 3) | ((with_reducible refine gate_callee (f := 29) rfl ?_); refine goesL_ (some 21) rfl rfl Tryd.func29 (by kernel_rfl) rfl #[.agg #[.int .i64 ((rd_T35 l0 x).f0), .int .i64 ((rd_T35 l0 x).f1), .int .i64 ((rd_T35 l0 x).f2), .string ((rd_T35 l0 x).f3)]] rfl (by (try simp only [List.map_toArray, List.map_cons, List.map_nil]); first | done | rfl | (simp only [List.length_drop, List.length_take]; rfl)) ?_; (with_reducible refine (lexis_text.calls kt ((rd_T35 l0 x).f0) ((rd_T35 l0 x).f1) ((rd_T35 l0 x).f2) ((rd_T35 l0 x).f3) s true _ ?side1 AK.out).mono ?_); (case side1 => exact Laid.below HLaid.out (HB.out.trans (Below.mono (by repeat (first | (with_reducible first | exact HW.out | apply below_alloc | apply pw_below_drewN | apply below_drew1 | refine below_set ?_ GE.out) | exact HW.out)) HB.out.size))); rintro e w16 ⟨rfl, hb⟩; refine ⟨_, rfl, ?_⟩; have BK2 := Aside0.mk (blk_below (g := gb) (o := .cells #[.int .i64 ((rd_T35 l0 x).f0), .int .i64 ((rd_T35 l0 x).f1), .int .i64 ((rd_T35 l0 x).f2), .string ((rd_T35 l0 x).f3)] 35 (0, 0)) (by (with_reducible repeat (first | refine blk_drewN ?_ _ | refine blk_drew ?_ | refine blk_alloc ?_ _)); refine blk_put (cs := #[.int .i64 ((rd_T35 l0 x).f0), .int .i64 ((rd_T35 l0 x).f1), .int .i64 ((rd_T35 l0 x).f2), .string (⟨#[]⟩ : ByteArray)]) ?_ 3 _ rfl; (with_reducible repeat (first | refine blk_drewN ?_ _ | refine blk_drew ?_ | refine blk_alloc ?_ _)); refine blk_put (cs := #[.int .i64 ((rd_T35 l0 x).f0), .int .i64 ((rd_T35 l0 x).f1), .int .i64 0, .string (⟨#[]⟩ : ByteArray)]) ?_ 2 _ rfl; (with_reducible repeat (first | refine blk_drewN ?_ _ | refine blk_drew ?_ | refine blk_alloc ?_ _)); refine blk_put (cs := #[.int .i64 ((rd_T35 l0 x).f0), .int .i64 0, .int .i64 0, .string (⟨#[]⟩ : ByteArray)]) ?_ 1 _ rfl; (with_reducible repeat (first | refine blk_drewN ?_ _ | refine blk_drew ?_ | refine blk_alloc ?_ _)); refine blk_put (cs := #[.int .i64 0, .int .i64 0, .int .i64 0, .string (⟨#[]⟩ : ByteArray)]) ?_ 0 _ rfl; (with_reducible repeat (first | refine blk_drewN ?_ _ | refine blk_drew ?_ | refine blk_alloc ?_ _)); exact BK.out) hb); have HW2 := Aside0.mk (below_step (show Below wr.heap.size wr _ from by repeat (first | (with_reducible first | exact HW.out | apply below_alloc | apply pw_below_drewN | apply below_drew1 | refine below_set ?_ GE.out) | exact HW.out)) hb); clear hb; have HBu2 := Aside0.mk (builder_later HBu.out HW2.out); have HB2 := Aside0.mk (HB.out.trans (HW2.out.mono HB.out.size)); clear HW; have hd0 : w16.cell? ⟨gb, 0, none⟩ = some (.int .i64 ((rd_T35 l0 x).f0)) := (blk_cell BK2.out 0).trans rfl; have hy0 : w16.cell? (ad.add ((x.toNat - 1) * 4)) = some (.int .i64 ((rd_T35 l0 (x - 1)).f0)) := (HB2.out.cell (World.block_lt_of_cell? w _ HY.out)).trans HY.out) | (go_at_call 31; (with_reducible refine (WriteString_any w.heap.size w.heap.size (Lib.byteCells acc) s _ HBu2.out ?ss1 ?ss2).mono ?_); (case ss1 => rw [byteCells_len]; have := HAL.out; have := HSL.out; omega); (case ss2 => exact HB2.out.size); rintro e w18 ⟨rfl, h18, hb⟩; have HBu4 := Aside0.mk h18; have HB4 := Aside0.mk (HB2.out.trans hb); clear h18 hb))
              go_roundw
              case rel => exact ⟨x + 1, acc ++ ((if sepB (prevK l0 x.toNat) (rd_T35 l0 x).f0 then [32] else []) ++ bs), by first | rfl | (go_num), ⟨HIv.out.next hx1 HS.out⟩, ⟨by rw [HSep.out, byteCells_app, byteCells_app]; have h_ := HBu4.out; rw [HSB.out, strCells_mk] at h_; exact .inr (by simpa [Lib.byteCells, List.append_assoc] using h_)⟩, HB4⟩
              case measure => simp [intOf]; omega
            · have c12b0 : (((rd_T35 l0 (x - 1)).f0) == 1) = false := beq_eq_false_iff_ne.mpr c12
              have c12b1 : (((rd_T35 l0 (x - 1)).f0) != 1) = true := bne_iff_ne.mpr c12
              by_cases c13 : (rd_T35 l0 x).f0 = 2
              · have HSep : Aside0 (sepB (prevK l0 x.toNat) (rd_T35 l0 x).f0 = false) := ⟨by rw [HPK.out]; simp [sepB, c13]⟩
                have c13b0 : (((rd_T35 l0 x).f0) == 2) = true := beq_iff_eq.mpr c13
                have c13b1 : (((rd_T35 l0 x).f0) != 2) = false := bne_eq_false_iff_eq.mpr c13
                clear c12 c13
                obtain ⟨ad, e188, hx188_0, hx188_1, hx188_2, hx188_3⟩ := at_T35 HR0.out x hx0 hx1
                obtain ⟨ad1, e189, hy188_0, hy1, hy2, hy3⟩ := at_T35 HR0.out (x - 1) (by omega) (by omega)
                clear hy1 hy2 hy3
                rw [show (x - 1).toNat = x.toNat - 1 by omega] at hy188_0
                have HY := Aside0.mk hy188_0
                clear hy188_0
                have e190 := e188.symm.trans e189
                cases e188
                cases e190
                clear e189
                replace hx188_0 := (HB.out.cell (World.block_lt_of_cell? w _ hx188_0)).trans hx188_0
                replace hx188_1 := (HB.out.cell (World.block_lt_of_cell? w _ hx188_1)).trans hx188_1
                replace hx188_2 := (HB.out.cell (World.block_lt_of_cell? w _ hx188_2)).trans hx188_2
                replace hx188_3 := (HB.out.cell (World.block_lt_of_cell? w _ hx188_3)).trans hx188_3
                go_wp2_with (first | ((with_reducible refine gate_dst (N := 6) rfl ?_); refine box_event ?hg (N := 6) ?hd (cs := #[.int .i64 0, .int .i64 0, .int .i64 0, .string (⟨#[]⟩ : ByteArray)]) (t := 35) ?hr ?_; (case hd => rfl); (case hg => rfl); (case hr => first | (go_simp; done) | (go_simp; rfl)); intro gb hg w14 hbox hb; have HW := Aside0.mk (below_step (Below.refl wr.heap.size wr) hb); have BK := Aside0.mk hbox; have GE := Aside0.mk (show wr.heap.size ≤ gb by rw [hg]; exact Nat.le_refl _); clear hb hbox hg; have hcz0 : w14.cell? ⟨gb, 0, none⟩ = some (.int .i64 0) := (blk_cell BK.out 0).trans rfl; have hcz1 : w14.cell? ⟨gb, 1, none⟩ = some (.int .i64 0) := (blk_cell BK.out 1).trans rfl; have hcz2 : w14.cell? ⟨gb, 2, none⟩ = some (.int .i64 0) := (blk_cell BK.out 2).trans rfl; have hcz3 : w14.cell? ⟨gb, 3, none⟩ = some (.string (⟨#[]⟩ : ByteArray)) := (blk_cell BK.out 3).trans rfl; have hfz0 := blk_frozen BK.out 0; have hfz1 := blk_frozen BK.out 1; have hfz2 := blk_frozen BK.out 2; have hfz3 := blk_frozen BK.out 3) | ((with_reducible refine gate_callee (f := 29) rfl ?_); refine goesL_ (some 21) rfl rfl Tryd.func29 (by kernel_rfl) rfl #[.agg #[.int .i64 ((rd_T35 l0 x).f0), .int .i64 ((rd_T35 l0 x).f1), .int .i64 ((rd_T35 l0 x).f2), .string ((rd_T35 l0 x).f3)]] rfl (by (try simp only [List.map_toArray, List.map_cons, List.map_nil]); first | done | rfl | (simp only [List.length_drop, List.length_take]; rfl)) ?_; (with_reducible refine (lexis_text.calls kt ((rd_T35 l0 x).f0) ((rd_T35 l0 x).f1) ((rd_T35 l0 x).f2) ((rd_T35 l0 x).f3) s true _ ?side1 AK.out).mono ?_); (case side1 => exact Laid.below HLaid.out (HB.out.trans (Below.mono (by repeat (first | (with_reducible first | exact HW.out | apply below_alloc | apply pw_below_drewN | apply below_drew1 | refine below_set ?_ GE.out) | exact HW.out)) HB.out.size))); rintro e w16 ⟨rfl, hb⟩; refine ⟨_, rfl, ?_⟩; have BK2 := Aside0.mk (blk_below (g := gb) (o := .cells #[.int .i64 ((rd_T35 l0 x).f0), .int .i64 ((rd_T35 l0 x).f1), .int .i64 ((rd_T35 l0 x).f2), .string ((rd_T35 l0 x).f3)] 35 (0, 0)) (by (with_reducible repeat (first | refine blk_drewN ?_ _ | refine blk_drew ?_ | refine blk_alloc ?_ _)); refine blk_put (cs := #[.int .i64 ((rd_T35 l0 x).f0), .int .i64 ((rd_T35 l0 x).f1), .int .i64 ((rd_T35 l0 x).f2), .string (⟨#[]⟩ : ByteArray)]) ?_ 3 _ rfl; (with_reducible repeat (first | refine blk_drewN ?_ _ | refine blk_drew ?_ | refine blk_alloc ?_ _)); refine blk_put (cs := #[.int .i64 ((rd_T35 l0 x).f0), .int .i64 ((rd_T35 l0 x).f1), .int .i64 0, .string (⟨#[]⟩ : ByteArray)]) ?_ 2 _ rfl; (with_reducible repeat (first | refine blk_drewN ?_ _ | refine blk_drew ?_ | refine blk_alloc ?_ _)); refine blk_put (cs := #[.int .i64 ((rd_T35 l0 x).f0), .int .i64 0, .int .i64 0, .string (⟨#[]⟩ : ByteArray)]) ?_ 1 _ rfl; (with_reducible repeat (first | refine blk_drewN ?_ _ | refine blk_drew ?_ | refine blk_alloc ?_ _)); refine blk_put (cs := #[.int .i64 0, .int .i64 0, .int .i64 0, .string (⟨#[]⟩ : ByteArray)]) ?_ 0 _ rfl; (with_reducible repeat (first | refine blk_drewN ?_ _ | refine blk_drew ?_ | refine blk_alloc ?_ _)); exact BK.out) hb); have HW2 := Aside0.mk (below_step (show Below wr.heap.size wr _ from by repeat (first | (with_reducible first | exact HW.out | apply below_alloc | apply pw_below_drewN | apply below_drew1 | refine below_set ?_ GE.out) | exact HW.out)) hb); clear hb; have HBu2 := Aside0.mk (builder_later HBu.out HW2.out); have HB2 := Aside0.mk (HB.out.trans (HW2.out.mono HB.out.size)); clear HW; have hd0 : w16.cell? ⟨gb, 0, none⟩ = some (.int .i64 ((rd_T35 l0 x).f0)) := (blk_cell BK2.out 0).trans rfl; have hy0 : w16.cell? (ad.add ((x.toNat - 1) * 4)) = some (.int .i64 ((rd_T35 l0 (x - 1)).f0)) := (HB2.out.cell (World.block_lt_of_cell? w _ HY.out)).trans HY.out) | (go_at_call 31; (with_reducible refine (WriteString_any w.heap.size w.heap.size (Lib.byteCells acc) s _ HBu2.out ?ss1 ?ss2).mono ?_); (case ss1 => rw [byteCells_len]; have := HAL.out; have := HSL.out; omega); (case ss2 => exact HB2.out.size); rintro e w18 ⟨rfl, h18, hb⟩; have HBu4 := Aside0.mk h18; have HB4 := Aside0.mk (HB2.out.trans hb); clear h18 hb))
                go_roundw
                case rel => exact ⟨x + 1, acc ++ ((if sepB (prevK l0 x.toNat) (rd_T35 l0 x).f0 then [32] else []) ++ bs), by first | rfl | (go_num), ⟨HIv.out.next hx1 HS.out⟩, ⟨by rw [HSep.out, byteCells_app, byteCells_app]; have h_ := HBu4.out; rw [HSB.out, strCells_mk] at h_; exact .inr (by simpa [Lib.byteCells, List.append_assoc] using h_)⟩, HB4⟩
                case measure => simp [intOf]; omega
              · have HSep : Aside0 (sepB (prevK l0 x.toNat) (rd_T35 l0 x).f0 = true) := ⟨by rw [HPK.out]; simp [sepB, c12, c13]⟩
                have c13b0 : (((rd_T35 l0 x).f0) == 2) = false := beq_eq_false_iff_ne.mpr c13
                have c13b1 : (((rd_T35 l0 x).f0) != 2) = true := bne_iff_ne.mpr c13
                clear c12 c13
                obtain ⟨ad, e188, hx188_0, hx188_1, hx188_2, hx188_3⟩ := at_T35 HR0.out x hx0 hx1
                obtain ⟨ad1, e189, hy188_0, hy1, hy2, hy3⟩ := at_T35 HR0.out (x - 1) (by omega) (by omega)
                clear hy1 hy2 hy3
                rw [show (x - 1).toNat = x.toNat - 1 by omega] at hy188_0
                have HY := Aside0.mk hy188_0
                clear hy188_0
                have e190 := e188.symm.trans e189
                cases e188
                cases e190
                clear e189
                replace hx188_0 := (HB.out.cell (World.block_lt_of_cell? w _ hx188_0)).trans hx188_0
                replace hx188_1 := (HB.out.cell (World.block_lt_of_cell? w _ hx188_1)).trans hx188_1
                replace hx188_2 := (HB.out.cell (World.block_lt_of_cell? w _ hx188_2)).trans hx188_2
                replace hx188_3 := (HB.out.cell (World.block_lt_of_cell? w _ hx188_3)).trans hx188_3
                go_wp2_with (first | ((with_reducible refine gate_dst (N := 6) rfl ?_); refine box_event ?hg (N := 6) ?hd (cs := #[.int .i64 0, .int .i64 0, .int .i64 0, .string (⟨#[]⟩ : ByteArray)]) (t := 35) ?hr ?_; (case hd => rfl); (case hg => rfl); (case hr => first | (go_simp; done) | (go_simp; rfl)); intro gb hg w14 hbox hb; have HW := Aside0.mk (below_step (Below.refl wr.heap.size wr) hb); have BK := Aside0.mk hbox; have GE := Aside0.mk (show wr.heap.size ≤ gb by rw [hg]; exact Nat.le_refl _); clear hb hbox hg; have hcz0 : w14.cell? ⟨gb, 0, none⟩ = some (.int .i64 0) := (blk_cell BK.out 0).trans rfl; have hcz1 : w14.cell? ⟨gb, 1, none⟩ = some (.int .i64 0) := (blk_cell BK.out 1).trans rfl; have hcz2 : w14.cell? ⟨gb, 2, none⟩ = some (.int .i64 0) := (blk_cell BK.out 2).trans rfl; have hcz3 : w14.cell? ⟨gb, 3, none⟩ = some (.string (⟨#[]⟩ : ByteArray)) := (blk_cell BK.out 3).trans rfl; have hfz0 := blk_frozen BK.out 0; have hfz1 := blk_frozen BK.out 1; have hfz2 := blk_frozen BK.out 2; have hfz3 := blk_frozen BK.out 3) | ((with_reducible refine gate_callee (f := 29) rfl ?_); refine goesL_ (some 21) rfl rfl Tryd.func29 (by kernel_rfl) rfl #[.agg #[.int .i64 ((rd_T35 l0 x).f0), .int .i64 ((rd_T35 l0 x).f1), .int .i64 ((rd_T35 l0 x).f2), .string ((rd_T35 l0 x).f3)]] rfl (by (try simp only [List.map_toArray, List.map_cons, List.map_nil]); first | done | rfl | (simp only [List.length_drop, List.length_take]; rfl)) ?_; (with_reducible refine (lexis_text.calls kt ((rd_T35 l0 x).f0) ((rd_T35 l0 x).f1) ((rd_T35 l0 x).f2) ((rd_T35 l0 x).f3) s true _ ?side1 AK.out).mono ?_); (case side1 => exact Laid.below HLaid.out (HB.out.trans (Below.mono (by repeat (first | (with_reducible first | exact HW.out | apply below_alloc | apply pw_below_drewN | apply below_drew1 | refine below_set ?_ GE.out) | exact HW.out)) HB.out.size))); rintro e w16 ⟨rfl, hb⟩; refine ⟨_, rfl, ?_⟩; have BK2 := Aside0.mk (blk_below (g := gb) (o := .cells #[.int .i64 ((rd_T35 l0 x).f0), .int .i64 ((rd_T35 l0 x).f1), .int .i64 ((rd_T35 l0 x).f2), .string ((rd_T35 l0 x).f3)] 35 (0, 0)) (by (with_reducible repeat (first | refine blk_drewN ?_ _ | refine blk_drew ?_ | refine blk_alloc ?_ _)); refine blk_put (cs := #[.int .i64 ((rd_T35 l0 x).f0), .int .i64 ((rd_T35 l0 x).f1), .int .i64 ((rd_T35 l0 x).f2), .string (⟨#[]⟩ : ByteArray)]) ?_ 3 _ rfl; (with_reducible repeat (first | refine blk_drewN ?_ _ | refine blk_drew ?_ | refine blk_alloc ?_ _)); refine blk_put (cs := #[.int .i64 ((rd_T35 l0 x).f0), .int .i64 ((rd_T35 l0 x).f1), .int .i64 0, .string (⟨#[]⟩ : ByteArray)]) ?_ 2 _ rfl; (with_reducible repeat (first | refine blk_drewN ?_ _ | refine blk_drew ?_ | refine blk_alloc ?_ _)); refine blk_put (cs := #[.int .i64 ((rd_T35 l0 x).f0), .int .i64 0, .int .i64 0, .string (⟨#[]⟩ : ByteArray)]) ?_ 1 _ rfl; (with_reducible repeat (first | refine blk_drewN ?_ _ | refine blk_drew ?_ | refine blk_alloc ?_ _)); refine blk_put (cs := #[.int .i64 0, .int .i64 0, .int .i64 0, .string (⟨#[]⟩ : ByteArray)]) ?_ 0 _ rfl; (with_reducible repeat (first | refine blk_drewN ?_ _ | refine blk_drew ?_ | refine blk_alloc ?_ _)); exact BK.out) hb); have HW2 := Aside0.mk (below_step (show Below wr.heap.size wr _ from by repeat (first | (with_reducible first | exact HW.out | apply below_alloc | apply pw_below_drewN | apply below_drew1 | refine below_set ?_ GE.out) | exact HW.out)) hb); clear hb; have HBu2 := Aside0.mk (builder_later HBu.out HW2.out); have HB2 := Aside0.mk (HB.out.trans (HW2.out.mono HB.out.size)); clear HW; have hd0 : w16.cell? ⟨gb, 0, none⟩ = some (.int .i64 ((rd_T35 l0 x).f0)) := (blk_cell BK2.out 0).trans rfl; have hy0 : w16.cell? (ad.add ((x.toNat - 1) * 4)) = some (.int .i64 ((rd_T35 l0 (x - 1)).f0)) := (HB2.out.cell (World.block_lt_of_cell? w _ HY.out)).trans HY.out) | (go_at_call 30; (with_reducible refine (WriteByte_any w.heap.size w.heap.size (Lib.byteCells acc) 32 _ HBu2.out ?sb1 ?sb2).mono ?_); (case sb1 => rw [byteCells_len]; have := HAL.out; omega); (case sb2 => exact HB2.out.size); rintro e w17 ⟨rfl, h17, hb⟩; have HBu3 := Aside0.mk h17; have HB3 := Aside0.mk (HB2.out.trans hb); clear h17 hb) | (go_at_call 31; (with_reducible refine (WriteString_any w.heap.size w.heap.size (Lib.byteCells acc ++ [.int .u8 32]) s _ (used_builder HBu3.out) ?ss1 ?ss2).mono ?_); (case ss1 => rw [List.length_append, byteCells_len]; have := HAL.out; have := HSL.out; simp only [List.length_cons, List.length_nil]; omega); (case ss2 => exact HB3.out.size); rintro e w18 ⟨rfl, h18, hb⟩; have HBu4 := Aside0.mk h18; have HB4 := Aside0.mk (HB3.out.trans hb); clear h18 hb))
                go_roundw
                case rel => exact ⟨x + 1, acc ++ ((if sepB (prevK l0 x.toNat) (rd_T35 l0 x).f0 then [32] else []) ++ bs), by first | rfl | (go_num), ⟨HIv.out.next hx1 HS.out⟩, ⟨by rw [HSep.out, byteCells_app, byteCells_app]; have h_ := HBu4.out; rw [HSB.out, strCells_mk] at h_; exact .inr (by simpa [Lib.byteCells, List.append_assoc] using h_)⟩, HB4⟩
                case measure => simp [intOf]; omega
          · have HSep : Aside0 (sepB (prevK l0 x.toNat) (rd_T35 l0 x).f0 = false) := ⟨by rw [show x.toNat = 0 by omega]; rfl⟩
            have c8b0 : decide (0 < x) = false := decide_eq_false hx3
            obtain ⟨ad, e188, hx188_0, hx188_1, hx188_2, hx188_3⟩ := at_T35 HR0.out x hx0 hx1
            cases e188
            replace hx188_0 := (HB.out.cell (World.block_lt_of_cell? w _ hx188_0)).trans hx188_0
            replace hx188_1 := (HB.out.cell (World.block_lt_of_cell? w _ hx188_1)).trans hx188_1
            replace hx188_2 := (HB.out.cell (World.block_lt_of_cell? w _ hx188_2)).trans hx188_2
            replace hx188_3 := (HB.out.cell (World.block_lt_of_cell? w _ hx188_3)).trans hx188_3
            go_wp2_with (first | ((with_reducible refine gate_dst (N := 6) rfl ?_); refine box_event ?hg (N := 6) ?hd (cs := #[.int .i64 0, .int .i64 0, .int .i64 0, .string (⟨#[]⟩ : ByteArray)]) (t := 35) ?hr ?_; (case hd => rfl); (case hg => rfl); (case hr => first | (go_simp; done) | (go_simp; rfl)); intro gb hg w14 hbox hb; have HW := Aside0.mk (below_step (Below.refl wr.heap.size wr) hb); have BK := Aside0.mk hbox; have GE := Aside0.mk (show wr.heap.size ≤ gb by rw [hg]; exact Nat.le_refl _); clear hb hbox hg; have hcz0 : w14.cell? ⟨gb, 0, none⟩ = some (.int .i64 0) := (blk_cell BK.out 0).trans rfl; have hcz1 : w14.cell? ⟨gb, 1, none⟩ = some (.int .i64 0) := (blk_cell BK.out 1).trans rfl; have hcz2 : w14.cell? ⟨gb, 2, none⟩ = some (.int .i64 0) := (blk_cell BK.out 2).trans rfl; have hcz3 : w14.cell? ⟨gb, 3, none⟩ = some (.string (⟨#[]⟩ : ByteArray)) := (blk_cell BK.out 3).trans rfl; have hfz0 := blk_frozen BK.out 0; have hfz1 := blk_frozen BK.out 1; have hfz2 := blk_frozen BK.out 2; have hfz3 := blk_frozen BK.out 3) | ((with_reducible refine gate_callee (f := 29) rfl ?_); refine goesL_ (some 21) rfl rfl Tryd.func29 (by kernel_rfl) rfl #[.agg #[.int .i64 ((rd_T35 l0 x).f0), .int .i64 ((rd_T35 l0 x).f1), .int .i64 ((rd_T35 l0 x).f2), .string ((rd_T35 l0 x).f3)]] rfl (by (try simp only [List.map_toArray, List.map_cons, List.map_nil]); first | done | rfl | (simp only [List.length_drop, List.length_take]; rfl)) ?_; (with_reducible refine (lexis_text.calls kt ((rd_T35 l0 x).f0) ((rd_T35 l0 x).f1) ((rd_T35 l0 x).f2) ((rd_T35 l0 x).f3) s true _ ?side1 AK.out).mono ?_); (case side1 => exact Laid.below HLaid.out (HB.out.trans (Below.mono (by repeat (first | (with_reducible first | exact HW.out | apply below_alloc | apply pw_below_drewN | apply below_drew1 | refine below_set ?_ GE.out) | exact HW.out)) HB.out.size))); rintro e w16 ⟨rfl, hb⟩; refine ⟨_, rfl, ?_⟩; have BK2 := Aside0.mk (blk_below (g := gb) (o := .cells #[.int .i64 ((rd_T35 l0 x).f0), .int .i64 ((rd_T35 l0 x).f1), .int .i64 ((rd_T35 l0 x).f2), .string ((rd_T35 l0 x).f3)] 35 (0, 0)) (by (with_reducible repeat (first | refine blk_drewN ?_ _ | refine blk_drew ?_ | refine blk_alloc ?_ _)); refine blk_put (cs := #[.int .i64 ((rd_T35 l0 x).f0), .int .i64 ((rd_T35 l0 x).f1), .int .i64 ((rd_T35 l0 x).f2), .string (⟨#[]⟩ : ByteArray)]) ?_ 3 _ rfl; (with_reducible repeat (first | refine blk_drewN ?_ _ | refine blk_drew ?_ | refine blk_alloc ?_ _)); refine blk_put (cs := #[.int .i64 ((rd_T35 l0 x).f0), .int .i64 ((rd_T35 l0 x).f1), .int .i64 0, .string (⟨#[]⟩ : ByteArray)]) ?_ 2 _ rfl; (with_reducible repeat (first | refine blk_drewN ?_ _ | refine blk_drew ?_ | refine blk_alloc ?_ _)); refine blk_put (cs := #[.int .i64 ((rd_T35 l0 x).f0), .int .i64 0, .int .i64 0, .string (⟨#[]⟩ : ByteArray)]) ?_ 1 _ rfl; (with_reducible repeat (first | refine blk_drewN ?_ _ | refine blk_drew ?_ | refine blk_alloc ?_ _)); refine blk_put (cs := #[.int .i64 0, .int .i64 0, .int .i64 0, .string (⟨#[]⟩ : ByteArray)]) ?_ 0 _ rfl; (with_reducible repeat (first | refine blk_drewN ?_ _ | refine blk_drew ?_ | refine blk_alloc ?_ _)); exact BK.out) hb); have HW2 := Aside0.mk (below_step (show Below wr.heap.size wr _ from by repeat (first | (with_reducible first | exact HW.out | apply below_alloc | apply pw_below_drewN | apply below_drew1 | refine below_set ?_ GE.out) | exact HW.out)) hb); clear hb; have HBu2 := Aside0.mk (builder_later HBu.out HW2.out); have HB2 := Aside0.mk (HB.out.trans (HW2.out.mono HB.out.size)); clear HW; have hd0 : w16.cell? ⟨gb, 0, none⟩ = some (.int .i64 ((rd_T35 l0 x).f0)) := (blk_cell BK2.out 0).trans rfl) | (go_at_call 31; (with_reducible refine (WriteString_any w.heap.size w.heap.size (Lib.byteCells acc) s _ HBu2.out ?ss1 ?ss2).mono ?_); (case ss1 => rw [byteCells_len]; have := HAL.out; have := HSL.out; omega); (case ss2 => exact HB2.out.size); rintro e w18 ⟨rfl, h18, hb⟩; have HBu4 := Aside0.mk h18; have HB4 := Aside0.mk (HB2.out.trans hb); clear h18 hb))
            go_roundw
            case rel => exact ⟨x + 1, acc ++ ((if sepB (prevK l0 x.toNat) (rd_T35 l0 x).f0 then [32] else []) ++ bs), by first | rfl | (go_num), ⟨HIv.out.next hx1 HS.out⟩, ⟨by rw [HSep.out, byteCells_app, byteCells_app]; have h_ := HBu4.out; rw [HSB.out, strCells_mk] at h_; exact .inr (by simpa [Lib.byteCells, List.append_assoc] using h_)⟩, HB4⟩
            case measure => simp [intOf]; omega
      · have c3b0 : decide (x < (l0.length : Int)) = false := decide_eq_false hx1
        have ht := HT.out _ (HIv.out.done hx1)
        simp only at ht
        subst ht
        clear HT
        go_wp2_with (go_at_call 32; (with_reducible refine (Tryd.Builder_String_any w.heap.size w.heap.size acc _ HBu.out ?st1).mono ?_); (case st1 => exact HB.out.size); rintro e w19 ⟨rfl, hb⟩; have HB5 := Aside0.mk (HB.out.trans hb); clear hb)
        go_ret2
        exact ⟨rfl, HB5.out⟩

theorem lexis_Text.calls (A0 : Option Addr) (c0 : Nat) (l0 : List (S35)) (r1 : ByteArray) (r2 : Int) (w : World) (hr0 : Kd.C k35 w A0 l0.length l0) (hc0 : l0.length ≤ c0) (hLaid : Laid w) (h : lexis_Text.f l0 = some (r1, r2)) :
    Calls Tryd.prog 16 #[.slice A0 l0.length c0] w fun e w' => e = .returned (.tuple #[.string r1, .int .i64 r2]) ∧ Below w.heap.size w w' := by
  unfold lexis_Text.f at h
  split at h
  · rename_i hi
    have e := Option.some.inj h
    have := Text_walk A0 c0 l0 w hr0 hc0 hLaid hi
    rw [e] at this
    exact this
  · cases h
end Go.Proofs.YthcllibbaindbaaDoor.Px
namespace Go.Proofs.YthcllibbaindbaaDoor.Px
open Go.RowKit Go.Lib Go.Proofs.YthcllibbaindbaaDoorW.PrintWords Go.Proofs.YthcllibbaindbaaDoorW.PrintLast Go.Proofs.YthcllibbaindbaaDoorW.PrintMore

def wtok (w : List UInt8) (pos : Int) : S35 := ⟨(wordR w).1, (wordR w).2.1, pos, ⟨(wordR w).2.2.1.toArray⟩⟩
def scanF : Nat → List UInt8 → Int → Option (List S35)
  | 0, _, _ => some []
  | _ + 1, [], _ => some []
  | n + 1, c :: r, pos =>
    if c = 32 ∨ c = 10 then scanF n r (pos + 1)
    else if c = 40 then (scanF n r (pos + 1)).map (⟨1, 0, pos, ⟨#[]⟩⟩ :: ·)
    else if c = 41 then (scanF n r (pos + 1)).map (⟨2, 0, pos, ⟨#[]⟩⟩ :: ·)
    else if (wordR ((c :: r).takeWhile isLD)).2.2.2 then (scanF n ((c :: r).dropWhile isLD) (pos + ((c :: r).takeWhile isLD).length)).map (wtok ((c :: r).takeWhile isLD) pos :: ·)
    else none
def outT (xs : List S35) : Option (List S35) → List S35 × Int
  | none => ([], 15)
  | some l => if xs.length + l.length > 2048 then ([], 3) else (xs ++ l, 0)
theorem outT_cons (xs : List S35) (t : S35) (o : Option (List S35)) : outT xs (o.map (t :: ·)) = outT (xs ++ [t]) o := by
  cases o with
  | none => rfl
  | some l => simp [outT, Nat.add_assoc, Nat.add_comm 1]

theorem takeWhile_append_dropWhile_len (l : List UInt8) (p : UInt8 → Bool) : (l.takeWhile p).length + (l.dropWhile p).length = l.length := by
  have := congrArg List.length (List.takeWhile_append_dropWhile (p := p) (l := l))
  rwa [List.length_append] at this
theorem drop_takeWhile_len (l : List UInt8) (p : UInt8 → Bool) : l.drop (l.takeWhile p).length = l.dropWhile p := by
  have h := List.takeWhile_append_dropWhile (p := p) (l := l)
  have e : (l.takeWhile p ++ l.dropWhile p).drop (l.takeWhile p).length = l.dropWhile p := List.drop_left
  rwa [h] at e
theorem take_takeWhile_len (l : List UInt8) (p : UInt8 → Bool) : l.take (l.takeWhile p).length = l.takeWhile p := by
  have h := List.takeWhile_append_dropWhile (p := p) (l := l)
  have e : (l.takeWhile p ++ l.dropWhile p).take (l.takeWhile p).length = l.takeWhile p := List.take_left
  rwa [h] at e
theorem Ev_pos {α : Type} {f g : Nat → Option α} {r : α} {c : Prop} [Decidable c] (h : c) (k : Ev f r) : Ev (fun n => if c then f n else g n) r := by simpa only [if_pos h] using k
theorem Ev_neg {α : Type} {f g : Nat → Option α} {r : α} {c : Prop} [Decidable c] (h : ¬ c) (k : Ev g r) : Ev (fun n => if c then f n else g n) r := by simpa only [if_neg h] using k
theorem wordR_nil : wordR [] = (0, 0, [], false) := rfl

theorem wrap32_byte {x : Int} (h0 : 0 ≤ x) (h1 : x ≤ 255) : wrap32 x = x := by unfold wrap32; omega
theorem lletter_f (r : Nat) : lexis_letter.f r = some (letterP r) := by
  unfold lexis_letter.f letterP
  by_cases h : (r : Int) ≥ 97
  · rw [if_pos h]; congr 1; rw [Bool.eq_iff_iff]; simp; omega
  · rw [if_neg h]; congr 1; rw [Bool.eq_iff_iff]; simp; omega
theorem ldigit_f (r : Nat) : lexis_digit.f r = some (digitP r) := by
  unfold lexis_digit.f digitP
  by_cases h : (r : Int) ≥ 48
  · rw [if_pos h]; congr 1; rw [Bool.eq_iff_iff]; simp; omega
  · rw [if_neg h]; congr 1; rw [Bool.eq_iff_iff]; simp; omega

theorem byte_eq (b : UInt8) (n : Nat) (hn : n < 256) : ((b.toNat : Int) = n) ↔ b = UInt8.ofNat n := by
  refine ⟨fun h => ?_, fun h => ?_⟩
  · apply UInt8.toNat_inj.1
    rw [UInt8.toNat_ofNat']
    have : b.toNat = n := by omega
    omega
  · rw [h, UInt8.toNat_ofNat']
    omega

theorem drop_cons (s : ByteArray) (i : Nat) (h : i < s.size) : s.data.toList.drop i = s.get! i :: s.data.toList.drop (i + 1) := by
  rw [← get_list s i h]
  exact List.drop_eq_getElem_cons (by rw [len_data]; exact h)

/-- The word that begins at i, and what is done with it. -/
theorem fin_ev (s : ByteArray) (hs : s.size ≤ 8192) (xs : List S35) (i : Nat) (hi : i < s.size) (hx : xs.length ≤ i) {R : List S35 × Int}
    (rest : (wordR ((s.data.toList.drop i).takeWhile isLD)).2.2.2 = true → Ev (fun k => lexis_Tokens.l0 k s (xs ++ [wtok ((s.data.toList.drop i).takeWhile isLD) i]) ((i + ((s.data.toList.drop i).takeWhile isLD).length : Nat) : Int)) R) :
    Ev (fun k => if 0 ≤ (i : Int) then (if (i : Int) ≤ ((i + ((s.data.toList.drop i).takeWhile isLD).length : Nat) : Int) then (if ((i + ((s.data.toList.drop i).takeWhile isLD).length : Nat) : Int) ≤ (s.size : Int) then ((lexis_word.f k (s.extract (i : Int).toNat ((i + ((s.data.toList.drop i).takeWhile isLD).length : Nat) : Int).toNat)).bind fun bt131 => (if bt131.2.2.2.2 = true then (if xs.length < 3518437208883 then (lexis_Tokens.l0 k s (xs ++ [(⟨bt131.1, bt131.2.1, (i : Int), bt131.2.2.2.1⟩ : S35)]) ((i + ((s.data.toList.drop i).takeWhile isLD).length : Nat) : Int)) else (none)) else (some (([] : List (S35)), 15)))) else (none)) else (none)) else (none))
      (if (wordR ((s.data.toList.drop i).takeWhile isLD)).2.2.2 then R else ([], 15)) := by
  have hlen := takeWhile_append_dropWhile_len (s.data.toList.drop i) isLD
  rw [List.length_drop, len_data] at hlen
  simp only [if_pos (show (0 : Int) ≤ (i : Int) by omega), if_pos (show (i : Int) ≤ ((i + ((s.data.toList.drop i).takeWhile isLD).length : Nat) : Int) by omega), if_pos (show ((i + ((s.data.toList.drop i).takeWhile isLD).length : Nat) : Int) ≤ (s.size : Int) by omega)]
  have hw : (s.extract (i : Int).toNat ((i + ((s.data.toList.drop i).takeWhile isLD).length : Nat) : Int).toNat).data.toList = (s.data.toList.drop i).takeWhile isLD := by
    rw [Lib.extract_data]
    simp only [Int.toNat_natCast]
    rw [Nat.add_sub_cancel_left]
    exact take_takeWhile_len _ _
  have he := word_ev (s.extract (i : Int).toNat ((i + ((s.data.toList.drop i).takeWhile isLD).length : Nat) : Int).toNat)
  rw [hw] at he
  refine Ev.bind he ?_
  cases hb : (wordR ((s.data.toList.drop i).takeWhile isLD)).2.2.2 with
  | true =>
    simp only [if_true, if_pos (show xs.length < 3518437208883 by omega)]
    exact rest hb
  | false => simp only [Bool.false_eq_true, if_false]; exact Ev.now _

theorem l1_ev (s : ByteArray) (hs : s.size ≤ 8192) (xs : List S35) (i : Nat) (hi : i < s.size) (hx : xs.length ≤ i) {R : List S35 × Int}
    (rest : (wordR ((s.data.toList.drop i).takeWhile isLD)).2.2.2 = true → Ev (fun k => lexis_Tokens.l0 k s (xs ++ [wtok ((s.data.toList.drop i).takeWhile isLD) i]) ((i + ((s.data.toList.drop i).takeWhile isLD).length : Nat) : Int)) R) :
    ∀ (d j : Nat), i ≤ j → j + d = i + ((s.data.toList.drop i).takeWhile isLD).length →
      Ev (fun k => lexis_Tokens.l1 k s xs i j) (if (wordR ((s.data.toList.drop i).takeWhile isLD)).2.2.2 then R else ([], 15)) := by
  have hlen := takeWhile_append_dropWhile_len (s.data.toList.drop i) isLD
  rw [List.length_drop, len_data] at hlen
  intro d
  induction d with
  | zero =>
    intro j hij hj
    rw [Nat.add_zero] at hj
    subst hj
    have hf := fin_ev s hs xs i hi hx rest
    refine Ev.step (f := _) (fun k => by rw [lexis_Tokens.l1]) ?_
    by_cases hlt : ((i + ((s.data.toList.drop i).takeWhile isLD).length : Nat) : Int) < (s.size : Int)
    · have hlt' : i + ((s.data.toList.drop i).takeWhile isLD).length < s.size := by omega
      simp only [if_pos hlt, if_pos (show (0 : Int) ≤ ((i + ((s.data.toList.drop i).takeWhile isLD).length : Nat) : Int) by omega)]
      have hb := bt_get s _ hlt'
      have hnot : isLD (s.get! (i + ((s.data.toList.drop i).takeWhile isLD).length)) = false := by
        have h1 := drop_takeWhile_len (s.data.toList.drop i) isLD
        rw [List.drop_drop, drop_cons s _ hlt'] at h1
        have h2 := List.head?_dropWhile_not isLD (s.data.toList.drop i)
        rw [← h1] at h2
        simpa using h2
      rw [isLD, Bool.or_eq_false_iff] at hnot
      rw [hb, wrap32_byte (by omega) (by have := (s.get! (i + ((s.data.toList.drop i).takeWhile isLD).length)).toNat_lt; omega), lletter_f, ldigit_f]
      rw [show letterP (s.get! (i + ((s.data.toList.drop i).takeWhile isLD).length)).toNat = false from hnot.1, show digitP (s.get! (i + ((s.data.toList.drop i).takeWhile isLD).length)).toNat = false from hnot.2]
      simp only [Option.bind_some, Bool.false_eq_true, if_false]
      exact hf
    · simp only [if_neg hlt]
      exact hf
  | succ d ih =>
    intro j hij hj
    have hlt : j < s.size := by omega
    have hyes : isLD (s.get! j) = true := by
      have h1 : j - i < ((s.data.toList.drop i).takeWhile isLD).length := by omega
      have h2 := List.all_takeWhile (p := isLD) (l := s.data.toList.drop i)
      rw [List.all_eq_true] at h2
      have h3 := h2 _ (List.getElem_mem h1)
      have h4 : ((s.data.toList.drop i).takeWhile isLD)[j - i]? = (s.data.toList.drop i)[j - i]? := by
        rw [← take_takeWhile_len, List.getElem?_take, if_pos h1]
      rw [List.getElem?_eq_getElem h1, List.getElem?_drop, show i + (j - i) = j by omega, toList_at s j hlt] at h4
      rw [Option.some.inj h4] at h3
      exact h3
    have nx := ih (j + 1) (by omega) (by omega)
    refine Ev.step (f := _) (fun k => by rw [lexis_Tokens.l1]) ?_
    have hb := bt_get s j hlt
    simp only [if_pos (show (j : Int) < (s.size : Int) by omega), if_pos (show (0 : Int) ≤ (j : Int) by omega)]
    rw [hb, wrap32_byte (by omega) (by have := (s.get! j).toNat_lt; omega), lletter_f, ldigit_f, wrap_small (x := (j : Int) + 1) (by omega) (by omega)]
    rw [isLD, Bool.or_eq_true] at hyes
    simp only [Option.bind_some]
    cases hL : letterP (s.get! j).toNat with
    | true => simp only [if_true]; exact_mod_cast nx
    | false =>
      have hD : digitP (s.get! j).toNat = true := by
        rcases hyes with h | h
        · rw [isL, hL] at h; cases h
        · exact h
      simp only [Bool.false_eq_true, if_false, hD, if_true]
      exact_mod_cast nx

theorem l0_ev (s : ByteArray) (hs : s.size ≤ 8192) : ∀ (n i : Nat) (xs : List S35), s.size - i ≤ n → i ≤ s.size → xs.length ≤ i →
    Ev (fun k => lexis_Tokens.l0 k s xs i) (outT xs (scanF n (s.data.toList.drop i) i)) := by
  intro n
  induction n with
  | zero =>
    intro i xs h1 h2 hx
    refine Ev.step (f := _) (fun k => by rw [lexis_Tokens.l0]) ?_
    simp only [if_neg (show ¬ (i : Int) < (s.size : Int) by omega)]
    have : outT xs (scanF 0 (s.data.toList.drop i) i) = if (xs.length : Int) > 2048 then ([], 3) else (xs, 0) := by
      simp only [scanF, outT, List.length_nil, Nat.add_zero, List.append_nil]
      by_cases h : xs.length > 2048
      · rw [if_pos h, if_pos (by omega)]
      · rw [if_neg h, if_neg (by omega)]
    rw [this]
    split <;> exact Ev.now _
  | succ n ih =>
    intro i xs h1 h2 hx
    by_cases hlt : i < s.size
    · have hb : bt s i = ((s.get! i).toNat : Int) := bt_get s i hlt
      have e32 := byte_eq (s.get! i) 32 (by omega)
      have e10 := byte_eq (s.get! i) 10 (by omega)
      have e40 := byte_eq (s.get! i) 40 (by omega)
      have e41 := byte_eq (s.get! i) 41 (by omega)
      rw [drop_cons s i hlt]
      have step : ∀ {R : List S35 × Int}, ∀ (b : Bool), Ev (fun k => if b = true then lexis_Tokens.l0 k s xs (wrap64 ((i : Int) + 1)) else (if bt s i = 40 then (if xs.length < 3518437208883 then (lexis_Tokens.l0 k s (xs ++ [(⟨1, 0, (i : Int), (⟨#[]⟩ : ByteArray)⟩ : S35)]) (wrap64 ((i : Int) + 1))) else (none)) else (if bt s i = 41 then (if xs.length < 3518437208883 then (lexis_Tokens.l0 k s (xs ++ [(⟨2, 0, (i : Int), (⟨#[]⟩ : ByteArray)⟩ : S35)]) (wrap64 ((i : Int) + 1))) else (none)) else (lexis_Tokens.l1 k s xs i i)))) R → Ev (fun k => lexis_Tokens.j1 k s xs i (bt s i) b) R := by
        intro R b h
        exact Ev.step (fun k => by rw [lexis_Tokens.j1]) h
      have top : ∀ {R : List S35 × Int}, Ev (fun k => lexis_Tokens.j1 k s xs i (bt s i) (decide (s.get! i = 32 ∨ s.get! i = 10))) R → Ev (fun k => lexis_Tokens.l0 k s xs i) R := by
        intro R h
        refine Ev.step (f := _) (fun k => by rw [lexis_Tokens.l0]) ?_
        simp only [if_pos (show (i : Int) < (s.size : Int) by omega), if_pos (show (0 : Int) ≤ (i : Int) by omega)]
        by_cases h32 : s.get! i = 32
        · refine Ev_pos (by rw [hb]; exact e32.2 h32) ?_
          simpa [h32] using h
        · refine Ev_neg (by rw [hb]; exact fun h => h32 (e32.1 h)) ?_
          have : (bt s i == 10) = decide (s.get! i = 32 ∨ s.get! i = 10) := by
            rw [Bool.eq_iff_iff, beq_iff_eq, decide_eq_true_iff, hb]
            exact ⟨fun h => .inr (e10.1 h), fun h => h.elim (fun h => absurd h h32) e10.2⟩
          rw [this]; exact h
      refine top (step _ ?_)
      rw [wrap_small (x := (i : Int) + 1) (by omega) (by omega)]
      simp only [scanF]
      by_cases hsp : s.get! i = 32 ∨ s.get! i = 10
      · rw [if_pos hsp]
        refine Ev_pos (by simpa using hsp) ?_
        exact_mod_cast ih (i + 1) xs (by omega) (by omega) (by omega)
      · rw [if_neg hsp]
        refine Ev_neg (by simpa using hsp) ?_
        by_cases h40 : s.get! i = 40
        · rw [if_pos h40, outT_cons]
          refine Ev_pos (by rw [hb]; exact e40.2 h40) (Ev_pos (by omega) ?_)
          exact_mod_cast ih (i + 1) _ (by omega) (by omega) (by rw [List.length_append]; simp; omega)
        · rw [if_neg h40]
          refine Ev_neg (by rw [hb]; exact fun h => h40 (e40.1 h)) ?_
          by_cases h41 : s.get! i = 41
          · rw [if_pos h41, outT_cons]
            refine Ev_pos (by rw [hb]; exact e41.2 h41) (Ev_pos (by omega) ?_)
            exact_mod_cast ih (i + 1) _ (by omega) (by omega) (by rw [List.length_append]; simp; omega)
          · rw [if_neg h41, ← drop_cons s i hlt]
            refine Ev_neg (by rw [hb]; exact fun h => h41 (e41.1 h)) ?_
            have hlen := takeWhile_append_dropWhile_len (s.data.toList.drop i) isLD
            rw [List.length_drop, len_data] at hlen
            cases hw : (wordR ((s.data.toList.drop i).takeWhile isLD)).2.2.2 with
            | true =>
              have hpos : 0 < ((s.data.toList.drop i).takeWhile isLD).length := by
                rcases Nat.eq_zero_or_pos ((s.data.toList.drop i).takeWhile isLD).length with h | h
                · rw [List.eq_nil_of_length_eq_zero h] at hw; simp [wordR_nil] at hw
                · exact h
              have rest := ih (i + ((s.data.toList.drop i).takeWhile isLD).length) (xs ++ [wtok ((s.data.toList.drop i).takeWhile isLD) i]) (by omega) (by omega) (by rw [List.length_append]; simp; omega)
              have := l1_ev s hs xs i hlt hx (fun _ => rest) _ i (Nat.le_refl _) rfl
              rw [hw, if_pos rfl] at this
              rw [if_pos rfl, outT_cons, ← drop_takeWhile_len, List.drop_drop]
              exact_mod_cast this
            | false =>
              have := l1_ev s hs xs i hlt hx (R := ([], 15)) (fun h => by rw [hw] at h; cases h) _ i (Nat.le_refl _) rfl
              rw [hw, if_neg (by simp)] at this
              simpa [outT] using this
    · refine Ev.step (f := _) (fun k => by rw [lexis_Tokens.l0]) ?_
      simp only [if_neg (show ¬ (i : Int) < (s.size : Int) by omega)]
      have hd : s.data.toList.drop i = [] := List.drop_eq_nil_of_le (by rw [len_data]; omega)
      have : outT xs (scanF (n + 1) (s.data.toList.drop i) i) = if (xs.length : Int) > 2048 then ([], 3) else (xs, 0) := by
        rw [hd]
        simp only [scanF, outT, List.length_nil, Nat.add_zero, List.append_nil]
        by_cases h : xs.length > 2048
        · rw [if_pos h, if_pos (by omega)]
        · rw [if_neg h, if_neg (by omega)]
      rw [this]
      split <;> exact Ev.now _

def scan (l : List UInt8) : Option (List S35) := scanF l.length l 0
def tokR (l : List UInt8) : List S35 × Int := if l.length > 8192 then ([], 3) else outT [] (scan l)
theorem Tokens_ev (s : ByteArray) : Ev (fun k => lexis_Tokens.f k s) (tokR s.data.toList) := by
  unfold lexis_Tokens.f tokR
  rw [len_data]
  by_cases h : s.size > 8192
  · simp only [if_pos (show (s.size : Int) > 8192 by omega), if_pos h]; exact Ev.now _
  · simp only [if_neg (show ¬ (s.size : Int) > 8192 by omega), if_neg h]
    have := l0_ev s (by omega) s.size 0 [] (by omega) (by omega) (by simp)
    rw [List.drop_zero] at this
    unfold scan
    rw [len_data]
    exact_mod_cast this
end Go.Proofs.YthcllibbaindbaaDoor.Px
namespace Go.Proofs.YthcllibbaindbaaDoor.Px
open Go.RowKit Go.Lib Go.Proofs.YthcllibbaindbaaDoorW.PrintWords Go.Proofs.YthcllibbaindbaaDoorW.PrintLast Go.Proofs.YthcllibbaindbaaDoorW.PrintMore

theorem sane_tok : tokR [40, 115, 117, 99, 99, 32, 120, 48, 41] = ([⟨1, 0, 0, ⟨#[]⟩⟩, ⟨3, 0, 1, ⟨#[115, 117, 99, 99]⟩⟩, ⟨5, 0, 6, ⟨#[]⟩⟩, ⟨2, 0, 8, ⟨#[]⟩⟩], 0) := by rfl

theorem sane_ev : Ev (fun k => proofprogramslaw14_sane.f k) true := by
  unfold proofprogramslaw14_sane.f
  have h := Tokens_ev (⟨#[40, 115, 117, 99, 99, 32, 120, 48, 41]⟩ : ByteArray)
  rw [show (⟨#[40, 115, 117, 99, 99, 32, 120, 48, 41]⟩ : ByteArray).data.toList = [40, 115, 117, 99, 99, 32, 120, 48, 41] from rfl, sane_tok] at h
  refine Ev.bind h ?_
  have e : ((⟨#[115, 117, 99, 99]⟩ : ByteArray)).toList = [115, 117, 99, 99] := by rw [Lib.toList_data]
  simp [rd_T35, e]
  exact Ev.now _

theorem Mod_f (a n : Int) (h1 : 1 ≤ n) (h2 : n ≤ 1000000000) : ∃ v, proofprogramsmake_Mod.f a n = some v ∧ 0 ≤ v ∧ v < n := by
  unfold proofprogramsmake_Mod.f
  rw [if_neg (by omega)]
  have ha := Int.tmod_lt_of_pos a (show 0 < n by omega)
  have hb : -n < Int.tmod a n := by
    have := Int.tmod_lt_of_pos (-a) (show 0 < n by omega)
    rw [Int.neg_tmod] at this; omega
  rw [wrap_small (by omega) (by omega)]
  exact ⟨_, rfl, Int.tmod_nonneg n (by omega), Int.tmod_lt_of_pos _ (by omega)⟩

theorem Next_f (l : List Int) (pos n : Int) (h1 : 1 ≤ n) (h2 : n ≤ 1000000000) (hp : 0 ≤ pos ∧ pos ≤ l.length) (hl : l.length ≤ 1000) :
    ∃ v pos', proofprogramsmake_Deck_Next.f l pos n = some (v, pos') ∧ 0 ≤ v ∧ v < n ∧ 0 ≤ pos' ∧ pos' ≤ l.length := by
  unfold proofprogramsmake_Deck_Next.f
  rw [if_neg (by omega)]
  by_cases h : pos ≥ (l.length : Int)
  · rw [if_pos h]; exact ⟨0, pos, rfl, by omega, by omega, hp⟩
  · rw [if_neg h, if_pos hp.1, if_pos (by omega)]
    obtain ⟨v, hv, h3, h4⟩ := Mod_f (rd l pos) n h1 h2
    rw [hv]
    exact ⟨v, _, rfl, h3, h4, by rw [wrap_small (by omega) (by omega)]; omega, by rw [wrap_small (by omega) (by omega)]; omega⟩

theorem takeWhile_all {l : List UInt8} {p : UInt8 → Bool} (h : l.all p = true) : l.takeWhile p = l ∧ l.dropWhile p = [] := by
  induction l with
  | nil => exact ⟨rfl, rfl⟩
  | cons a t ih =>
    rw [List.all_cons, Bool.and_eq_true] at h
    obtain ⟨h1, h2⟩ := ih h.2
    simp [h.1, h1, h2]

theorem isL_range {b : UInt8} (h : isL b = true) : 97 ≤ b.toNat ∧ b.toNat ≤ 122 := by simpa [isL, letterP] using h
theorem isD_range {b : UInt8} (h : isD b = true) : 48 ≤ b.toNat ∧ b.toNat ≤ 57 := by simpa [isD, digitP] using h

/-- Behind letters or digits nothing else matters. -/
theorem scanF_word (n : Nat) (c : UInt8) (r : List UInt8) (pos : Int) (h : isLD c = true) : scanF (n + 1) (c :: r) pos =
    if (wordR ((c :: r).takeWhile isLD)).2.2.2 then (scanF n ((c :: r).dropWhile isLD) (pos + ((c :: r).takeWhile isLD).length)).map (wtok ((c :: r).takeWhile isLD) pos :: ·) else none := by
  have hr : 48 ≤ c.toNat := by
    rw [isLD, Bool.or_eq_true] at h
    rcases h with h | h
    · have := isL_range h; omega
    · have := isD_range h; omega
  have ne : ∀ k : Nat, k < 48 → c ≠ UInt8.ofNat k := by
    intro k hk e
    rw [e, UInt8.toNat_ofNat'] at hr
    omega
  rw [scanF, if_neg (by rintro (e | e); exact ne 32 (by omega) e; exact ne 10 (by omega) e), if_neg (show ¬ c = 40 from ne 40 (by omega)), if_neg (show ¬ c = 41 from ne 41 (by omega))]

theorem scanF_nil (n : Nat) (pos : Int) : scanF n [] pos = some [] := by cases n <;> rfl

theorem tokR_name {l : List UInt8} (h : nameOk l = true) : tokR l = ([⟨3, 0, 0, ⟨l.toArray⟩⟩], 0) := by
  have h' := h
  rw [nameOk, Bool.and_eq_true, Bool.and_eq_true, decide_eq_true_iff, decide_eq_true_iff] at h'
  obtain ⟨⟨h1, h2⟩, h3⟩ := h'
  have hld : l.all isLD = true := by
    rw [List.all_eq_true] at h3 ⊢
    intro x hx; rw [isLD, h3 x hx]; rfl
  obtain ⟨t1, t2⟩ := takeWhile_all hld
  have hw : wordR l = (3, 0, l, true) := by unfold wordR; rw [if_pos h]
  unfold tokR
  rw [if_neg (by omega)]
  unfold scan
  cases l with
  | nil => simp at h1
  | cons c r =>
    rw [List.length_cons, scanF_word _ _ _ _ (by rw [List.all_cons, Bool.and_eq_true] at hld; exact hld.1), t1, t2, hw, if_pos rfl, scanF_nil]
    simp [outT, wtok, hw]

theorem scanF_names : ∀ (n : Nat) (l : List UInt8) (pos : Int) (ts : List S35), scanF n l pos = some ts → ∀ t ∈ ts, t.f0 = 3 → nameOk t.f3.data.toList = true
  | 0, l, pos, ts, h, t, ht, _ => by simp [scanF] at h; subst h; cases ht
  | n + 1, [], pos, ts, h, t, ht, _ => by simp [scanF] at h; subst h; cases ht
  | n + 1, c :: r, pos, ts, h, t, ht, h3 => by
    have cons : ∀ {a : S35} {o : Option (List S35)}, o.map (a :: ·) = some ts → (t = a ∨ ∃ ts', o = some ts' ∧ t ∈ ts') := by
      intro a o ho
      cases o with
      | none => cases ho
      | some l' =>
        have : a :: l' = ts := Option.some.inj ho
        subst this
        rcases List.mem_cons.1 ht with e | e
        · exact .inl e
        · exact .inr ⟨l', rfl, e⟩
    simp only [scanF] at h
    split at h
    · exact scanF_names n r _ ts h t ht h3
    · split at h
      · rcases cons h with e | ⟨ts', e1, e2⟩
        · subst e; simp at h3
        · exact scanF_names n r _ ts' e1 t e2 h3
      · split at h
        · rcases cons h with e | ⟨ts', e1, e2⟩
          · subst e; simp at h3
          · exact scanF_names n r _ ts' e1 t e2 h3
        · split at h
          · rcases cons h with e | ⟨ts', e1, e2⟩
            · subst e
              simp only [wtok] at h3 ⊢
              revert h3
              unfold wordR
              split
              · rename_i hn
                intro _; exact hn
              · split
                · intro h3; simp at h3
                · split
                  · intro h3; simp at h3
                  · split
                    · intro h3; simp at h3
                    · intro h3; simp at h3
            · exact scanF_names n _ _ ts' e1 t e2 h3
          · cases h

/-- A text is one token, a name with this text, exactly if it is a name. -/
theorem one_name (l : List UInt8) (h0 : (tokR l).2 = 0) (h1 : (tokR l).1.length = 1) (h2 : (rd_T35 (tokR l).1 0).f0 = 3) (h3 : (rd_T35 (tokR l).1 0).f3.toList = l) : nameOk l = true := by
  revert h0 h1 h2 h3
  unfold tokR
  split
  · intro h0; simp at h0
  · cases hs : scan l with
    | none => intro h0; simp [outT] at h0
    | some ts =>
      unfold outT
      simp only [List.length_nil, Nat.zero_add, List.nil_append]
      split
      · intro h0; simp at h0
      · intro _ h1 h2 h3
        obtain ⟨t, rfl⟩ := List.length_eq_one_iff.1 h1
        simp only [rd_T35, Int.toNat_zero, List.getD_cons_zero] at h2 h3
        have := scanF_names _ _ _ _ hs t (by simp) h2
        rwa [← Lib.toList_data, h3] at this

end Go.Proofs.YthcllibbaindbaaDoor.Px
namespace Go.Proofs.YthcllibbaindbaaDoor.Px
open Go.RowKit Go.Proofs.YthcllibbaindbaaDoorW.PrintWords Go.Proofs.YthcllibbaindbaaDoorW.PrintLast Go.Proofs.YthcllibbaindbaaDoorW.PrintMore

def byteInts (l : List UInt8) : List Int := l.map fun b => (b.toNat : Int)
theorem strOfNums_byteInts (l : List UInt8) : strOfNums (byteInts l) = ⟨l.toArray⟩ := by
  rw [strOfNums, byteInts, List.map_map]
  congr 2
  conv => rhs; rw [← List.map_id l]
  apply List.map_congr_left
  intro b _
  show UInt8.ofNat ((b.toNat : Int)).toNat = b
  rw [Int.toNat_natCast, UInt8.ofNat_toNat]
theorem bytesOf_mk (l : List UInt8) : bytesOf ⟨l.toArray⟩ = byteInts l := rfl
theorem byteInts_app (a b : List UInt8) : byteInts (a ++ b) = byteInts a ++ byteInts b := by rw [byteInts, List.map_append]; rfl
theorem byteInts_len (a : List UInt8) : (byteInts a).length = a.length := by rw [byteInts, List.length_map]
theorem size_mk (l : List UInt8) : (⟨l.toArray⟩ : ByteArray).size = l.length := by simp [ByteArray.size]

def endR (l : List S35) : ByteArray × Int := match joinF none l with
  | none => (⟨#[]⟩, 2)
  | some bs => (⟨bs.toArray⟩, 0)
theorem textR_eq (l : List S35) : textR l = if l.length > 2048 then (⟨#[]⟩, 3) else endR l := rfl

theorem decDigits_back : ∀ (n u : Nat), u ≤ n → Lib.decFrom 0 (Lib.decDigits u) = some u ∧ (Lib.decDigits u).all isD = true ∧ 1 ≤ (Lib.decDigits u).length ∧ ((Lib.decDigits u).headD 0 = 48 → u = 0)
  | n, u, hu => by
    have dv : ∀ d, d < 10 → Lib.digitVal (UInt8.ofNat (48 + d)) = some d := by decide
    have dd : ∀ d, d < 10 → isD (UInt8.ofNat (48 + d)) = true := by decide
    by_cases h : u < 10
    · rw [Lib.decDigits_one h]
      refine ⟨?_, by rw [List.all_cons, dd u h]; rfl, by simp, ?_⟩
      · have := Lib.decFrom_take [UInt8.ofNat (48 + u)] 0 0 0 (UInt8.ofNat (48 + u)) u rfl rfl (dv u h)
        simpa using this
      · intro e
        have : ∀ d, d < 10 → UInt8.ofNat (48 + d) = 48 → d = 0 := by decide
        exact this u h e
    · obtain ⟨i1, i2, i3, i4⟩ := decDigits_back (n - 1) (u / 10) (by omega)
      rw [Lib.decDigits, dif_neg h]
      have hm : u % 10 < 10 := by omega
      refine ⟨?_, by rw [List.all_append, i2, List.all_cons, dd _ hm]; rfl, by simp, ?_⟩
      · have := Lib.decFrom_take (Lib.decDigits (u / 10) ++ [UInt8.ofNat (48 + u % 10)]) (Lib.decDigits (u / 10)).length 0 (u / 10) (UInt8.ofNat (48 + u % 10)) (u % 10) (by rw [List.take_left]; exact i1) (by simp) (dv _ hm)
        rw [List.take_of_length_le (by simp)] at this
        rw [this]; congr 1; omega
      · intro e
        cases hd : Lib.decDigits (u / 10) with
        | nil => rw [hd] at i3; simp at i3
        | cons a t =>
          rw [hd] at e i4
          have := i4 (by simpa using e)
          omega

theorem isLD_ne {c : UInt8} (h : isLD c = true) : c ≠ 32 ∧ c ≠ 10 ∧ c ≠ 40 ∧ c ≠ 41 := by
  refine ⟨?_, ?_, ?_, ?_⟩ <;> (intro e; subst e; revert h; decide)
theorem isD_notL {c : UInt8} (h : isD c = true) : isL c = false := by
  have := isD_range h
  cases hl : isL c with
  | false => rfl
  | true => have := isL_range hl; omega

theorem dec_num {u : Nat} (h : u ≤ 999999) : numOk (Lib.decDigits u) = true ∧ numVal (Lib.decDigits u) = u ∧ nameOk (Lib.decDigits u) = false := by
  obtain ⟨h1, h2, h3, h4⟩ := decDigits_back u u (Nat.le_refl _)
  have h6 := (dec_six u).2 h
  refine ⟨?_, by rw [numVal, h1]; rfl, ?_⟩
  · rw [numOk, Bool.and_eq_true, Bool.and_eq_true, Bool.and_eq_true, decide_eq_true_iff, decide_eq_true_iff]
    refine ⟨⟨⟨h3, h6⟩, h2⟩, ?_⟩
    rw [Bool.not_eq_true', Bool.eq_false_iff, ne_eq, Bool.and_eq_true, beq_iff_eq, decide_eq_true_iff]
    rintro ⟨e, hlt⟩
    have := h4 e
    subst this
    rw [Lib.decDigits_one (by omega)] at hlt
    simp at hlt
  · rw [nameOk]
    cases hd : Lib.decDigits u with
    | nil => rw [hd] at h3; simp at h3
    | cons a t =>
      rw [hd, List.all_cons, Bool.and_eq_true] at h2
      rw [List.all_cons, isD_notL h2.1]; simp

/-- The text of a word is a word, and says the token. -/
theorem word_tok {t : S35} {s : List UInt8} (h : txtO t = some s) (h1 : t.f0 ≠ 1) (h2 : t.f0 ≠ 2) :
    s.all isLD = true ∧ 1 ≤ s.length ∧ wordR s = (t.f0, t.f1, t.f3.data.toList, true) := by
  have up : ∀ {l : List UInt8}, l.all isL = true → l.all isLD = true := by
    intro l hl
    rw [List.all_eq_true] at hl ⊢
    intro x hx; rw [isLD, hl x hx]; rfl
  have upd : ∀ {l : List UInt8}, l.all isD = true → l.all isLD = true := by
    intro l hl
    rw [List.all_eq_true] at hl ⊢
    intro x hx; rw [isLD, hl x hx]; simp
  unfold txtO at h
  rw [if_neg h1, if_neg h2] at h
  split at h
  · rename_i h3
    split at h
    · rename_i hn
      cases h
      have hk := hn.2
      rw [nameOk, Bool.and_eq_true, Bool.and_eq_true, decide_eq_true_iff, decide_eq_true_iff] at hk
      refine ⟨up hk.2, hk.1.1, ?_⟩
      unfold wordR
      rw [if_pos hn.2, h3, hn.1]
    · cases h
  · split at h
    · rename_i h4
      split at h
      · rename_i hn
        cases h
        obtain ⟨a1, a2, a3⟩ := dec_num (u := t.f1.toNat) (by omega)
        obtain ⟨_, b2, b3, _⟩ := decDigits_back t.f1.toNat _ (Nat.le_refl _)
        refine ⟨upd b2, b3, ?_⟩
        unfold wordR
        rw [a3, a1, a2, h4, hn.2.2, Int.toNat_of_nonneg hn.1]
        rfl
      · cases h
    · split at h
      · rename_i h5
        split at h
        · rename_i hn
          cases h
          obtain ⟨a1, a2, a3⟩ := dec_num (u := t.f1.toNat) (by omega)
          obtain ⟨_, b2, b3, _⟩ := decDigits_back t.f1.toNat _ (Nat.le_refl _)
          refine ⟨by rw [List.all_cons, upd b2]; rfl, by simp, ?_⟩
          have n1 : nameOk (120 :: Lib.decDigits t.f1.toNat) = false := by
            rw [nameOk, List.all_cons]
            cases hd : Lib.decDigits t.f1.toNat with
            | nil => rw [hd] at b3; simp at b3
            | cons a r =>
              rw [hd, List.all_cons, Bool.and_eq_true] at b2
              rw [List.all_cons, isD_notL b2.1]; simp
          have n2 : numOk (120 :: Lib.decDigits t.f1.toNat) = false := by
            rw [numOk, List.all_cons, show isD 120 = false from by decide]; simp
          unfold wordR
          rw [n1, n2, h5, hn.2.2]
          simp only [Bool.false_eq_true, if_false, if_true, numR, a1, a2]
          rw [Int.toNat_of_nonneg hn.1]
        · cases h
      · cases h

/-- The tokens with the places that their text gives them. -/
def putP (prev : Option Int) (pos : Int) : List S35 → List S35
  | [] => []
  | t :: r => ⟨t.f0, t.f1, pos + (if sepB prev t.f0 then 1 else 0), t.f3⟩ :: putP (some t.f0) (pos + (if sepB prev t.f0 then 1 else 0) + ((txtO t).getD []).length) r

/-- What stands behind a word is no letter and no digit. -/
def Stops (bs : List UInt8) : Prop := ∀ c, bs.head? = some c → isLD c = false
theorem takeWhile_stop {s rest : List UInt8} (hs : s.all isLD = true) (hr : Stops rest) : (s ++ rest).takeWhile isLD = s ∧ (s ++ rest).dropWhile isLD = rest := by
  induction s with
  | nil =>
    cases rest with
    | nil => exact ⟨rfl, rfl⟩
    | cons c r =>
      have := hr c rfl
      simp [this]
  | cons a t ih =>
    rw [List.all_cons, Bool.and_eq_true] at hs
    obtain ⟨h1, h2⟩ := ih hs.2
    simp [hs.1, h1, h2]

theorem stops_join {p : Int} (hp : p ≠ 1) {l : List S35} {bs : List UInt8} (h : joinF (some p) l = some bs) : Stops bs := by
  intro c hc
  cases l with
  | nil => simp [joinF] at h; subst h; simp at hc
  | cons t r =>
    rw [joinF] at h
    cases hs : txtO t with
    | none => rw [hs] at h; cases h
    | some s =>
      rw [hs] at h
      cases hj : joinF (some t.f0) r with
      | none => rw [hj] at h; cases h
      | some rest =>
        rw [hj] at h
        have e : (if sepB (some p) t.f0 then [32] else []) ++ s ++ rest = bs := Option.some.inj h
        subst e
        by_cases h2 : t.f0 = 2
        · have hsep : sepB (some p) t.f0 = false := by rw [sepB, h2]; simp
          have h41 : s = [41] := by
            unfold txtO at hs
            rw [if_neg (by omega), if_pos h2] at hs
            split at hs
            · cases hs; rfl
            · cases hs
          rw [hsep, h41] at hc
          simp at hc
          subst hc; decide
        · have hsep : sepB (some p) t.f0 = true := by
            rw [sepB, Bool.and_eq_true, bne_iff_ne, bne_iff_ne]; exact ⟨hp, h2⟩
          rw [hsep] at hc
          simp at hc
          subst hc; decide

theorem scan_join : ∀ (l : List S35) (prev : Option Int) (pos : Int) (bs : List UInt8) (n : Nat), joinF prev l = some bs → bs.length ≤ n → scanF n bs pos = some (putP prev pos l)
  | [], prev, pos, bs, n, h, hn => by
    simp [joinF] at h; subst h
    rw [scanF_nil]; rfl
  | t :: r, prev, pos, bs, n, h, hn => by
    rw [joinF] at h
    cases hs : txtO t with
    | none => rw [hs] at h; cases h
    | some s =>
      rw [hs] at h
      cases hj : joinF (some t.f0) r with
      | none => rw [hj] at h; cases h
      | some rest =>
        rw [hj] at h
        have e : (if sepB prev t.f0 then [32] else []) ++ s ++ rest = bs := Option.some.inj h
        -- without the space ahead
        have core : ∀ (m : Nat) (q : Int), s.length + rest.length ≤ m → scanF m (s ++ rest) q = some (⟨t.f0, t.f1, q, t.f3⟩ :: putP (some t.f0) (q + s.length) r) := by
          intro m q hm
          by_cases h1 : t.f0 = 1
          · unfold txtO at hs
            rw [if_pos h1] at hs
            split at hs
            · rename_i hk
              cases hs
              cases m with
              | zero => simp at hm
              | succ m =>
                have hf3 : t.f3 = ⟨#[]⟩ := by rw [← mk_data t.f3, hk.2]
                have ih := scan_join r (some t.f0) (q + 1) rest m hj (by simp at hm; omega)
                rw [List.singleton_append, scanF, if_neg (by decide), if_pos rfl, ih, h1, hk.1, hf3]
                rfl
            · cases hs
          · by_cases h2 : t.f0 = 2
            · unfold txtO at hs
              rw [if_neg h1, if_pos h2] at hs
              split at hs
              · rename_i hk
                cases hs
                cases m with
                | zero => simp at hm
                | succ m =>
                  have hf3 : t.f3 = ⟨#[]⟩ := by rw [← mk_data t.f3, hk.2]
                  have ih := scan_join r (some t.f0) (q + 1) rest m hj (by simp at hm; omega)
                  rw [List.singleton_append, scanF, if_neg (by decide), if_neg (by decide), if_pos rfl, ih, h2, hk.1, hf3]
                  rfl
              · cases hs
            · obtain ⟨w1, w2, w3⟩ := word_tok hs h1 h2
              obtain ⟨t1, t2⟩ := takeWhile_stop w1 (stops_join h1 hj)
              cases m with
              | zero => omega
              | succ m =>
                cases hsc : s with
                | nil => rw [hsc] at w2; simp at w2
                | cons c s' =>
                  rw [hsc] at w1 t1 t2 w3
                  rw [List.all_cons, Bool.and_eq_true] at w1
                  rw [List.cons_append] at t1 t2
                  have ih := scan_join r (some t.f0) (q + (c :: s').length) rest m hj (by rw [hsc] at hm; simp at hm; omega)
                  rw [List.cons_append, scanF_word _ _ _ _ w1.1, t1, t2, w3, if_pos rfl, ih]
                  simp only [Option.map_some, wtok, w3, mk_data]
        have hlen : ((txtO t).getD []).length = s.length := by rw [hs]; rfl
        rw [putP, hlen]
        cases hsep : sepB prev t.f0 with
        | false =>
          rw [hsep] at e
          simp only [Bool.false_eq_true, if_false, List.nil_append] at e
          subst e
          rw [List.length_append] at hn
          have := core n pos hn
          simpa using this
        | true =>
          rw [hsep] at e
          simp only [if_true, List.cons_append] at e
          subst e
          cases n with
          | zero => simp at hn
          | succ n =>
            rw [scanF, if_pos (.inl rfl)]
            simp only [List.length_cons, List.length_append] at hn
            have := core n (pos + 1) (by omega)
            simpa using this

end Go.Proofs.YthcllibbaindbaaDoor.Px
namespace Go.Proofs.YthcllibbaindbaaDoor.Px
open Go.RowKit Go.Proofs.YthcllibbaindbaaDoorW.PrintWords Go.Proofs.YthcllibbaindbaaDoorW.PrintLast Go.Proofs.YthcllibbaindbaaDoorW.PrintMore

/-- Tokens that have a text each. -/
def Valid (l : List S35) : Prop := ∀ t ∈ l, ∃ s, txtO t = some s
theorem join_valid : ∀ (l : List S35) (prev : Option Int), Valid l → ∃ bs, joinF prev l = some bs ∧ bs.length ≤ 18 * l.length
  | [], _, _ => ⟨[], rfl, by simp⟩
  | t :: r, prev, h => by
    obtain ⟨s, hs⟩ := h t (by simp)
    obtain ⟨rest, hr, hl⟩ := join_valid r (some t.f0) (fun x hx => h x (by simp [hx]))
    have := txtO_len _ _ hs
    refine ⟨(if sepB prev t.f0 then [32] else []) ++ s ++ rest, ?_, ?_⟩
    · rw [joinF, hs]; show (joinF (some t.f0) r).map _ = _; rw [hr]; rfl
    · rw [List.length_append, List.length_append, List.length_cons]
      split <;> simp <;> omega

theorem rdOf_mem {α : Type} (z : α) (l : List α) (i : Int) (h0 : 0 ≤ i) (h1 : i < l.length) : rdOf z l i ∈ l := by
  rw [rdOf, List.getD_eq_getElem?_getD, List.getElem?_eq_getElem (by omega)]
  exact List.getElem_mem _

theorem valid_app {l : List S35} {t : S35} {s : List UInt8} (h : Valid l) (ht : txtO t = some s) : Valid (l ++ [t]) := by
  intro x hx
  rcases List.mem_append.1 hx with h' | h'
  · exact h x h'
  · rw [List.mem_singleton] at h'; subst h'; exact ⟨s, ht⟩

theorem txt1 {a : Int} (h : a = 1) : txtO ⟨a, 0, 0, ⟨#[]⟩⟩ = some [40] := by subst h; rfl
theorem txt2 {a : Int} (h : a = 2) : txtO ⟨a, 0, 0, ⟨#[]⟩⟩ = some [41] := by subst h; rfl
theorem txt3 {a : Int} {s : ByteArray} (h : a = 3) (hs : nameOk s.data.toList = true) : txtO ⟨a, 0, 0, s⟩ = some s.data.toList := by
  subst h; unfold txtO; rw [if_neg (show ¬ (3 : Int) = 1 by decide), if_neg (show ¬ (3 : Int) = 2 by decide), if_pos rfl, if_pos ⟨rfl, hs⟩]
theorem txt4 {a n : Int} (h : a = 4) (h0 : 0 ≤ n) (h1 : n ≤ 999999) : txtO ⟨a, n, 0, ⟨#[]⟩⟩ = some (Lib.decDigits n.toNat) := by
  subst h; unfold txtO; rw [if_neg (show ¬ (4 : Int) = 1 by decide), if_neg (show ¬ (4 : Int) = 2 by decide), if_neg (show ¬ (4 : Int) = 3 by decide), if_pos rfl, if_pos ⟨h0, h1, rfl⟩]
theorem txt5 {a n : Int} (h : a = 5) (h0 : 0 ≤ n) (h1 : n ≤ 999999) : txtO ⟨a, n, 0, ⟨#[]⟩⟩ = some (120 :: Lib.decDigits n.toNat) := by
  subst h; unfold txtO; rw [if_neg (show ¬ (5 : Int) = 1 by decide), if_neg (show ¬ (5 : Int) = 2 by decide), if_neg (show ¬ (5 : Int) = 3 by decide), if_neg (show ¬ (5 : Int) = 4 by decide), if_pos rfl, if_pos ⟨h0, h1, rfl⟩]

theorem txtO_place (a n p q : Int) (s : ByteArray) : txtO ⟨a, n, p, s⟩ = txtO ⟨a, n, q, s⟩ := rfl
theorem txtO_int {t : S35} {s : List UInt8} (h : txtO t = some s) : intB t = true := by
  have : -9223372036854775808 ≤ t.f1 ∧ t.f1 ≤ 9223372036854775807 := by
    unfold txtO at h
    split at h
    · split at h
      · omega
      · cases h
    · split at h
      · split at h
        · omega
        · cases h
      · split at h
        · split at h
          · omega
          · cases h
        · split at h
          · split at h
            · omega
            · cases h
          · split at h
            · split at h
              · omega
              · cases h
            · cases h
  rw [intB, decide_eq_true this.1, decide_eq_true this.2]; rfl
theorem txtO_pos {t : S35} {s : List UInt8} (h : txtO t = some s) : 1 ≤ s.length := by
  by_cases h1 : t.f0 = 1
  · unfold txtO at h; rw [if_pos h1] at h; split at h
    · cases h; simp
    · cases h
  · by_cases h2 : t.f0 = 2
    · unfold txtO at h; rw [if_neg h1, if_pos h2] at h; split at h
      · cases h; simp
      · cases h
    · exact (word_tok h h1 h2).2.1

/-- One token's text, with its place left out. -/
theorem one_text {t : S35} {s : List UInt8} (h : txtO t = some s) : lexis_Text.f [(⟨t.f0, t.f1, 0, t.f3⟩ : S35)] = some (⟨s.toArray⟩, 0) := by
  have h' : txtO (⟨t.f0, t.f1, 0, t.f3⟩ : S35) = some s := h
  unfold lexis_Text.f
  rw [List.all_cons, txtO_int h', List.all_nil, Bool.and_true, if_pos rfl, textR_eq, if_neg (by simp), endR, joinF, h']
  simp [joinF, sepB]

theorem wrap_id {x : Int} (h0 : 0 ≤ x) (h1 : x ≤ 1000000) : wrap64 x = x := wrap_small (by omega) (by omega)

theorem putP_len : ∀ (l : List S35) (prev : Option Int) (p : Int), (putP prev p l).length = l.length
  | [], _, _ => rfl
  | t :: r, prev, p => by rw [putP, List.length_cons, putP_len r, List.length_cons]

theorem textR_valid {own : List S35} (h : Valid own) (hl : own.length ≤ 100) : ∃ bs, joinF none own = some bs ∧ textR own = (⟨bs.toArray⟩, 0) ∧ bs.length ≤ 1800 := by
  obtain ⟨bs, hb, hn⟩ := join_valid own none h
  exact ⟨bs, hb, by rw [textR_eq, if_neg (by omega), endR, hb], by omega⟩

theorem tokR_join {own : List S35} {bs : List UInt8} (h : joinF none own = some bs) (hb : bs.length ≤ 8192) (hl : own.length ≤ 2048) : tokR bs = (putP none 0 own, 0) := by
  unfold tokR
  rw [if_neg (by omega), scan, scan_join own none 0 bs bs.length h (Nat.le_refl _), outT]
  simp only [List.length_nil, Nat.zero_add, List.nil_append]
  rw [putP_len, if_neg (by omega)]

end Go.Proofs.YthcllibbaindbaaDoor.Px
namespace Go.Proofs.YthcllibbaindbaaDoor.Px
open Go.RowKit Go.Proofs.YthcllibbaindbaaDoorW.PrintWords Go.Proofs.YthcllibbaindbaaDoorW.PrintLast Go.Proofs.YthcllibbaindbaaDoorW.PrintMore

def lexis_Same.f (k : Nat) (l0 : List (S35)) (l1 : List (S35)) : Option (Bool) := api_Token.f k l0 l1
theorem lexis_Same.mono : ∀ l0 l1 k, LeO (lexis_Same.f k l0 l1) (lexis_Same.f (k + 1) l0 l1) := api_Token.mono
set_option maxHeartbeats 4000000 in
set_option maxRecDepth 100000 in
theorem lexis_Same.calls (k : Nat) (A0 : Option Addr) (c0 : Nat) (l0 : List (S35)) (A1 : Option Addr) (c1 : Nat) (l1 : List (S35)) (r : Bool) (w : World) (hr0 : Kd.C k35 w A0 l0.length l0) (hc0 : l0.length ≤ c0) (hr1 : Kd.C k35 w A1 l1.length l1) (hc1 : l1.length ≤ c1) (h : lexis_Same.f k l0 l1 = some r) :
    Calls Tryd.prog 15 #[.slice A0 l0.length c0, .slice A1 l1.length c1] w fun e w' => e = .returned (.bool r) ∧ Below w.heap.size w w' := by
  have HR0 := Aside0.mk hr0
  have HC0 := Aside0.mk hc0
  have HR1 := Aside0.mk hr1
  have HC1 := Aside0.mk hc1
  have AK := Aside0.mk (show api_Token.f k l0 l1 = some r from h)
  clear hr0 hc0 hr1 hc1 h
  go_enter Tryd.func15, Tryd.ntmps15
  go_wp2_with (go_at_call 27; (with_reducible refine (api_Token.calls k A0 c0 l0 A1 c1 l1 r _ HR0.out HC0.out HR1.out HC1.out AK.out).mono ?_); rintro e w1 ⟨rfl, hb⟩; have HB := Aside0.mk hb; clear hb)
  go_ret
  exact ⟨rfl, HB.out⟩
end Go.Proofs.YthcllibbaindbaaDoor.Px
namespace Go.Proofs.YthcllibbaindbaaDoor.Px
open Go.RowKit Go.Proofs.YthcllibbaindbaaDoorW.PrintWords Go.Proofs.YthcllibbaindbaaDoorW.PrintLast Go.Proofs.YthcllibbaindbaaDoorW.PrintMore

/-- A token with its place left out. -/
def key (t : S35) : S35 := ⟨t.f0, t.f1, 0, t.f3⟩
def SameT (a b : List S35) : Prop := a.map key = b.map key
theorem SameT.len {a b : List S35} (h : SameT a b) : a.length = b.length := by
  have := congrArg List.length h
  rwa [List.length_map, List.length_map] at this
theorem putP_same : ∀ (l : List S35) (prev : Option Int) (p : Int), SameT (putP prev p l) l
  | [], _, _ => rfl
  | t :: r, prev, p => by
    have ih : (putP (some t.f0) (p + (if sepB prev t.f0 then 1 else 0) + ((txtO t).getD []).length) r).map key = r.map key := putP_same r _ _
    show (putP prev p (t :: r)).map key = (t :: r).map key
    rw [putP, List.map_cons, List.map_cons, ih]; rfl
theorem join_key : ∀ (l : List S35) (prev : Option Int), joinF prev (l.map key) = joinF prev l
  | [], _ => rfl
  | t :: r, prev => by
    have ih := join_key r (some t.f0)
    rw [List.map_cons, joinF, joinF]
    show (match txtO t with | none => none | some s => (joinF (some t.f0) (r.map key)).map fun rest => (if sepB prev t.f0 then [32] else []) ++ s ++ rest) = _
    rw [ih]
    try rfl
theorem SameT.join {a b : List S35} (h : SameT a b) (prev : Option Int) : joinF prev a = joinF prev b := by
  rw [← join_key a, ← join_key b, h]
theorem SameT.text {a b : List S35} (h : SameT a b) : textR a = textR b := by
  rw [textR_eq, textR_eq, h.len, endR, endR, h.join]
theorem rd_key (l : List S35) (i : Int) : rd_T35 (l.map key) i = key (rd_T35 l i) := by
  rw [rd_T35, rd_T35, List.getD_eq_getElem?_getD, List.getD_eq_getElem?_getD, List.getElem?_map]
  cases l[i.toNat]? <;> rfl
theorem SameT.at {a b : List S35} (h : SameT a b) (i : Int) : key (rd_T35 a i) = key (rd_T35 b i) := by
  rw [← rd_key, ← rd_key, h]
theorem SameT.valid {a b : List S35} (h : SameT a b) (hv : Valid b) : Valid a := by
  intro t ht
  have : key t ∈ b.map key := by rw [← h]; exact List.mem_map_of_mem ht
  obtain ⟨u, hu, e⟩ := List.mem_map.1 this
  obtain ⟨s, hs⟩ := hv u hu
  refine ⟨s, ?_⟩
  have e1 : txtO (key u) = txtO u := rfl
  have e2 : txtO (key t) = txtO t := rfl
  rw [← e2, ← e, e1, hs]

theorem same_loop (a b : List S35) (h : SameT a b) (hb : a.length ≤ 100000) : ∀ (d : Nat) (i : Int), 0 ≤ i → (a.length : Int) - i = d → Ev (fun k => api_Token.l0 k b a (a.length : Int) i) true
  | 0, i, h0, hd => Ev.step (f := _) (fun k => by rw [api_Token.l0]) (evn (by omega) (Ev.now _))
  | d + 1, i, h0, hd => by
    have hl := h.len
    have e := h.at i
    have next := same_loop a b h hb d (i + 1) (by omega) (by omega)
    refine Ev.step (f := _) (fun k => by rw [api_Token.l0]) (evp (by omega) (evp h0 (evp (by omega) (evp (by omega) ?_))))
    have e0 : (rd_T35 a i).f0 = (rd_T35 b i).f0 := by
      have e' := congrArg S35.f0 e
      exact e'
    have e1 : (rd_T35 a i).f1 = (rd_T35 b i).f1 := by
      have e' := congrArg S35.f1 e
      exact e'
    have e3 : (rd_T35 a i).f3 = (rd_T35 b i).f3 := by
      have e' := congrArg S35.f3 e
      exact e'
    rw [lexis_Same_1.f, e0, e1, e3, wrap_id (x := i + 1) (by omega) (by omega)]
    simp only [beq_self_eq_true, Bool.and_self, Option.bind_some]
    exact evp trivial next

theorem same_ev {a b : List S35} (h : SameT a b) (hb : a.length ≤ 100000) : Ev (fun k => lexis_Same.f k a b) true := by
  show Ev (fun k => api_Token.f k a b) true
  unfold api_Token.f
  exact evp (by rw [h.len]) (same_loop a b h hb a.length 0 (by omega) (by omega))

theorem text_f {l : List S35} (h : Valid l) : lexis_Text.f l = some (textR l) := by
  unfold lexis_Text.f
  rw [if_pos]
  rw [List.all_eq_true]
  intro t ht
  obtain ⟨s, hs⟩ := h t ht
  exact txtO_int hs

/-! ### More blanks -/
def isSp (c : UInt8) : Bool := c == 32 || c == 10
def special (c : UInt8) : Bool := c == 32 || c == 40 || c == 41
/-- The second list is the first with up to two blanks behind a space or a parenthesis. -/
inductive Wide : List UInt8 → List UInt8 → Prop
  | nil : Wide [] []
  | cons (c : UInt8) (z : List UInt8) {r r' : List UInt8} (hz : z.all isSp = true) (hl : z.length ≤ 2) (hs : special c = true ∨ z = []) (h : Wide r r') : Wide (c :: r) (c :: (z ++ r'))
theorem Wide.snoc {a b : List UInt8} (h : Wide a b) (c : UInt8) (z : List UInt8) (hz : z.all isSp = true) (hl : z.length ≤ 2) (hs : special c = true ∨ z = []) : Wide (a ++ [c]) (b ++ c :: z) := by
  induction h with
  | nil =>
    have := Wide.cons c z hz hl hs Wide.nil
    rw [List.append_nil] at this
    exact this
  | cons d y hy hl' hs' _ ih =>
    have := Wide.cons d y hy hl' hs' ih
    rw [List.cons_append, List.cons_append, List.append_assoc]
    exact this
theorem Wide.uncons {c : UInt8} {r w : List UInt8} (h : Wide (c :: r) w) : ∃ z r', w = c :: (z ++ r') ∧ z.all isSp = true ∧ z.length ≤ 2 ∧ (special c = true ∨ z = []) ∧ Wide r r' := by
  cases h with
  | cons _ z hz hl hs h => exact ⟨z, _, rfl, hz, hl, hs, h⟩
theorem Wide.word {s rest w : List UInt8} (hs : s.all isLD = true) (h : Wide (s ++ rest) w) : ∃ w', w = s ++ w' ∧ Wide rest w' := by
  induction s generalizing w with
  | nil => exact ⟨w, rfl, h⟩
  | cons c t ih =>
    rw [List.all_cons, Bool.and_eq_true] at hs
    obtain ⟨z, r', rfl, _, _, hsp, hr⟩ := Wide.uncons h
    obtain ⟨w', rfl, hw⟩ := ih hs.2 hr
    have : z = [] := by
      rcases hsp with h | h
      · obtain ⟨n1, n2, n3, n4⟩ := isLD_ne hs.1
        simp [special, n1, n3, n4] at h
      · exact h
    subst this
    exact ⟨w', rfl, hw⟩
theorem Wide.stops {rest w : List UInt8} (h : Wide rest w) (hr : Stops rest) : Stops w := by
  intro c hc
  cases h with
  | nil => simp at hc
  | cons d z _ _ _ _ =>
    have : d = c := by simpa using hc
    subst this
    exact hr d rfl

theorem skip : ∀ (z w : List UInt8) (n : Nat) (pos : Int), z.all isSp = true → (z ++ w).length ≤ n → ∃ m q, w.length ≤ m ∧ scanF n (z ++ w) pos = scanF m w q
  | [], w, n, pos, _, h => ⟨n, pos, h, rfl⟩
  | c :: z, w, n, pos, hz, h => by
    rw [List.all_cons, Bool.and_eq_true] at hz
    cases n with
    | zero => simp at h
    | succ n =>
      obtain ⟨m, q, h1, h2⟩ := skip z w n (pos + 1) hz.2 (by simp at h; simp; omega)
      refine ⟨m, q, h1, ?_⟩
      have hc : c = 32 ∨ c = 10 := by simpa [isSp] using hz.1
      rw [List.cons_append, scanF, if_pos hc, h2]

theorem scan_wide : ∀ (l : List S35) (prev : Option Int) (pos : Int) (bs w : List UInt8) (n : Nat), joinF prev l = some bs → Wide bs w → w.length ≤ n → ∃ ts, scanF n w pos = some ts ∧ SameT ts l
  | [], prev, pos, bs, w, n, h, hw, hn => by
    simp [joinF] at h; subst h
    cases hw
    exact ⟨[], scanF_nil _ _, rfl⟩
  | t :: r, prev, pos, bs, w, n, h, hw, hn => by
    rw [joinF] at h
    cases hs : txtO t with
    | none => rw [hs] at h; cases h
    | some s =>
      rw [hs] at h
      cases hj : joinF (some t.f0) r with
      | none => rw [hj] at h; cases h
      | some rest =>
        rw [hj] at h
        have e : (if sepB prev t.f0 then [32] else []) ++ s ++ rest = bs := Option.some.inj h
        have core : ∀ (v : List UInt8) (m : Nat) (q : Int), Wide (s ++ rest) v → v.length ≤ m → ∃ ts, scanF m v q = some ts ∧ SameT ts (t :: r) := by
          intro v m q hv hm
          by_cases h1 : t.f0 = 1
          · unfold txtO at hs
            rw [if_pos h1] at hs
            split at hs
            · rename_i hk
              cases hs
              obtain ⟨z, v', rfl, hz, _, _, hv'⟩ := Wide.uncons hv
              cases m with
              | zero => simp at hm
              | succ m =>
                have hf3 : t.f3 = ⟨#[]⟩ := by rw [← mk_data t.f3, hk.2]
                obtain ⟨m', q', g1, g2⟩ := skip z v' m (q + 1) hz (by simp at hm; simp; omega)
                obtain ⟨ts, i1, i2⟩ := scan_wide r (some t.f0) q' rest v' m' hj hv' g1
                refine ⟨⟨1, 0, q, ⟨#[]⟩⟩ :: ts, ?_, ?_⟩
                · rw [scanF, if_neg (by decide), if_pos rfl, g2, i1]; rfl
                · show List.map key _ = List.map key _
                  rw [List.map_cons, List.map_cons, i2, key, key, h1, hk.1, hf3]
            · cases hs
          · by_cases h2 : t.f0 = 2
            · unfold txtO at hs
              rw [if_neg h1, if_pos h2] at hs
              split at hs
              · rename_i hk
                cases hs
                obtain ⟨z, v', rfl, hz, _, _, hv'⟩ := Wide.uncons hv
                cases m with
                | zero => simp at hm
                | succ m =>
                  have hf3 : t.f3 = ⟨#[]⟩ := by rw [← mk_data t.f3, hk.2]
                  obtain ⟨m', q', g1, g2⟩ := skip z v' m (q + 1) hz (by simp at hm; simp; omega)
                  obtain ⟨ts, i1, i2⟩ := scan_wide r (some t.f0) q' rest v' m' hj hv' g1
                  refine ⟨⟨2, 0, q, ⟨#[]⟩⟩ :: ts, ?_, ?_⟩
                  · rw [scanF, if_neg (by decide), if_neg (by decide), if_pos rfl, g2, i1]; rfl
                  · show List.map key _ = List.map key _
                    rw [List.map_cons, List.map_cons, i2, key, key, h2, hk.1, hf3]
              · cases hs
            · obtain ⟨w1, w2, w3⟩ := word_tok hs h1 h2
              obtain ⟨v', rfl, hv'⟩ := Wide.word w1 hv
              obtain ⟨t1, t2⟩ := takeWhile_stop w1 (hv'.stops (stops_join h1 hj))
              cases m with
              | zero => rw [List.length_append] at hm; omega
              | succ m =>
                cases hsc : s with
                | nil => rw [hsc] at w2; simp at w2
                | cons c s' =>
                  rw [hsc] at w1 t1 t2 w3
                  rw [List.all_cons, Bool.and_eq_true] at w1
                  rw [List.cons_append] at t1 t2
                  obtain ⟨ts, i1, i2⟩ := scan_wide r (some t.f0) (q + (c :: s').length) rest v' m hj hv' (by rw [hsc] at hm; simp at hm; omega)
                  refine ⟨wtok (c :: s') q :: ts, ?_, ?_⟩
                  · rw [List.cons_append, scanF_word _ _ _ _ w1.1, t1, t2, w3, if_pos rfl, i1]; rfl
                  · show List.map key _ = List.map key _
                    rw [List.map_cons, List.map_cons, i2, key, key, wtok, w3, mk_data]
        cases hsep : sepB prev t.f0 with
        | false =>
          rw [hsep] at e
          simp only [Bool.false_eq_true, if_false, List.nil_append] at e
          subst e
          exact core w n pos hw hn
        | true =>
          rw [hsep] at e
          simp only [if_true, List.cons_append, List.nil_append] at e
          subst e
          obtain ⟨z, v', rfl, hz, _, _, hv'⟩ := Wide.uncons hw
          cases n with
          | zero => simp at hn
          | succ n =>
            obtain ⟨m', q', g1, g2⟩ := skip z v' n (pos + 1) hz (by simp at hn; simp; omega)
            obtain ⟨ts, i1, i2⟩ := core v' m' q' hv' g1
            refine ⟨ts, ?_, i2⟩
            rw [scanF, if_pos (.inl rfl), g2, i1]

/-- How many signs behind which blanks may come. -/
def specials (l : List UInt8) : Nat := (l.filter special).length
theorem Wide.len {a b : List UInt8} (h : Wide a b) : b.length ≤ a.length + 2 * specials a := by
  induction h with
  | nil => simp
  | cons c z hz hl hs _ ih =>
    unfold specials at *
    rcases hs with hs | rfl
    · rw [List.filter_cons, if_pos hs]
      simp only [List.length_cons, List.length_append]; omega
    · rw [List.filter_cons]
      split <;> simp only [List.length_cons, List.length_append, List.length_nil] <;> omega
theorem specials_app (a b : List UInt8) : specials (a ++ b) = specials a + specials b := by
  unfold specials; rw [List.filter_append, List.length_append]
theorem specials_word {s : List UInt8} (h : s.all isLD = true) : specials s = 0 := by
  unfold specials
  rw [List.length_eq_zero_iff, List.filter_eq_nil_iff]
  intro c hc
  rw [List.all_eq_true] at h
  obtain ⟨n1, n2, n3, n4⟩ := isLD_ne (h c hc)
  simp [special, n1, n3, n4]
theorem specials_join : ∀ (l : List S35) (prev : Option Int) (bs : List UInt8), joinF prev l = some bs → specials bs ≤ 2 * l.length
  | [], prev, bs, h => by simp [joinF] at h; subst h; simp [specials]
  | t :: r, prev, bs, h => by
    rw [joinF] at h
    cases hs : txtO t with
    | none => rw [hs] at h; cases h
    | some s =>
      rw [hs] at h
      cases hj : joinF (some t.f0) r with
      | none => rw [hj] at h; cases h
      | some rest =>
        rw [hj] at h
        have e : (if sepB prev t.f0 then [32] else []) ++ s ++ rest = bs := Option.some.inj h
        have ih := specials_join r _ rest hj
        have hsp : specials s ≤ 1 := by
          by_cases h1 : t.f0 = 1
          · unfold txtO at hs
            rw [if_pos h1] at hs
            split at hs
            · cases hs; decide
            · cases hs
          · by_cases h2 : t.f0 = 2
            · unfold txtO at hs
              rw [if_neg h1, if_pos h2] at hs
              split at hs
              · cases hs; decide
              · cases hs
            · rw [specials_word (word_tok hs h1 h2).1]; omega
        have h0 : specials (if sepB prev t.f0 then [32] else []) ≤ 1 := by split <;> decide
        rw [← e, specials_app, specials_app, List.length_cons]
        omega

end Go.Proofs.YthcllibbaindbaaDoor.Px
