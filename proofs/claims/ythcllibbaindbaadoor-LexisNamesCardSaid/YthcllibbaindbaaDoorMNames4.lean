/- What lexis.Tokens comes to: a plain function on lists of bytes. lexis.Tokens as a plain function: the tokens of a list of bytes. Plain facts for the laws about tokens: the sanity check, the deck, which texts are one name. LexisNames' plain statement: a text is a name exactly if it is one token, a name, with this text. LexisNames returns true for every text and every list of numbers and leaves them as they were; under the row's own listed variables, tied to the program's text. -/
import Derived.Test.YthcllibbaindbaaDoorMNames3
import Derived.Test.YthcllibbaindbaaDoorMNames2
import Derived.Test.YthcllibbaindbaaDoorMNames1
import Derived.Test.YthcllibbaindbaaDoorRows
import Derived.Test.YthcllibbaindbaaDoorCards
import Derived.Test.YthcllibbaindbaaDoorTie
import Derived.WalkKit
import Derived.ProofKit
import Derived.OpenShut
import Derived.ShutString
import Derived.ChangeOld
import Derived.Below
import Derived.SizedLaws
import Derived.Deep.DeepHandedRow
import Derived.Test.YthcllibbaindbaaDoorWSized
import Derived.Test.YthcllibbaindbaaDoorMNames0
namespace Go.Proofs.YthcllibbaindbaaDoor.Px
open Go.RowKit Go.Lib Go.Proofs.YthcllibbaindbaaDoorW.PrintWords Go.Proofs.YthcllibbaindbaaDoorW.PrintLast Go.Proofs.YthcllibbaindbaaDoorW.PrintMore

def isL (b : UInt8) : Bool := letterP b.toNat
def isD (b : UInt8) : Bool := digitP b.toNat
def isLD (b : UInt8) : Bool := isL b || isD b
def nameOk (l : List UInt8) : Bool := decide (1 ≤ l.length) && decide (l.length ≤ 16) && l.all isL
def numOk (l : List UInt8) : Bool := decide (1 ≤ l.length) && decide (l.length ≤ 6) && l.all isD && !(l.headD 0 == 48 && decide (1 < l.length))
def numVal (l : List UInt8) : Int := ((decFrom 0 l).getD 0 : Nat)

theorem len_data (s : ByteArray) : s.data.toList.length = s.size := by rw [Array.length_toList]; rfl
theorem get_list (s : ByteArray) (i : Nat) (h : i < s.size) : s.data.toList[i]'(by rw [len_data]; exact h) = s.get! i := by
  have := toList_at s i h
  rw [List.getElem?_eq_getElem (by rw [len_data]; exact h)] at this
  exact Option.some.inj this

theorem all_iff (p : Nat → Bool) (s : ByteArray) : s.data.toList.all (fun b => p b.toNat) = true ↔ AllB p s 0 s.size := by
  rw [List.all_eq_true]
  refine ⟨fun h i _ hi => ?_, fun h x hx => ?_⟩
  · have := h (s.data.toList[i]'(by rw [len_data]; exact hi)) (List.getElem_mem _)
    rwa [get_list s i hi] at this
  · obtain ⟨i, hi, rfl⟩ := List.getElem_of_mem hx
    rw [get_list s i (by rw [← len_data]; exact hi)]
    exact h i (by omega) (by rw [← len_data]; exact hi)

theorem isName_iff (s : ByteArray) : IsName s ↔ nameOk s.data.toList = true := by
  unfold IsName nameOk
  rw [Bool.and_eq_true, Bool.and_eq_true, decide_eq_true_iff, decide_eq_true_iff, len_data, and_assoc]
  exact and_congr_right fun _ => and_congr_right fun _ => (all_iff letterP s).symm

theorem head_bt (s : ByteArray) (h : 1 ≤ s.size) : (s.data.toList.headD 0 == 48) = true ↔ bt s 0 = 48 := by
  have e : s.data.toList.headD 0 = s.get! 0 := by
    have h0 := toList_at s 0 (by omega)
    cases hl : s.data.toList with
    | nil => rw [hl] at h0; simp at h0
    | cons a t => rw [hl] at h0; simpa using h0
  have hb : bt s 0 = ((s.get! 0).toNat : Int) := bt_get s 0 (by omega)
  rw [e, beq_iff_eq, hb]
  refine ⟨fun h => by rw [h]; rfl, fun h => ?_⟩
  apply UInt8.toNat_inj.1
  show (s.get! 0).toNat = 48
  omega

theorem isNum_iff (s : ByteArray) : IsNum s ↔ numOk s.data.toList = true := by
  unfold IsNum numOk
  rw [Bool.and_eq_true, Bool.and_eq_true, Bool.and_eq_true, decide_eq_true_iff, decide_eq_true_iff, len_data, and_assoc, and_assoc]
  refine and_congr_right fun h1 => and_congr_right fun _ => and_congr (all_iff digitP s).symm ?_
  rw [Bool.not_eq_true', Bool.eq_false_iff, ne_eq, Bool.and_eq_true, head_bt s h1, decide_eq_true_iff]

theorem Name_ev (s : ByteArray) : Ev (fun k => proofprogramsref14_Name.f k s) (nameOk s.data.toList) := by
  obtain ⟨r, hr⟩ := Name_some 20 (Nat.le_refl _) s
  have e : r = nameOk s.data.toList := by
    rw [Bool.eq_iff_iff, Name_law 20 s r hr]; exact isName_iff s
  rw [← e]
  exact Ev.of (proofprogramsref14_Name.mono s) hr

def numR (l : List UInt8) : Int × Bool := if numOk l then (numVal l, true) else (0, false)
theorem number_ev (s : ByteArray) : Ev (fun k => proofprogramsref14_number.f k s) (numR s.data.toList) := by
  obtain ⟨⟨r1, r2⟩, hr⟩ := number_some 20 (Nat.le_refl _) s
  have e : (r1, r2) = numR s.data.toList := by
    unfold numR
    rcases number_law 20 s r1 r2 hr with ⟨rfl, hn, n, rfl, hd⟩ | ⟨rfl, rfl, hn⟩
    · rw [if_pos ((isNum_iff s).1 hn)]; simp [numVal, hd]
    · rw [if_neg (fun h => hn ((isNum_iff s).2 h))]
  rw [← e]
  exact Ev.of (proofprogramsref14_number.mono s) hr

theorem Name_ev' (s : ByteArray) : Ev (fun k => lexis_Name.f k s) (nameOk s.data.toList) := Name_ev s
theorem number_ev' (s : ByteArray) : Ev (fun k => lexis_number.f k s) (numR s.data.toList) := number_ev s

/-- A word as a token: kind, number, text; and whether it is one. -/
def wordR (l : List UInt8) : Int × Int × List UInt8 × Bool :=
  if nameOk l then (3, 0, l, true)
  else if numOk l then (4, numVal l, [], true)
  else match l with
    | [] => (0, 0, [], false)
    | c :: r => if c = 120 then (5, (numR r).1, [], (numR r).2) else (0, 0, [], false)

theorem mk_data (s : ByteArray) : (⟨s.data.toList.toArray⟩ : ByteArray) = s := by obtain ⟨d⟩ := s; rfl
theorem empty_mk : (⟨([] : List UInt8).toArray⟩ : ByteArray) = ⟨#[]⟩ := rfl

theorem cutx (s : ByteArray) : strings_CutPrefix.f s (⟨#[120]⟩ : ByteArray) = some (match s.data.toList with
    | [] => (s, false)
    | c :: r => if c = 120 then (⟨r.toArray⟩, true) else (s, false)) := by
  have h1 : ((⟨#[120]⟩ : ByteArray).size : Int) = 1 := rfl
  have h2 : (⟨#[120]⟩ : ByteArray).toList = [120] := by rw [Lib.toList_data]
  unfold strings_CutPrefix.f stringslite_CutPrefix.f stringslite_HasPrefix.f
  rw [h1]
  have hl := len_data s
  cases hd : s.data.toList with
  | nil =>
    rw [hd] at hl; simp at hl
    rw [if_neg (by omega)]
    simp
  | cons c r =>
    rw [hd] at hl; simp at hl
    rw [if_pos (by omega), if_pos (by omega), if_pos (by omega), Lib.extract_toList, hd, h2]
    have e : (List.take (Int.toNat 1 - 0) (List.drop 0 (c :: r)) == [120]) = decide (c = 120) := by
      rw [Bool.eq_iff_iff]; simp
    rw [e]
    simp only [Option.bind_some]
    by_cases hc : c = 120
    · rw [if_pos (by simpa using hc), if_pos (by omega), if_pos (by omega)]
      simp only [Option.bind_some, if_pos hc]
      congr 2
      rw [← mk_data (s.extract (Int.toNat 1) s.size), Lib.extract_data, hd]
      congr 2
      simp
      rw [List.take_of_length_le (by omega)]
    · rw [if_neg (by simpa using hc)]
      simp [hc]

theorem word_ev (s : ByteArray) : Ev (fun k => lexis_word.f k s) ((wordR s.data.toList).1, (wordR s.data.toList).2.1, 0, ⟨(wordR s.data.toList).2.2.1.toArray⟩, (wordR s.data.toList).2.2.2) := by
  unfold lexis_word.f
  refine Ev.bind (Name_ev' s) ?_
  unfold wordR
  cases hn : nameOk s.data.toList with
  | true => simp only [if_true]; rw [mk_data]; exact Ev.now _
  | false =>
    simp only [Bool.false_eq_true, if_false]
    refine Ev.bind (number_ev' s) ?_
    unfold numR
    cases hm : numOk s.data.toList with
    | true => simp only [if_true]; exact Ev.now _
    | false =>
      simp only [Bool.false_eq_true, if_false, cutx, Option.bind_some]
      cases hd : s.data.toList with
      | nil => simp only [Bool.false_eq_true, if_false]; exact Ev.now _
      | cons c r =>
        by_cases hc : c = 120
        · simp only [if_pos hc, if_true]
          exact Ev.bind (number_ev' ⟨r.toArray⟩) (Ev.now _)
        · simp only [if_neg hc, Bool.false_eq_true, if_false]; exact Ev.now _

end Go.Proofs.YthcllibbaindbaaDoor.Px
namespace Go.Proofs.YthcllibbaindbaaDoor.Px
open Go.RowKit Go.Lib Go.Proofs.YthcllibbaindbaaDoorW.PrintWords Go.Proofs.YthcllibbaindbaaDoorW.PrintLast Go.Proofs.YthcllibbaindbaaDoorW.PrintMore

def wtok (w : List UInt8) (pos : Int) : S35 := ⟨(wordR w).1, (wordR w).2.1, pos, ⟨(wordR w).2.2.1.toArray⟩⟩
def scanF : Nat → List UInt8 → Int → Option (List S35)
  | 0, _, _ => some []
  | _ + 1, [], _ => some []
  | n + 1, c :: r, pos =>
    if c = 32 ∨ c = 10 then scanF n r (pos + 1)
    else if c = 40 then (scanF n r (pos + 1)).map (⟨1, 0, pos, ⟨#[]⟩⟩ :: ·)
    else if c = 41 then (scanF n r (pos + 1)).map (⟨2, 0, pos, ⟨#[]⟩⟩ :: ·)
    else if (wordR ((c :: r).takeWhile isLD)).2.2.2 then (scanF n ((c :: r).dropWhile isLD) (pos + ((c :: r).takeWhile isLD).length)).map (wtok ((c :: r).takeWhile isLD) pos :: ·)
    else none
def outT (xs : List S35) : Option (List S35) → List S35 × Int
  | none => ([], 15)
  | some l => if xs.length + l.length > 2048 then ([], 3) else (xs ++ l, 0)
theorem outT_cons (xs : List S35) (t : S35) (o : Option (List S35)) : outT xs (o.map (t :: ·)) = outT (xs ++ [t]) o := by
  cases o with
  | none => rfl
  | some l => simp [outT, Nat.add_assoc, Nat.add_comm 1]

theorem takeWhile_append_dropWhile_len (l : List UInt8) (p : UInt8 → Bool) : (l.takeWhile p).length + (l.dropWhile p).length = l.length := by
  have := congrArg List.length (List.takeWhile_append_dropWhile (p := p) (l := l))
  rwa [List.length_append] at this
theorem drop_takeWhile_len (l : List UInt8) (p : UInt8 → Bool) : l.drop (l.takeWhile p).length = l.dropWhile p := by
  have h := List.takeWhile_append_dropWhile (p := p) (l := l)
  have e : (l.takeWhile p ++ l.dropWhile p).drop (l.takeWhile p).length = l.dropWhile p := List.drop_left
  rwa [h] at e
theorem take_takeWhile_len (l : List UInt8) (p : UInt8 → Bool) : l.take (l.takeWhile p).length = l.takeWhile p := by
  have h := List.takeWhile_append_dropWhile (p := p) (l := l)
  have e : (l.takeWhile p ++ l.dropWhile p).take (l.takeWhile p).length = l.takeWhile p := List.take_left
  rwa [h] at e
theorem Ev_pos {α : Type} {f g : Nat → Option α} {r : α} {c : Prop} [Decidable c] (h : c) (k : Ev f r) : Ev (fun n => if c then f n else g n) r := by simpa only [if_pos h] using k
theorem Ev_neg {α : Type} {f g : Nat → Option α} {r : α} {c : Prop} [Decidable c] (h : ¬ c) (k : Ev g r) : Ev (fun n => if c then f n else g n) r := by simpa only [if_neg h] using k
theorem wordR_nil : wordR [] = (0, 0, [], false) := rfl

theorem wrap32_byte {x : Int} (h0 : 0 ≤ x) (h1 : x ≤ 255) : wrap32 x = x := by unfold wrap32; omega
theorem lletter_f (r : Nat) : lexis_letter.f r = some (letterP r) := by
  unfold lexis_letter.f letterP
  by_cases h : (r : Int) ≥ 97
  · rw [if_pos h]; congr 1; rw [Bool.eq_iff_iff]; simp; omega
  · rw [if_neg h]; congr 1; rw [Bool.eq_iff_iff]; simp; omega
theorem ldigit_f (r : Nat) : lexis_digit.f r = some (digitP r) := by
  unfold lexis_digit.f digitP
  by_cases h : (r : Int) ≥ 48
  · rw [if_pos h]; congr 1; rw [Bool.eq_iff_iff]; simp; omega
  · rw [if_neg h]; congr 1; rw [Bool.eq_iff_iff]; simp; omega

theorem byte_eq (b : UInt8) (n : Nat) (hn : n < 256) : ((b.toNat : Int) = n) ↔ b = UInt8.ofNat n := by
  refine ⟨fun h => ?_, fun h => ?_⟩
  · apply UInt8.toNat_inj.1
    rw [UInt8.toNat_ofNat']
    have : b.toNat = n := by omega
    omega
  · rw [h, UInt8.toNat_ofNat']
    omega

theorem drop_cons (s : ByteArray) (i : Nat) (h : i < s.size) : s.data.toList.drop i = s.get! i :: s.data.toList.drop (i + 1) := by
  rw [← get_list s i h]
  exact List.drop_eq_getElem_cons (by rw [len_data]; exact h)

/-- The word that begins at i, and what is done with it. -/
theorem fin_ev (s : ByteArray) (hs : s.size ≤ 8192) (xs : List S35) (i : Nat) (hi : i < s.size) (hx : xs.length ≤ i) {R : List S35 × Int}
    (rest : (wordR ((s.data.toList.drop i).takeWhile isLD)).2.2.2 = true → Ev (fun k => lexis_Tokens.l0 k s (xs ++ [wtok ((s.data.toList.drop i).takeWhile isLD) i]) ((i + ((s.data.toList.drop i).takeWhile isLD).length : Nat) : Int)) R) :
    Ev (fun k => if 0 ≤ (i : Int) then (if (i : Int) ≤ ((i + ((s.data.toList.drop i).takeWhile isLD).length : Nat) : Int) then (if ((i + ((s.data.toList.drop i).takeWhile isLD).length : Nat) : Int) ≤ (s.size : Int) then ((lexis_word.f k (s.extract (i : Int).toNat ((i + ((s.data.toList.drop i).takeWhile isLD).length : Nat) : Int).toNat)).bind fun bt131 => (if bt131.2.2.2.2 = true then (if xs.length < 3518437208883 then (lexis_Tokens.l0 k s (xs ++ [(⟨bt131.1, bt131.2.1, (i : Int), bt131.2.2.2.1⟩ : S35)]) ((i + ((s.data.toList.drop i).takeWhile isLD).length : Nat) : Int)) else (none)) else (some (([] : List (S35)), 15)))) else (none)) else (none)) else (none))
      (if (wordR ((s.data.toList.drop i).takeWhile isLD)).2.2.2 then R else ([], 15)) := by
  have hlen := takeWhile_append_dropWhile_len (s.data.toList.drop i) isLD
  rw [List.length_drop, len_data] at hlen
  simp only [if_pos (show (0 : Int) ≤ (i : Int) by omega), if_pos (show (i : Int) ≤ ((i + ((s.data.toList.drop i).takeWhile isLD).length : Nat) : Int) by omega), if_pos (show ((i + ((s.data.toList.drop i).takeWhile isLD).length : Nat) : Int) ≤ (s.size : Int) by omega)]
  have hw : (s.extract (i : Int).toNat ((i + ((s.data.toList.drop i).takeWhile isLD).length : Nat) : Int).toNat).data.toList = (s.data.toList.drop i).takeWhile isLD := by
    rw [Lib.extract_data]
    simp only [Int.toNat_natCast]
    rw [Nat.add_sub_cancel_left]
    exact take_takeWhile_len _ _
  have he := word_ev (s.extract (i : Int).toNat ((i + ((s.data.toList.drop i).takeWhile isLD).length : Nat) : Int).toNat)
  rw [hw] at he
  refine Ev.bind he ?_
  cases hb : (wordR ((s.data.toList.drop i).takeWhile isLD)).2.2.2 with
  | true =>
    simp only [if_true, if_pos (show xs.length < 3518437208883 by omega)]
    exact rest hb
  | false => simp only [Bool.false_eq_true, if_false]; exact Ev.now _

theorem l1_ev (s : ByteArray) (hs : s.size ≤ 8192) (xs : List S35) (i : Nat) (hi : i < s.size) (hx : xs.length ≤ i) {R : List S35 × Int}
    (rest : (wordR ((s.data.toList.drop i).takeWhile isLD)).2.2.2 = true → Ev (fun k => lexis_Tokens.l0 k s (xs ++ [wtok ((s.data.toList.drop i).takeWhile isLD) i]) ((i + ((s.data.toList.drop i).takeWhile isLD).length : Nat) : Int)) R) :
    ∀ (d j : Nat), i ≤ j → j + d = i + ((s.data.toList.drop i).takeWhile isLD).length →
      Ev (fun k => lexis_Tokens.l1 k s xs i j) (if (wordR ((s.data.toList.drop i).takeWhile isLD)).2.2.2 then R else ([], 15)) := by
  have hlen := takeWhile_append_dropWhile_len (s.data.toList.drop i) isLD
  rw [List.length_drop, len_data] at hlen
  intro d
  induction d with
  | zero =>
    intro j hij hj
    rw [Nat.add_zero] at hj
    subst hj
    have hf := fin_ev s hs xs i hi hx rest
    refine Ev.step (f := _) (fun k => by rw [lexis_Tokens.l1]) ?_
    by_cases hlt : ((i + ((s.data.toList.drop i).takeWhile isLD).length : Nat) : Int) < (s.size : Int)
    · have hlt' : i + ((s.data.toList.drop i).takeWhile isLD).length < s.size := by omega
      simp only [if_pos hlt, if_pos (show (0 : Int) ≤ ((i + ((s.data.toList.drop i).takeWhile isLD).length : Nat) : Int) by omega)]
      have hb := bt_get s _ hlt'
      have hnot : isLD (s.get! (i + ((s.data.toList.drop i).takeWhile isLD).length)) = false := by
        have h1 := drop_takeWhile_len (s.data.toList.drop i) isLD
        rw [List.drop_drop, drop_cons s _ hlt'] at h1
        have h2 := List.head?_dropWhile_not isLD (s.data.toList.drop i)
        rw [← h1] at h2
        simpa using h2
      rw [isLD, Bool.or_eq_false_iff] at hnot
      rw [hb, wrap32_byte (by omega) (by have := (s.get! (i + ((s.data.toList.drop i).takeWhile isLD).length)).toNat_lt; omega), lletter_f, ldigit_f]
      rw [show letterP (s.get! (i + ((s.data.toList.drop i).takeWhile isLD).length)).toNat = false from hnot.1, show digitP (s.get! (i + ((s.data.toList.drop i).takeWhile isLD).length)).toNat = false from hnot.2]
      simp only [Option.bind_some, Bool.false_eq_true, if_false]
      exact hf
    · simp only [if_neg hlt]
      exact hf
  | succ d ih =>
    intro j hij hj
    have hlt : j < s.size := by omega
    have hyes : isLD (s.get! j) = true := by
      have h1 : j - i < ((s.data.toList.drop i).takeWhile isLD).length := by omega
      have h2 := List.all_takeWhile (p := isLD) (l := s.data.toList.drop i)
      rw [List.all_eq_true] at h2
      have h3 := h2 _ (List.getElem_mem h1)
      have h4 : ((s.data.toList.drop i).takeWhile isLD)[j - i]? = (s.data.toList.drop i)[j - i]? := by
        rw [← take_takeWhile_len, List.getElem?_take, if_pos h1]
      rw [List.getElem?_eq_getElem h1, List.getElem?_drop, show i + (j - i) = j by omega, toList_at s j hlt] at h4
      rw [Option.some.inj h4] at h3
      exact h3
    have nx := ih (j + 1) (by omega) (by omega)
    refine Ev.step (f := _) (fun k => by rw [lexis_Tokens.l1]) ?_
    have hb := bt_get s j hlt
    simp only [if_pos (show (j : Int) < (s.size : Int) by omega), if_pos (show (0 : Int) ≤ (j : Int) by omega)]
    rw [hb, wrap32_byte (by omega) (by have := (s.get! j).toNat_lt; omega), lletter_f, ldigit_f, wrap_small (x := (j : Int) + 1) (by omega) (by omega)]
    rw [isLD, Bool.or_eq_true] at hyes
    simp only [Option.bind_some]
    cases hL : letterP (s.get! j).toNat with
    | true => simp only [if_true]; exact_mod_cast nx
    | false =>
      have hD : digitP (s.get! j).toNat = true := by
        rcases hyes with h | h
        · rw [isL, hL] at h; cases h
        · exact h
      simp only [Bool.false_eq_true, if_false, hD, if_true]
      exact_mod_cast nx

theorem l0_ev (s : ByteArray) (hs : s.size ≤ 8192) : ∀ (n i : Nat) (xs : List S35), s.size - i ≤ n → i ≤ s.size → xs.length ≤ i →
    Ev (fun k => lexis_Tokens.l0 k s xs i) (outT xs (scanF n (s.data.toList.drop i) i)) := by
  intro n
  induction n with
  | zero =>
    intro i xs h1 h2 hx
    refine Ev.step (f := _) (fun k => by rw [lexis_Tokens.l0]) ?_
    simp only [if_neg (show ¬ (i : Int) < (s.size : Int) by omega)]
    have : outT xs (scanF 0 (s.data.toList.drop i) i) = if (xs.length : Int) > 2048 then ([], 3) else (xs, 0) := by
      simp only [scanF, outT, List.length_nil, Nat.add_zero, List.append_nil]
      by_cases h : xs.length > 2048
      · rw [if_pos h, if_pos (by omega)]
      · rw [if_neg h, if_neg (by omega)]
    rw [this]
    split <;> exact Ev.now _
  | succ n ih =>
    intro i xs h1 h2 hx
    by_cases hlt : i < s.size
    · have hb : bt s i = ((s.get! i).toNat : Int) := bt_get s i hlt
      have e32 := byte_eq (s.get! i) 32 (by omega)
      have e10 := byte_eq (s.get! i) 10 (by omega)
      have e40 := byte_eq (s.get! i) 40 (by omega)
      have e41 := byte_eq (s.get! i) 41 (by omega)
      rw [drop_cons s i hlt]
      have step : ∀ {R : List S35 × Int}, ∀ (b : Bool), Ev (fun k => if b = true then lexis_Tokens.l0 k s xs (wrap64 ((i : Int) + 1)) else (if bt s i = 40 then (if xs.length < 3518437208883 then (lexis_Tokens.l0 k s (xs ++ [(⟨1, 0, (i : Int), (⟨#[]⟩ : ByteArray)⟩ : S35)]) (wrap64 ((i : Int) + 1))) else (none)) else (if bt s i = 41 then (if xs.length < 3518437208883 then (lexis_Tokens.l0 k s (xs ++ [(⟨2, 0, (i : Int), (⟨#[]⟩ : ByteArray)⟩ : S35)]) (wrap64 ((i : Int) + 1))) else (none)) else (lexis_Tokens.l1 k s xs i i)))) R → Ev (fun k => lexis_Tokens.j1 k s xs i (bt s i) b) R := by
        intro R b h
        exact Ev.step (fun k => by rw [lexis_Tokens.j1]) h
      have top : ∀ {R : List S35 × Int}, Ev (fun k => lexis_Tokens.j1 k s xs i (bt s i) (decide (s.get! i = 32 ∨ s.get! i = 10))) R → Ev (fun k => lexis_Tokens.l0 k s xs i) R := by
        intro R h
        refine Ev.step (f := _) (fun k => by rw [lexis_Tokens.l0]) ?_
        simp only [if_pos (show (i : Int) < (s.size : Int) by omega), if_pos (show (0 : Int) ≤ (i : Int) by omega)]
        by_cases h32 : s.get! i = 32
        · refine Ev_pos (by rw [hb]; exact e32.2 h32) ?_
          simpa [h32] using h
        · refine Ev_neg (by rw [hb]; exact fun h => h32 (e32.1 h)) ?_
          have : (bt s i == 10) = decide (s.get! i = 32 ∨ s.get! i = 10) := by
            rw [Bool.eq_iff_iff, beq_iff_eq, decide_eq_true_iff, hb]
            exact ⟨fun h => .inr (e10.1 h), fun h => h.elim (fun h => absurd h h32) e10.2⟩
          rw [this]; exact h
      refine top (step _ ?_)
      rw [wrap_small (x := (i : Int) + 1) (by omega) (by omega)]
      simp only [scanF]
      by_cases hsp : s.get! i = 32 ∨ s.get! i = 10
      · rw [if_pos hsp]
        refine Ev_pos (by simpa using hsp) ?_
        exact_mod_cast ih (i + 1) xs (by omega) (by omega) (by omega)
      · rw [if_neg hsp]
        refine Ev_neg (by simpa using hsp) ?_
        by_cases h40 : s.get! i = 40
        · rw [if_pos h40, outT_cons]
          refine Ev_pos (by rw [hb]; exact e40.2 h40) (Ev_pos (by omega) ?_)
          exact_mod_cast ih (i + 1) _ (by omega) (by omega) (by rw [List.length_append]; simp; omega)
        · rw [if_neg h40]
          refine Ev_neg (by rw [hb]; exact fun h => h40 (e40.1 h)) ?_
          by_cases h41 : s.get! i = 41
          · rw [if_pos h41, outT_cons]
            refine Ev_pos (by rw [hb]; exact e41.2 h41) (Ev_pos (by omega) ?_)
            exact_mod_cast ih (i + 1) _ (by omega) (by omega) (by rw [List.length_append]; simp; omega)
          · rw [if_neg h41, ← drop_cons s i hlt]
            refine Ev_neg (by rw [hb]; exact fun h => h41 (e41.1 h)) ?_
            have hlen := takeWhile_append_dropWhile_len (s.data.toList.drop i) isLD
            rw [List.length_drop, len_data] at hlen
            cases hw : (wordR ((s.data.toList.drop i).takeWhile isLD)).2.2.2 with
            | true =>
              have hpos : 0 < ((s.data.toList.drop i).takeWhile isLD).length := by
                rcases Nat.eq_zero_or_pos ((s.data.toList.drop i).takeWhile isLD).length with h | h
                · rw [List.eq_nil_of_length_eq_zero h] at hw; simp [wordR_nil] at hw
                · exact h
              have rest := ih (i + ((s.data.toList.drop i).takeWhile isLD).length) (xs ++ [wtok ((s.data.toList.drop i).takeWhile isLD) i]) (by omega) (by omega) (by rw [List.length_append]; simp; omega)
              have := l1_ev s hs xs i hlt hx (fun _ => rest) _ i (Nat.le_refl _) rfl
              rw [hw, if_pos rfl] at this
              rw [if_pos rfl, outT_cons, ← drop_takeWhile_len, List.drop_drop]
              exact_mod_cast this
            | false =>
              have := l1_ev s hs xs i hlt hx (R := ([], 15)) (fun h => by rw [hw] at h; cases h) _ i (Nat.le_refl _) rfl
              rw [hw, if_neg (by simp)] at this
              simpa [outT] using this
    · refine Ev.step (f := _) (fun k => by rw [lexis_Tokens.l0]) ?_
      simp only [if_neg (show ¬ (i : Int) < (s.size : Int) by omega)]
      have hd : s.data.toList.drop i = [] := List.drop_eq_nil_of_le (by rw [len_data]; omega)
      have : outT xs (scanF (n + 1) (s.data.toList.drop i) i) = if (xs.length : Int) > 2048 then ([], 3) else (xs, 0) := by
        rw [hd]
        simp only [scanF, outT, List.length_nil, Nat.add_zero, List.append_nil]
        by_cases h : xs.length > 2048
        · rw [if_pos h, if_pos (by omega)]
        · rw [if_neg h, if_neg (by omega)]
      rw [this]
      split <;> exact Ev.now _

def scan (l : List UInt8) : Option (List S35) := scanF l.length l 0
def tokR (l : List UInt8) : List S35 × Int := if l.length > 8192 then ([], 3) else outT [] (scan l)
theorem Tokens_ev (s : ByteArray) : Ev (fun k => lexis_Tokens.f k s) (tokR s.data.toList) := by
  unfold lexis_Tokens.f tokR
  rw [len_data]
  by_cases h : s.size > 8192
  · simp only [if_pos (show (s.size : Int) > 8192 by omega), if_pos h]; exact Ev.now _
  · simp only [if_neg (show ¬ (s.size : Int) > 8192 by omega), if_neg h]
    have := l0_ev s (by omega) s.size 0 [] (by omega) (by omega) (by simp)
    rw [List.drop_zero] at this
    unfold scan
    rw [len_data]
    exact_mod_cast this
end Go.Proofs.YthcllibbaindbaaDoor.Px
namespace Go.Proofs.YthcllibbaindbaaDoor.Px
open Go.RowKit Go.Lib Go.Proofs.YthcllibbaindbaaDoorW.PrintWords Go.Proofs.YthcllibbaindbaaDoorW.PrintLast Go.Proofs.YthcllibbaindbaaDoorW.PrintMore

theorem sane_tok : tokR [40, 115, 117, 99, 99, 32, 120, 48, 41] = ([⟨1, 0, 0, ⟨#[]⟩⟩, ⟨3, 0, 1, ⟨#[115, 117, 99, 99]⟩⟩, ⟨5, 0, 6, ⟨#[]⟩⟩, ⟨2, 0, 8, ⟨#[]⟩⟩], 0) := by rfl

theorem sane_ev : Ev (fun k => proofprogramslaw14_sane.f k) true := by
  unfold proofprogramslaw14_sane.f
  have h := Tokens_ev (⟨#[40, 115, 117, 99, 99, 32, 120, 48, 41]⟩ : ByteArray)
  rw [show (⟨#[40, 115, 117, 99, 99, 32, 120, 48, 41]⟩ : ByteArray).data.toList = [40, 115, 117, 99, 99, 32, 120, 48, 41] from rfl, sane_tok] at h
  refine Ev.bind h ?_
  have e : ((⟨#[115, 117, 99, 99]⟩ : ByteArray)).toList = [115, 117, 99, 99] := by rw [Lib.toList_data]
  simp [rd_T35, e]
  exact Ev.now _

theorem Mod_f (a n : Int) (h1 : 1 ≤ n) (h2 : n ≤ 1000000000) : ∃ v, proofprogramsmake_Mod.f a n = some v ∧ 0 ≤ v ∧ v < n := by
  unfold proofprogramsmake_Mod.f
  rw [if_neg (by omega)]
  have ha := Int.tmod_lt_of_pos a (show 0 < n by omega)
  have hb : -n < Int.tmod a n := by
    have := Int.tmod_lt_of_pos (-a) (show 0 < n by omega)
    rw [Int.neg_tmod] at this; omega
  rw [wrap_small (by omega) (by omega)]
  exact ⟨_, rfl, Int.tmod_nonneg n (by omega), Int.tmod_lt_of_pos _ (by omega)⟩

theorem Next_f (l : List Int) (pos n : Int) (h1 : 1 ≤ n) (h2 : n ≤ 1000000000) (hp : 0 ≤ pos ∧ pos ≤ l.length) (hl : l.length ≤ 1000) :
    ∃ v pos', proofprogramsmake_Deck_Next.f l pos n = some (v, pos') ∧ 0 ≤ v ∧ v < n ∧ 0 ≤ pos' ∧ pos' ≤ l.length := by
  unfold proofprogramsmake_Deck_Next.f
  rw [if_neg (by omega)]
  by_cases h : pos ≥ (l.length : Int)
  · rw [if_pos h]; exact ⟨0, pos, rfl, by omega, by omega, hp⟩
  · rw [if_neg h, if_pos hp.1, if_pos (by omega)]
    obtain ⟨v, hv, h3, h4⟩ := Mod_f (rd l pos) n h1 h2
    rw [hv]
    exact ⟨v, _, rfl, h3, h4, by rw [wrap_small (by omega) (by omega)]; omega, by rw [wrap_small (by omega) (by omega)]; omega⟩

theorem takeWhile_all {l : List UInt8} {p : UInt8 → Bool} (h : l.all p = true) : l.takeWhile p = l ∧ l.dropWhile p = [] := by
  induction l with
  | nil => exact ⟨rfl, rfl⟩
  | cons a t ih =>
    rw [List.all_cons, Bool.and_eq_true] at h
    obtain ⟨h1, h2⟩ := ih h.2
    simp [h.1, h1, h2]

theorem isL_range {b : UInt8} (h : isL b = true) : 97 ≤ b.toNat ∧ b.toNat ≤ 122 := by simpa [isL, letterP] using h
theorem isD_range {b : UInt8} (h : isD b = true) : 48 ≤ b.toNat ∧ b.toNat ≤ 57 := by simpa [isD, digitP] using h

/-- Behind letters or digits nothing else matters. -/
theorem scanF_word (n : Nat) (c : UInt8) (r : List UInt8) (pos : Int) (h : isLD c = true) : scanF (n + 1) (c :: r) pos =
    if (wordR ((c :: r).takeWhile isLD)).2.2.2 then (scanF n ((c :: r).dropWhile isLD) (pos + ((c :: r).takeWhile isLD).length)).map (wtok ((c :: r).takeWhile isLD) pos :: ·) else none := by
  have hr : 48 ≤ c.toNat := by
    rw [isLD, Bool.or_eq_true] at h
    rcases h with h | h
    · have := isL_range h; omega
    · have := isD_range h; omega
  have ne : ∀ k : Nat, k < 48 → c ≠ UInt8.ofNat k := by
    intro k hk e
    rw [e, UInt8.toNat_ofNat'] at hr
    omega
  rw [scanF, if_neg (by rintro (e | e); exact ne 32 (by omega) e; exact ne 10 (by omega) e), if_neg (show ¬ c = 40 from ne 40 (by omega)), if_neg (show ¬ c = 41 from ne 41 (by omega))]

theorem scanF_nil (n : Nat) (pos : Int) : scanF n [] pos = some [] := by cases n <;> rfl

theorem tokR_name {l : List UInt8} (h : nameOk l = true) : tokR l = ([⟨3, 0, 0, ⟨l.toArray⟩⟩], 0) := by
  have h' := h
  rw [nameOk, Bool.and_eq_true, Bool.and_eq_true, decide_eq_true_iff, decide_eq_true_iff] at h'
  obtain ⟨⟨h1, h2⟩, h3⟩ := h'
  have hld : l.all isLD = true := by
    rw [List.all_eq_true] at h3 ⊢
    intro x hx; rw [isLD, h3 x hx]; rfl
  obtain ⟨t1, t2⟩ := takeWhile_all hld
  have hw : wordR l = (3, 0, l, true) := by unfold wordR; rw [if_pos h]
  unfold tokR
  rw [if_neg (by omega)]
  unfold scan
  cases l with
  | nil => simp at h1
  | cons c r =>
    rw [List.length_cons, scanF_word _ _ _ _ (by rw [List.all_cons, Bool.and_eq_true] at hld; exact hld.1), t1, t2, hw, if_pos rfl, scanF_nil]
    simp [outT, wtok, hw]

theorem scanF_names : ∀ (n : Nat) (l : List UInt8) (pos : Int) (ts : List S35), scanF n l pos = some ts → ∀ t ∈ ts, t.f0 = 3 → nameOk t.f3.data.toList = true
  | 0, l, pos, ts, h, t, ht, _ => by simp [scanF] at h; subst h; cases ht
  | n + 1, [], pos, ts, h, t, ht, _ => by simp [scanF] at h; subst h; cases ht
  | n + 1, c :: r, pos, ts, h, t, ht, h3 => by
    have cons : ∀ {a : S35} {o : Option (List S35)}, o.map (a :: ·) = some ts → (t = a ∨ ∃ ts', o = some ts' ∧ t ∈ ts') := by
      intro a o ho
      cases o with
      | none => cases ho
      | some l' =>
        have : a :: l' = ts := Option.some.inj ho
        subst this
        rcases List.mem_cons.1 ht with e | e
        · exact .inl e
        · exact .inr ⟨l', rfl, e⟩
    simp only [scanF] at h
    split at h
    · exact scanF_names n r _ ts h t ht h3
    · split at h
      · rcases cons h with e | ⟨ts', e1, e2⟩
        · subst e; simp at h3
        · exact scanF_names n r _ ts' e1 t e2 h3
      · split at h
        · rcases cons h with e | ⟨ts', e1, e2⟩
          · subst e; simp at h3
          · exact scanF_names n r _ ts' e1 t e2 h3
        · split at h
          · rcases cons h with e | ⟨ts', e1, e2⟩
            · subst e
              simp only [wtok] at h3 ⊢
              revert h3
              unfold wordR
              split
              · rename_i hn
                intro _; exact hn
              · split
                · intro h3; simp at h3
                · split
                  · intro h3; simp at h3
                  · split
                    · intro h3; simp at h3
                    · intro h3; simp at h3
            · exact scanF_names n _ _ ts' e1 t e2 h3
          · cases h

/-- A text is one token, a name with this text, exactly if it is a name. -/
theorem one_name (l : List UInt8) (h0 : (tokR l).2 = 0) (h1 : (tokR l).1.length = 1) (h2 : (rd_T35 (tokR l).1 0).f0 = 3) (h3 : (rd_T35 (tokR l).1 0).f3.toList = l) : nameOk l = true := by
  revert h0 h1 h2 h3
  unfold tokR
  split
  · intro h0; simp at h0
  · cases hs : scan l with
    | none => intro h0; simp [outT] at h0
    | some ts =>
      unfold outT
      simp only [List.length_nil, Nat.zero_add, List.nil_append]
      split
      · intro h0; simp at h0
      · intro _ h1 h2 h3
        obtain ⟨t, rfl⟩ := List.length_eq_one_iff.1 h1
        simp only [rd_T35, Int.toNat_zero, List.getD_cons_zero] at h2 h3
        have := scanF_names _ _ _ _ hs t (by simp) h2
        rwa [← Lib.toList_data, h3] at this

end Go.Proofs.YthcllibbaindbaaDoor.Px
namespace Go.Proofs.YthcllibbaindbaaDoor.Px
open Go.RowKit Go.Lib Go.Proofs.YthcllibbaindbaaDoorW.PrintWords Go.Proofs.YthcllibbaindbaaDoorW.PrintLast Go.Proofs.YthcllibbaindbaaDoorW.PrintMore

/-- One text of the list. -/
theorem names_round (own : ByteArray) (ys : List ByteArray) (i : Nat) (hi : i < ys.length) (hb : ys.length ≤ 100) {R : Bool}
    (next : Ev (fun k => proofprogramslaw14_LexisNames.l1 k own ys (ys.length : Int) ((i + 1 : Nat) : Int)) R) :
    Ev (fun k => proofprogramslaw14_LexisNames.l1 k own ys (ys.length : Int) (i : Int)) R := by
  refine Ev.step (f := _) (fun k => by rw [proofprogramslaw14_LexisNames.l1]) ?_
  refine Ev_pos (by omega) (Ev_pos (by omega) (Ev_pos (by omega) ?_))
  generalize rdOf ByteArray.empty ys (i : Int) = x
  have hw : wrap64 ((i : Int) + 1) = ((i + 1 : Nat) : Int) := by rw [wrap_small (by omega) (by omega)]; omega
  rw [hw]
  refine Ev.bind (Tokens_ev x) ?_
  have key : nameOk x.data.toList = true ∨ (nameOk x.data.toList = false) := by cases nameOk x.data.toList <;> simp
  rcases key with h | h
  · rw [tokR_name h]
    refine Ev_pos rfl (Ev_pos rfl (Ev_pos (show (0 : Int) < 1 by omega) (Ev_pos rfl ?_)))
    refine Ev.bind (Name_ev' x) ?_
    rw [h]
    refine Ev_neg ?_ next
    have e : (rd_T35 [(⟨3, 0, 0, ⟨x.data.toList.toArray⟩⟩ : S35)] 0).f3 = x := mk_data x
    rw [e]; simp
  · have miss : ∀ b : Bool, (b = true → (tokR x.data.toList).2 = 0 ∧ (tokR x.data.toList).1.length = 1 ∧ (rd_T35 (tokR x.data.toList).1 0).f0 = 3 ∧ (rd_T35 (tokR x.data.toList).1 0).f3.toList = x.toList) → b = false := by
      intro b hb
      cases b with
      | false => rfl
      | true =>
        obtain ⟨a1, a2, a3, a4⟩ := hb rfl
        rw [one_name _ a1 a2 a3 (by rw [a4, Lib.toList_data])] at h
        cases h
    by_cases c1 : (tokR x.data.toList).2 = 0
    · refine Ev_pos c1 ?_
      by_cases c2 : (tokR x.data.toList).1.length = 1
      · refine Ev_pos (by omega) (Ev_pos (by omega) ?_)
        by_cases c3 : (rd_T35 (tokR x.data.toList).1 0).f0 = 3
        · refine Ev_pos c3 (Ev.bind (Name_ev' x) ?_)
          rw [h, miss ((rd_T35 (tokR x.data.toList).1 0).f3.toList == x.toList) (fun e => ⟨c1, c2, c3, by simpa using e⟩)]
          exact Ev_neg (by simp) next
        · refine Ev_neg c3 (Ev.bind (Name_ev' x) ?_)
          rw [h]
          exact Ev_neg (by simp) next
      · refine Ev_neg (by omega) (Ev.bind (Name_ev' x) ?_)
        rw [h]
        exact Ev_neg (by simp) next
    · refine Ev_neg c1 (Ev.bind (Name_ev' x) ?_)
      rw [h]
      exact Ev_neg (by simp) next

theorem names_all (own : ByteArray) (hown : own.data.toList.all isL = true) (ys : List ByteArray) (hb : ys.length ≤ 100) : ∀ (d i : Nat), i + d = ys.length →
    Ev (fun k => proofprogramslaw14_LexisNames.l1 k own ys (ys.length : Int) (i : Int)) true
  | 0, i, h => by
    refine Ev.step (f := _) (fun k => by rw [proofprogramslaw14_LexisNames.l1]) ?_
    refine Ev_neg (by omega) (Ev.bind (Name_ev' own) ?_)
    have hl := len_data own
    have hn : nameOk own.data.toList = (decide (1 ≤ own.size) && decide (own.size ≤ 16)) := by rw [nameOk, hown, hl, Bool.and_true]
    rw [hn]
    by_cases h1 : 1 ≤ own.size
    · refine Ev_pos (by omega) ?_
      have : ((decide (1 ≤ own.size) && decide (own.size ≤ 16)) == decide ((own.size : Int) ≤ 16)) = true := by
        rw [decide_eq_true h1, Bool.true_and, beq_iff_eq, Bool.eq_iff_iff]; simp; omega
      rw [this]; exact Ev.now _
    · refine Ev_neg (by omega) ?_
      rw [decide_eq_false h1, Bool.false_and]; exact Ev.now _
  | d + 1, i, h => names_round own ys i (by omega) hb (names_all own hown ys hb d (i + 1) (by omega))

theorem letter_byte (v : Int) (h0 : 0 ≤ v) (h1 : v < 26) : (strOfNums [(wrap64 (97 + v)) % 256]).data.toList.all isL = true ∧ (strOfNums [(wrap64 (97 + v)) % 256]).size = 1 := by
  rw [wrap_small (by omega) (by omega)]
  refine ⟨?_, by rw [strOfNums_size]; rfl⟩
  rw [strOfNums_data]
  simp only [List.map_cons, List.map_nil, List.all_cons, List.all_nil, Bool.and_true]
  have : (UInt8.ofNat ((97 + v) % 256).toNat).toNat = (97 + v).toNat := by rw [UInt8.toNat_ofNat']; omega
  simp only [isL, letterP, this, Bool.and_eq_true, decide_eq_true_iff]
  omega

theorem names_own (a0 : ByteArray) (ha : a0.size ≤ 140737488351232) (l : List Int) (hl : l.length ≤ 1000) : ∀ (n : Nat) (own : ByteArray) (pos : Int), own.data.toList.all isL = true → own.size + n ≤ 30 → 0 ≤ pos ∧ pos ≤ l.length →
    Ev (fun k => proofprogramslaw14_LexisNames.l0 k a0 own (n : Int) l pos) true
  | 0, own, pos, hown, hs, hp => by
    refine Ev.step (f := _) (fun k => by rw [proofprogramslaw14_LexisNames.l0]) ?_
    refine Ev_neg (by omega) (Ev_pos (by omega) (Ev_pos (by omega) ?_))
    simp only [Option.bind_some]
    exact_mod_cast names_all own hown _ (by simp) _ 0 (by simp only [Nat.zero_add]; rfl)
  | n + 1, own, pos, hown, hs, hp => by
    refine Ev.step (f := _) (fun k => by rw [proofprogramslaw14_LexisNames.l0]) ?_
    refine Ev_pos (by omega) ?_
    obtain ⟨v, pos', hv, h0, h1, h2⟩ := Next_f l pos 26 (by omega) (by omega) hp hl
    rw [hv]
    simp only [Option.bind_some]
    obtain ⟨b1, b2⟩ := letter_byte v h0 h1
    refine Ev_pos (by omega) ?_
    have hw : wrap64 (((n + 1 : Nat) : Int) - 1) = (n : Int) := by rw [wrap_small (by omega) (by omega)]; omega
    rw [hw]
    refine names_own a0 ha l hl n _ pos' ?_ ?_ h2
    · rw [Go.Joins.data_append, List.all_append, hown, b1]; rfl
    · rw [ByteArray.size_append, b2]; omega

theorem PureLexisNames : proofprogramslaw14_LexisNames.Pure := by
  intro a0 l1 ha hm h8 hw
  refine Ev.rounds (g := fun k => proofprogramslaw14_LexisNames.f k a0 l1) (r := true) ?_
  unfold proofprogramslaw14_LexisNames.f
  refine Ev.bind sane_ev (Ev_pos rfl ?_)
  simp only [proofprogramsmake_Few.f, Option.bind_some]
  have j : ∀ b : Bool, (b = false → l1.length ≤ 500) → Ev (fun k => proofprogramslaw14_LexisNames.j0 k a0 l1 b) true := by
    intro b hb
    refine Ev.step (f := _) (fun k => by rw [proofprogramslaw14_LexisNames.j0]) ?_
    cases b with
    | true => exact Ev_pos rfl (Ev.now _)
    | false =>
      refine Ev_neg (by simp) ?_
      simp only [proofprogramsmake_New.f, Option.bind_some]
      obtain ⟨v, pos', hv, h0, h1, h2⟩ := Next_f l1 0 20 (by omega) (by omega) (by omega) (by have := hb rfl; omega)
      rw [hv]
      simp only [Option.bind_some]
      obtain ⟨n, rfl⟩ := Int.eq_ofNat_of_zero_le h0
      exact names_own a0 ha l1 (by have := hb rfl; omega) n _ pos' rfl (by have : (⟨#[]⟩ : ByteArray).size = 0 := rfl; omega) h2
  by_cases hf : (l1.length : Int) ≤ 500
  · exact Ev_pos (by simpa using hf) (j _ (fun _ => by omega))
  · exact Ev_neg (by simpa using hf) (j true (fun h => by cases h))

end Go.Proofs.YthcllibbaindbaaDoor.Px
namespace Go.Proofs.YthcllibbaindbaaDoor.lexisNames
open Go.ChangeShapes Go.WideShapes Go.ChangeAt Go.RowKit
open Go.ChangeMaps (open_string shut_string)
set_option linter.unusedVariables false
theorem own : ownKnob Tryd.prog.godebug = none := by kernel_rfl
theorem laidOut : laidOutB Tryd.prog = true := by kernel_rfl
def IsRow (k : IntKind) (w : World) (a : Option Addr) (len cap : Nat) (zs : List Int) : Prop :=
  (a = none ∧ len = 0 ∧ cap = 0 ∧ zs = []) ∨
  ∃ x, a = some x ∧ len ≤ cap ∧ cap ≤ maxLen ∧ zs.length = cap ∧ (∀ i, i < zs.length → w.cell? (x.add i) = some (.int k (zs.getD i 0))) ∧ ∀ n ∈ zs, (Lit.int k n).wf = true
theorem reads (os : Os) {H : Type} (enc : TypeId × Value → H) : ∃ places, DataW.whole enc Tryd.prog ((laidWorld os).forCall (fun _ _ => 0) ⟨#[], #[.string ByteArray.empty, .slice none 0 0], []⟩).memory Tryd.f3.params.toList Rows.lexisNamesSpec.vars false (#[.string ByteArray.empty, .slice none 0 0] : Array Value).toList 8 = some ([.lit (.string []), .nil], [], places) :=
  ⟨[], by kernel_rfl⟩
set_option maxRecDepth 100000 in
theorem lifted (os : Os) (started : os.Started) (H : Type) (enc : TypeId × Value → H) (F : Stop.Interp) :
    ReturnsInHanded {} Tryd.checked os 3 .any ((OpenSpec.ofChange Rows.lexisNamesSpec).preRow enc Tryd.prog Tryd.f3 Rows.lexisNamesRow.domain false Rows.lexisNamesRow.laid) (((OpenSpec.ofChange Rows.lexisNamesSpec).at F).post enc Tryd.prog Tryd.f3 false true false false) := by
  obtain ⟨places, hx⟩ := reads os enc
  refine returnsInHanded_of_row (C := Tryd.checked) (s := OpenSpec.ofChange Rows.lexisNamesSpec) own started (by kernel_rfl) Tryd.func3
    (witness_row_at (enc := enc) (C := Tryd.checked) false (laidWorld os) #[.string ByteArray.empty, .slice none 0 0] rfl (by kernel_rfl) (by kernel_rfl) (by kernel_rfl)
      (OpenSpec.preRow_of_cond 8 hx (by kernel_rfl) (fun k hk => by cases hk) (by kernel_rfl) (laid_met os _))) ?_
  intro W base args ds gs before hval0 hW hcnd _ hsz0 hL _ _
  have hlaid : Laid W := laid_of hL
  clear hL
  have hsz : (DataW.weightsEach Tryd.prog (Tryd.f3.params.toList ++ Rows.lexisNamesSpec.plain.varTypes Tryd.prog) (ds ++ gs)).all (· ≤ reachBytes) = true := hsz0
  have hval : ∀ (j : Nat) t v, Tryd.f3.params[j]? = some t → args[j]? = some v → Value.okWide Tryd.prog W .any base t v := hval0
  have hW' := hW
  obtain ⟨p, q, hA0, hV, rfl, hfz, hnd⟩ := hW
  have hA : DataW.TrodAll enc Tryd.prog W 0 (fun _ => true) true Tryd.f3.params.toList args.toList ds p := hA0
  rw [Tryd.params3] at hA hval hsz
  obtain ⟨v0, vs0, d0, ds0, p0, q0, hargs, rfl, rfl, h0, r0⟩ := trodAll_cons hA
  obtain ⟨v1, vs1, d1, ds1, p1, q1, rfl, rfl, rfl, h1, r1⟩ := trodAll_cons r0
  obtain ⟨rfl, rfl, rfl⟩ := trodAll_nil r1
  obtain rfl : args = #[v0, v1] := by cases args; simp_all
  obtain ⟨rfl, rfl⟩ := trodVars_none hV
  obtain ⟨a0, rfl, rfl, rfl, y0⟩ := open_string Tryd.underlying9 (hval 0 9 v0 rfl rfl) h0
  have w0 : a0.size ≤ 140737488351232 := by
    have z := sized_string hsz (j := 0) (t := 9) rfl rfl
    rw [Array.length_toList] at z
    exact z
  obtain ⟨a1, len1, cap1, rfl⟩ := okWide_slice Tryd.underlying22 (hval 1 22 v1 rfl rfl)
  have k1 := h1
  have lt1 : ∀ x ∈ p1, x.block < W.heap.size := by obtain ⟨m, hm⟩ := k1; exact DataW.trod_lt m _ _ _ hm
  obtain ⟨z1, w1⟩ : ∃ zs, IsRow .i64 W a1 len1 cap1 zs := by
    obtain ⟨fuel, hf⟩ := h1
    rcases open_ints Tryd.underlying22 Tryd.underlying3 (by kernel_rfl) hf with ⟨hcs, _⟩ | ⟨x, l, c, zs, hcs, _, hl, hm, hz, _, hcell, hwz⟩
    · simp [Value.cells] at hcs
      obtain ⟨rfl, rfl, rfl⟩ := hcs
      exact ⟨[], .inl ⟨rfl, rfl, rfl, rfl⟩⟩
    · simp [Value.cells] at hcs
      obtain ⟨rfl, rfl, rfl⟩ := hcs
      exact ⟨zs, .inr ⟨_, rfl, hl, hm, by simpa using hz, hcell, hwz⟩⟩
  have y1 : len1 * 8 ≤ 140737488351232 := YthcllibbaindbaaDoorW.PrintWords.sized_ints hsz (j := 1) (t := 22) rfl rfl Tryd.underlying22 Tryd.underlying3 (by kernel_rfl) (by kernel_rfl) h1
  clear hA0 hval0 hsz0 hsz
  refine (Px.proofprogramslaw14_LexisNames.walk Px.PureLexisNames a0 a1 len1 cap1 z1 W w0 w1 y1 hlaid).mono fun e W' ⟨he, bel⟩ => ?_
  subst he
  exact ⟨_, rfl, _, _, _, [], _, [], hW', trodAll_mk1 (shut_bool Tryd.underlying4 _), (trodAll_cons_mk (shut_string Tryd.underlying9 y0) (trodAll_cons_mk (Below.trod laidOut (by kernel_rfl) (of_decide_eq_true (by kernel_rfl)) k1 bel lt1) trodAll_mk0)), rfl, bel.frame _, fun h => by cases h⟩
theorem said : Rows.LexisNamesSaid :=
  OpenClaim.holds_of_cond 3 Tryd.f3 rfl rfl rfl rfl rfl rfl rfl ⟨rfl, rfl, rfl, rfl, rfl⟩ rfl rfl rfl rfl rfl (by kernel_rfl) Tryd.func3 (by kernel_rfl)
    (of_decide_eq_true (by kernel_rfl)) (by unfold Func.isWrapper; first | (rw [if_pos (by decide +kernel)]; kernel_rfl) | (rw [if_neg (by decide +kernel)]; exact ⟨rfl, rfl⟩))
    (fun os started H enc _ F => by rw [OpenClaim.pre_eq_preRow]; exact lifted os started H enc F)
theorem plain (f : FuncId) (fn : Func) (hf : Tryd.pinned.checked.prog.funcNamed "proofprograms/proofprogramslaw14.LexisNames" = some f) (hfn : Tryd.pinned.checked.prog.funcs[f]? = some fn) :
    true = Tryd.pinned.checked.prog.looks [] ∧ ∀ (j : Nat) t, fn.params[j]? = some t → Tryd.pinned.checked.prog.wantsStandIn t = false := by
  obtain rfl : f = 3 := Option.some.inj ((show Tryd.prog.funcNamed "proofprograms/proofprogramslaw14.LexisNames" = some 3 by kernel_rfl).symm.trans hf) |>.symm
  obtain rfl : fn = Tryd.f3 := (Option.some.inj (Tryd.func3.symm.trans hfn)).symm
  refine ⟨by kernel_rfl, fun j t ht => ?_⟩
  rw [Tryd.params3] at ht
  obtain rfl | rfl : t = 9 ∨ t = 22 := by simpa using Array.mem_of_getElem? ht
  · exact (show Tryd.prog.wantsStandIn 9 = false by kernel_rfl)
  · exact (show Tryd.prog.wantsStandIn 22 = false by kernel_rfl)
theorem card : Rows.LexisNamesCardSaid :=
  Claim7.holds_tied_plain_at .later [] _ _ _ _ said (fun _ h => by cases h) (by kernel_rfl) (fun _ h => by cases h) lexisNames_row_tie rfl ⟨rfl, rfl⟩ (by kernel_rfl) rfl plain (by kernel_rfl)
#print axioms card
end Go.Proofs.YthcllibbaindbaaDoor.lexisNames
namespace Go.Proofs.YthcllibbaindbaaDoor
/-- The card, under a short name, for the claim. -/
theorem lexisNames_holds : Rows.LexisNamesCardSaid := lexisNames.card
end Go.Proofs.YthcllibbaindbaaDoor
