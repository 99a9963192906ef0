/- LexisPlaces' plain statement: each token stands where it says, and the text there begins with it. LexisPlaces returns true for every list of numbers and leaves it as it was; under the row's own listed variables, tied to the program's text. -/
import Derived.Test.YthcllibbaindbaaDoorMPlaces5
import Derived.Test.YthcllibbaindbaaDoorMPlaces6
import Derived.Test.YthcllibbaindbaaDoorRows
import Derived.Test.YthcllibbaindbaaDoorCards
import Derived.Test.YthcllibbaindbaaDoorTie
import Derived.WalkKit
import Derived.ProofKit
import Derived.OpenShut
import Derived.ShutString
import Derived.ChangeOld
import Derived.Below
import Derived.SizedLaws
import Derived.Deep.DeepHandedRow
import Derived.Test.YthcllibbaindbaaDoorWSized
import Derived.Test.YthcllibbaindbaaDoorMPlaces0
namespace Go.Proofs.YthcllibbaindbaaDoor.Px
open Go.RowKit Go.Proofs.YthcllibbaindbaaDoorW.PrintWords Go.Proofs.YthcllibbaindbaaDoorW.PrintLast Go.Proofs.YthcllibbaindbaaDoorW.PrintMore

/-- Tokens that have a text each. -/
def Valid (l : List S35) : Prop := ∀ t ∈ l, ∃ s, txtO t = some s
theorem join_valid : ∀ (l : List S35) (prev : Option Int), Valid l → ∃ bs, joinF prev l = some bs ∧ bs.length ≤ 18 * l.length
  | [], _, _ => ⟨[], rfl, by simp⟩
  | t :: r, prev, h => by
    obtain ⟨s, hs⟩ := h t (by simp)
    obtain ⟨rest, hr, hl⟩ := join_valid r (some t.f0) (fun x hx => h x (by simp [hx]))
    have := txtO_len _ _ hs
    refine ⟨(if sepB prev t.f0 then [32] else []) ++ s ++ rest, ?_, ?_⟩
    · rw [joinF, hs]; show (joinF (some t.f0) r).map _ = _; rw [hr]; rfl
    · rw [List.length_append, List.length_append, List.length_cons]
      split <;> simp <;> omega

theorem rdOf_mem {α : Type} (z : α) (l : List α) (i : Int) (h0 : 0 ≤ i) (h1 : i < l.length) : rdOf z l i ∈ l := by
  rw [rdOf, List.getD_eq_getElem?_getD, List.getElem?_eq_getElem (by omega)]
  exact List.getElem_mem _

theorem valid_app {l : List S35} {t : S35} {s : List UInt8} (h : Valid l) (ht : txtO t = some s) : Valid (l ++ [t]) := by
  intro x hx
  rcases List.mem_append.1 hx with h' | h'
  · exact h x h'
  · rw [List.mem_singleton] at h'; subst h'; exact ⟨s, ht⟩

theorem txt1 {a : Int} (h : a = 1) : txtO ⟨a, 0, 0, ⟨#[]⟩⟩ = some [40] := by subst h; rfl
theorem txt2 {a : Int} (h : a = 2) : txtO ⟨a, 0, 0, ⟨#[]⟩⟩ = some [41] := by subst h; rfl
theorem txt3 {a : Int} {s : ByteArray} (h : a = 3) (hs : nameOk s.data.toList = true) : txtO ⟨a, 0, 0, s⟩ = some s.data.toList := by
  subst h; unfold txtO; rw [if_neg (show ¬ (3 : Int) = 1 by decide), if_neg (show ¬ (3 : Int) = 2 by decide), if_pos rfl, if_pos ⟨rfl, hs⟩]
theorem txt4 {a n : Int} (h : a = 4) (h0 : 0 ≤ n) (h1 : n ≤ 999999) : txtO ⟨a, n, 0, ⟨#[]⟩⟩ = some (Lib.decDigits n.toNat) := by
  subst h; unfold txtO; rw [if_neg (show ¬ (4 : Int) = 1 by decide), if_neg (show ¬ (4 : Int) = 2 by decide), if_neg (show ¬ (4 : Int) = 3 by decide), if_pos rfl, if_pos ⟨h0, h1, rfl⟩]
theorem txt5 {a n : Int} (h : a = 5) (h0 : 0 ≤ n) (h1 : n ≤ 999999) : txtO ⟨a, n, 0, ⟨#[]⟩⟩ = some (120 :: Lib.decDigits n.toNat) := by
  subst h; unfold txtO; rw [if_neg (show ¬ (5 : Int) = 1 by decide), if_neg (show ¬ (5 : Int) = 2 by decide), if_neg (show ¬ (5 : Int) = 3 by decide), if_neg (show ¬ (5 : Int) = 4 by decide), if_pos rfl, if_pos ⟨h0, h1, rfl⟩]

theorem text_loop (l : List Int) (hl : l.length ≤ 1000) : ∀ (n : Nat) (xs : List S35) (pos : Int), Valid xs → xs.length + n ≤ 100 → 1 ≤ xs.length + n → 0 ≤ pos ∧ pos ≤ l.length →
    ∃ own pos', Ev (fun k => proofprogramslaw14_text.l0 k xs ((n : Int) - 1) l pos) ((textR own).1, pos') ∧ Valid own ∧ 1 ≤ own.length ∧ own.length ≤ 100
  | 0, xs, pos, hv, hn, h1, hp => by
    refine ⟨xs, pos, ?_, hv, by omega, by omega⟩
    exact Ev.step (f := _) (fun k => by rw [proofprogramslaw14_text.l0]) (evn (by omega) (Ev.bind (rText_ev xs) (Ev.now _)))
  | n + 1, xs, pos, hv, hn, h1, hp => by
    obtain ⟨v, pos', hw, h0, h5, h6⟩ := Next_f l pos 5 (by omega) (by omega) hp hl
    have hk : wrap64 (1 + v) = 1 + v := wrap_small (by omega) (by omega)
    have hd : wrap64 (((n + 1 : Nat) : Int) - 1 - 1) = (n : Int) - 1 := by rw [wrap_small (by omega) (by omega)]; omega
    have go : ∀ (t : S35) (s : List UInt8) (q : Int), txtO t = some s → 0 ≤ q ∧ q ≤ l.length → ∃ own pos', Ev (fun k => if xs.length < 3518437208883 then (proofprogramslaw14_text.l0 k (xs ++ [t]) (wrap64 (((n + 1 : Nat) : Int) - 1 - 1)) l q) else none) ((textR own).1, pos') ∧ Valid own ∧ 1 ≤ own.length ∧ own.length ≤ 100 := by
      intro t s q ht hq
      obtain ⟨own, p2, h, r⟩ := text_loop l hl n (xs ++ [t]) q (valid_app hv ht) (by simp; omega) (by simp; omega) hq
      refine ⟨own, p2, ?_, r⟩
      rw [hd]
      exact evp (by omega) h
    have top : ∀ {R : ByteArray × Int}, Ev (fun k => if 1 + v = 3 then _ else _) R → Ev (fun k => proofprogramslaw14_text.l0 k xs (((n + 1 : Nat) : Int) - 1) l pos) R := fun {R} h => by
      refine Ev.step (f := _) (fun k => by rw [proofprogramslaw14_text.l0]) (evp (by omega) ?_)
      rw [hw]
      simp only [Option.bind_some]
      rw [hk]
      exact h
    by_cases h3 : 1 + v = 3
    · obtain ⟨j, p2, hj, j0, j1, j2⟩ := Next_f l pos' 7 (by omega) (by omega) h6 hl
      have hm := rdOf_mem ByteArray.empty [(⟨#[115, 117, 99, 99]⟩ : ByteArray), (⟨#[108, 97, 109]⟩ : ByteArray), (⟨#[110, 97, 116]⟩ : ByteArray), (⟨#[120]⟩ : ByteArray), (⟨#[112, 97, 105, 114]⟩ : ByteArray), (⟨#[101, 113]⟩ : ByteArray), (⟨#[97, 98, 99, 100, 101, 102, 103, 104, 105, 106, 107, 108, 109, 110, 111, 112]⟩ : ByteArray)] j j0 (by simpa using j1)
      have hok : ∀ b ∈ [(⟨#[115, 117, 99, 99]⟩ : ByteArray), (⟨#[108, 97, 109]⟩ : ByteArray), (⟨#[110, 97, 116]⟩ : ByteArray), (⟨#[120]⟩ : ByteArray), (⟨#[112, 97, 105, 114]⟩ : ByteArray), (⟨#[101, 113]⟩ : ByteArray), (⟨#[97, 98, 99, 100, 101, 102, 103, 104, 105, 106, 107, 108, 109, 110, 111, 112]⟩ : ByteArray)], nameOk b.data.toList = true := by decide
      have hname := hok _ hm
      obtain ⟨own, p3, h, r⟩ := go ⟨1 + v, 0, 0, _⟩ _ p2 (txt3 h3 hname) j2
      refine ⟨own, p3, top (evp h3 ?_), r⟩
      rw [hj]
      simp only [Option.bind_some]
      exact evp j0 (evp (by simpa using j1) h)
    · have nums : ∃ j p2, proofprogramsmake_Deck_Next.f l pos' 6 = some (j, p2) ∧ 0 ≤ j ∧ j < 6 ∧ (0 ≤ p2 ∧ p2 ≤ l.length) ∧ 0 ≤ rd [0, 1, 7, 12, 305, 999999] j ∧ rd [0, 1, 7, 12, 305, 999999] j ≤ 999999 := by
        obtain ⟨j, p2, hj, j0, j1, j2⟩ := Next_f l pos' 6 (by omega) (by omega) h6 hl
        refine ⟨j, p2, hj, j0, j1, j2, ?_⟩
        obtain ⟨m, rfl⟩ := Int.eq_ofNat_of_zero_le j0
        have : ∀ m : Nat, m < 6 → 0 ≤ rd [0, 1, 7, 12, 305, 999999] (m : Int) ∧ rd [0, 1, 7, 12, 305, 999999] (m : Int) ≤ 999999 := by decide
        exact this m (by omega)
      by_cases h4 : 1 + v = 4
      · obtain ⟨j, p2, hj, j0, j1, j2, b0, b1⟩ := nums
        obtain ⟨own, p3, h, r⟩ := go ⟨1 + v, rd [0, 1, 7, 12, 305, 999999] j, 0, ⟨#[]⟩⟩ _ p2 (txt4 h4 b0 b1) j2
        refine ⟨own, p3, top (evn h3 (evp h4 ?_)), r⟩
        rw [hj]
        simp only [Option.bind_some]
        exact evp j0 (evp (by simpa using j1) h)
      · by_cases h5' : 1 + v = 5
        · obtain ⟨j, p2, hj, j0, j1, j2, b0, b1⟩ := nums
          obtain ⟨own, p3, h, r⟩ := go ⟨1 + v, rd [0, 1, 7, 12, 305, 999999] j, 0, ⟨#[]⟩⟩ _ p2 (txt5 h5' b0 b1) j2
          refine ⟨own, p3, top (evn h3 (evn h4 (evp h5' ?_))), r⟩
          rw [hj]
          simp only [Option.bind_some]
          exact evp j0 (evp (by simpa using j1) h)
        · have : ∃ s, txtO (⟨1 + v, 0, 0, ⟨#[]⟩⟩ : S35) = some s := by
            by_cases e1 : 1 + v = 1
            · exact ⟨[40], txt1 e1⟩
            · exact ⟨[41], txt2 (by omega)⟩
          obtain ⟨s, hs⟩ := this
          obtain ⟨own, p3, h, r⟩ := go ⟨1 + v, 0, 0, ⟨#[]⟩⟩ s pos' hs h6
          exact ⟨own, p3, top (evn h3 (evn h4 (evn h5' h))), r⟩

theorem text_ev (l : List Int) (hl : l.length ≤ 1000) (pos : Int) (hp : 0 ≤ pos ∧ pos ≤ l.length) :
    ∃ own pos', Ev (fun k => proofprogramslaw14_text.f k l pos) ((textR own).1, pos') ∧ Valid own ∧ 1 ≤ own.length ∧ own.length ≤ 100 := by
  obtain ⟨v, p1, hv, h0, h1, h2⟩ := Next_f l pos 12 (by omega) (by omega) hp hl
  obtain ⟨own, p2, h, r⟩ := text_loop l hl (v.toNat + 1) [] p1 (fun _ h => by cases h) (by simp; omega) (by simp) h2
  refine ⟨own, p2, ?_, r⟩
  unfold proofprogramslaw14_text.f
  rw [hv]
  simp only [Option.bind_some]
  have : ((v.toNat + 1 : Nat) : Int) - 1 = v := by omega
  rw [this] at h
  exact h

theorem txtO_place (a n p q : Int) (s : ByteArray) : txtO ⟨a, n, p, s⟩ = txtO ⟨a, n, q, s⟩ := rfl
theorem txtO_int {t : S35} {s : List UInt8} (h : txtO t = some s) : intB t = true := by
  have : -9223372036854775808 ≤ t.f1 ∧ t.f1 ≤ 9223372036854775807 := by
    unfold txtO at h
    split at h
    · split at h
      · omega
      · cases h
    · split at h
      · split at h
        · omega
        · cases h
      · split at h
        · split at h
          · omega
          · cases h
        · split at h
          · split at h
            · omega
            · cases h
          · split at h
            · split at h
              · omega
              · cases h
            · cases h
  rw [intB, decide_eq_true this.1, decide_eq_true this.2]; rfl
theorem txtO_pos {t : S35} {s : List UInt8} (h : txtO t = some s) : 1 ≤ s.length := by
  by_cases h1 : t.f0 = 1
  · unfold txtO at h; rw [if_pos h1] at h; split at h
    · cases h; simp
    · cases h
  · by_cases h2 : t.f0 = 2
    · unfold txtO at h; rw [if_neg h1, if_pos h2] at h; split at h
      · cases h; simp
      · cases h
    · exact (word_tok h h1 h2).2.1

/-- One token's text, with its place left out. -/
theorem one_text {t : S35} {s : List UInt8} (h : txtO t = some s) : lexis_Text.f [(⟨t.f0, t.f1, 0, t.f3⟩ : S35)] = some (⟨s.toArray⟩, 0) := by
  have h' : txtO (⟨t.f0, t.f1, 0, t.f3⟩ : S35) = some s := h
  unfold lexis_Text.f
  rw [List.all_cons, txtO_int h', List.all_nil, Bool.and_true, if_pos rfl, textR_eq, if_neg (by simp), endR, joinF, h']
  simp [joinF, sepB]

theorem wrap_id {x : Int} (h0 : 0 ≤ x) (h1 : x ≤ 1000000) : wrap64 x = x := wrap_small (by omega) (by omega)

theorem places_loop (s : ByteArray) (hs : s.size ≤ 100000) (full : List S35) (hf : full.length ≤ 100) : ∀ (r own : List S35) (prev : Option Int) (p : Int) (bs : List UInt8) (i : Int),
    joinF prev own = some bs → r = putP prev p own → 0 ≤ p → s.data.toList.drop p.toNat = bs → p ≤ s.size → 0 ≤ i → full.drop i.toNat = r → i + r.length = full.length →
    (i > 0 → (rd_T35 full (i - 1)).f2 < p) →
    Ev (fun k => proofprogramslaw14_LexisPlaces.l0 k s full full (full.length : Int) i) true
  | [], own, prev, p, bs, i, _, _, _, _, _, hi, _, hlen, _ => by
    simp at hlen
    exact Ev.step (f := _) (fun k => by rw [proofprogramslaw14_LexisPlaces.l0]) (evn (by omega) (Ev.now _))
  | y :: r, [], prev, p, bs, i, _, hr, _, _, _, _, _, _, _ => by simp [putP] at hr
  | y :: r, t :: own, prev, p, bs, i, hj, hr, hp, hd, hps, hi, hdrop, hlen, hprev => by
    rw [joinF] at hj
    cases ht : txtO t with
    | none => rw [ht] at hj; cases hj
    | some z =>
      rw [ht] at hj
      cases hj' : joinF (some t.f0) own with
      | none => rw [hj'] at hj; cases hj
      | some rest =>
        rw [hj'] at hj
        have e : (if sepB prev t.f0 then [32] else []) ++ z ++ rest = bs := Option.some.inj hj
        rw [putP, ht] at hr
        simp only [Option.getD_some] at hr
        obtain ⟨hy, hr⟩ := List.cons.inj hr
        have hz := txtO_pos ht
        -- where it stands
        generalize hq : p + (if sepB prev t.f0 then 1 else 0) = q at hy hr
        have hpq : p ≤ q ∧ q ≤ p + 1 := by
          rw [← hq]; split <;> omega
        have hdq : s.data.toList.drop q.toNat = z ++ rest := by
          have e2 : s.data.toList.drop q.toNat = bs.drop (q - p).toNat := by
            rw [← hd, List.drop_drop]; congr 1; omega
          rw [e2, ← e]
          cases hsep : sepB prev t.f0 with
          | true =>
            rw [hsep] at hq
            have : (q - p).toNat = 1 := by simp at hq; omega
            rw [this]; simp
          | false =>
            rw [hsep] at hq
            have : (q - p).toNat = 0 := by simp at hq; omega
            rw [this]; simp
        have hqs : q + z.length + rest.length = s.size := by
          have := congrArg List.length hdq
          rw [List.length_drop, List.length_append, len_data] at this
          omega
        simp only [List.length_cons] at hlen
        have hat : rd_T35 full i = y := by
          rw [rd_T35, List.getD_eq_getElem?_getD]
          have := congrArg List.head? hdrop
          rw [List.head?_drop] at this
          rw [this]; rfl
        have hyz : txtO y = some z := by rw [hy]; exact ht
        have hyq : y.f2 = q := by rw [hy]
        have h1 := one_text hyz
        refine Ev.step (f := _) (fun k => by rw [proofprogramslaw14_LexisPlaces.l0]) (evp (by omega) (evp hi (evp (by omega) ?_)))
        rw [hat, h1]
        simp only [Option.bind_some]
        rw [hyq, size_mk, wrap_id (x := q + z.length) (by omega) (by omega), wrap_id (x := i + 1) (by omega) (by omega)]
        refine evp (by omega) (evp trivial (evn (by omega) (evn (by omega) (evp (by omega) (evp (by omega) (evp (by omega) (evp ?_ ?_)))))))
        · rw [Lib.extract_toList, hdq, Lib.toList_data]
          have : (q + (z.length : Int)).toNat - q.toNat = z.length := by omega
          rw [this, List.take_left]
        · have next := places_loop s hs full hf r own (some t.f0) (q + z.length) rest (i + 1) hj' hr (by omega) (by
              have : (q + (z.length : Int)).toNat = q.toNat + z.length := by omega
              rw [this, ← List.drop_drop, hdq, List.drop_left]) (by omega) (by omega) (by
              have : (i + 1).toNat = i.toNat + 1 := by omega
              rw [this, ← List.drop_drop, hdrop]; rfl) (by omega) (fun _ => by
              have : i + 1 - 1 = i := by omega
              rw [this, hat, hyq]; omega)
          by_cases hi0 : i > 0
          · refine evp hi0 ?_
            rw [wrap_id (x := i - 1) (by omega) (by omega)]
            exact evp (by omega) (evp (by omega) (evn (by have := hprev hi0; omega) next))
          · exact evn hi0 next

theorem putP_len : ∀ (l : List S35) (prev : Option Int) (p : Int), (putP prev p l).length = l.length
  | [], _, _ => rfl
  | t :: r, prev, p => by rw [putP, List.length_cons, putP_len r, List.length_cons]

theorem textR_valid {own : List S35} (h : Valid own) (hl : own.length ≤ 100) : ∃ bs, joinF none own = some bs ∧ textR own = (⟨bs.toArray⟩, 0) ∧ bs.length ≤ 1800 := by
  obtain ⟨bs, hb, hn⟩ := join_valid own none h
  exact ⟨bs, hb, by rw [textR_eq, if_neg (by omega), endR, hb], by omega⟩

theorem tokR_join {own : List S35} {bs : List UInt8} (h : joinF none own = some bs) (hb : bs.length ≤ 8192) (hl : own.length ≤ 2048) : tokR bs = (putP none 0 own, 0) := by
  unfold tokR
  rw [if_neg (by omega), scan, scan_join own none 0 bs bs.length h (Nat.le_refl _), outT]
  simp only [List.length_nil, Nat.zero_add, List.nil_append]
  rw [putP_len, if_neg (by omega)]

theorem PureLexisPlaces : proofprogramslaw14_LexisPlaces.Pure := by
  intro l0 hm h8 hw
  refine Ev.rounds (g := fun k => proofprogramslaw14_LexisPlaces.f k l0) (r := true) ?_
  unfold proofprogramslaw14_LexisPlaces.f
  refine Ev.bind sane_ev (evp rfl ?_)
  simp only [proofprogramsmake_Few.f, Option.bind_some]
  by_cases hf : (l0.length : Int) ≤ 500
  · refine evp (by simpa using hf) ?_
    simp only [proofprogramsmake_New.f, Option.bind_some]
    obtain ⟨own, pos', hown, hv, h1, h2⟩ := text_ev l0 (by omega) 0 (by omega)
    obtain ⟨bs, hb, ht, hbl⟩ := textR_valid hv h2
    rw [ht] at hown
    refine Ev.bind hown (Ev.bind (Tokens_ev _) ?_)
    have htok : tokR (⟨bs.toArray⟩ : ByteArray).data.toList = (putP none 0 own, 0) := tokR_join (bs := bs) hb (by omega) (by omega)
    rw [htok]
    refine evp rfl (evn (by rw [putP_len]; omega) (evp (by rw [putP_len]; omega) ?_))
    have h0 : ((rd_T35 (putP none 0 own) 0).f2 != 0) = false := by
      cases own with
      | nil => simp at h1
      | cons t r => simp [putP, rd_T35, sepB]
    rw [h0]
    refine Ev.step (f := _) (fun k => by rw [proofprogramslaw14_LexisPlaces.j0]) (evn (by simp) ?_)
    exact places_loop ⟨bs.toArray⟩ (by rw [size_mk]; omega) (putP none 0 own) (by rw [putP_len]; omega) (putP none 0 own) own none 0 bs 0 hb rfl (by omega) rfl (by omega) (by omega) rfl (by simp) (fun h => by omega)
  · exact evn (by simpa using hf) (Ev.now _)

end Go.Proofs.YthcllibbaindbaaDoor.Px
namespace Go.Proofs.YthcllibbaindbaaDoor.lexisPlaces
open Go.ChangeShapes Go.WideShapes Go.ChangeAt Go.RowKit
open Go.ChangeMaps (open_string shut_string)
set_option linter.unusedVariables false
theorem own : ownKnob Tryd.prog.godebug = none := by kernel_rfl
theorem laidOut : laidOutB Tryd.prog = true := by kernel_rfl
def IsRow (k : IntKind) (w : World) (a : Option Addr) (len cap : Nat) (zs : List Int) : Prop :=
  (a = none ∧ len = 0 ∧ cap = 0 ∧ zs = []) ∨
  ∃ x, a = some x ∧ len ≤ cap ∧ cap ≤ maxLen ∧ zs.length = cap ∧ (∀ i, i < zs.length → w.cell? (x.add i) = some (.int k (zs.getD i 0))) ∧ ∀ n ∈ zs, (Lit.int k n).wf = true
theorem reads (os : Os) {H : Type} (enc : TypeId × Value → H) : ∃ places, DataW.whole enc Tryd.prog ((laidWorld os).forCall (fun _ _ => 0) ⟨#[], #[.slice none 0 0], []⟩).memory Tryd.f5.params.toList Rows.lexisPlacesSpec.vars false (#[.slice none 0 0] : Array Value).toList 8 = some ([.nil], [], places) :=
  ⟨[], by kernel_rfl⟩
set_option maxRecDepth 100000 in
theorem lifted (os : Os) (started : os.Started) (H : Type) (enc : TypeId × Value → H) (F : Stop.Interp) :
    ReturnsInHanded {} Tryd.checked os 5 .any ((OpenSpec.ofChange Rows.lexisPlacesSpec).preRow enc Tryd.prog Tryd.f5 Rows.lexisPlacesRow.domain false Rows.lexisPlacesRow.laid) (((OpenSpec.ofChange Rows.lexisPlacesSpec).at F).post enc Tryd.prog Tryd.f5 false true false false) := by
  obtain ⟨places, hx⟩ := reads os enc
  refine returnsInHanded_of_row (C := Tryd.checked) (s := OpenSpec.ofChange Rows.lexisPlacesSpec) own started (by kernel_rfl) Tryd.func5
    (witness_row_at (enc := enc) (C := Tryd.checked) false (laidWorld os) #[.slice none 0 0] rfl (by kernel_rfl) (by kernel_rfl) (by kernel_rfl)
      (OpenSpec.preRow_of_cond 8 hx (by kernel_rfl) (fun k hk => by cases hk) (by kernel_rfl) (laid_met os _))) ?_
  intro W base args ds gs before hval0 hW hcnd _ hsz0 hL _ _
  have hlaid : Laid W := laid_of hL
  clear hL
  have hsz : (DataW.weightsEach Tryd.prog (Tryd.f5.params.toList ++ Rows.lexisPlacesSpec.plain.varTypes Tryd.prog) (ds ++ gs)).all (· ≤ reachBytes) = true := hsz0
  have hval : ∀ (j : Nat) t v, Tryd.f5.params[j]? = some t → args[j]? = some v → Value.okWide Tryd.prog W .any base t v := hval0
  have hW' := hW
  obtain ⟨p, q, hA0, hV, rfl, hfz, hnd⟩ := hW
  have hA : DataW.TrodAll enc Tryd.prog W 0 (fun _ => true) true Tryd.f5.params.toList args.toList ds p := hA0
  rw [Tryd.params5] at hA hval hsz
  obtain ⟨v0, vs0, d0, ds0, p0, q0, hargs, rfl, rfl, h0, r0⟩ := trodAll_cons hA
  obtain ⟨rfl, rfl, rfl⟩ := trodAll_nil r0
  obtain rfl : args = #[v0] := by cases args; simp_all
  obtain ⟨rfl, rfl⟩ := trodVars_none hV
  obtain ⟨a0, len0, cap0, rfl⟩ := okWide_slice Tryd.underlying22 (hval 0 22 v0 rfl rfl)
  have k0 := h0
  have lt0 : ∀ x ∈ p0, x.block < W.heap.size := by obtain ⟨m, hm⟩ := k0; exact DataW.trod_lt m _ _ _ hm
  obtain ⟨z0, w0⟩ : ∃ zs, IsRow .i64 W a0 len0 cap0 zs := by
    obtain ⟨fuel, hf⟩ := h0
    rcases open_ints Tryd.underlying22 Tryd.underlying3 (by kernel_rfl) hf with ⟨hcs, _⟩ | ⟨x, l, c, zs, hcs, _, hl, hm, hz, _, hcell, hwz⟩
    · simp [Value.cells] at hcs
      obtain ⟨rfl, rfl, rfl⟩ := hcs
      exact ⟨[], .inl ⟨rfl, rfl, rfl, rfl⟩⟩
    · simp [Value.cells] at hcs
      obtain ⟨rfl, rfl, rfl⟩ := hcs
      exact ⟨zs, .inr ⟨_, rfl, hl, hm, by simpa using hz, hcell, hwz⟩⟩
  have y0 : len0 * 8 ≤ 140737488351232 := YthcllibbaindbaaDoorW.PrintWords.sized_ints hsz (j := 0) (t := 22) rfl rfl Tryd.underlying22 Tryd.underlying3 (by kernel_rfl) (by kernel_rfl) h0
  clear hA0 hval0 hsz0 hsz
  refine (Px.proofprogramslaw14_LexisPlaces.walk Px.PureLexisPlaces a0 len0 cap0 z0 W w0 y0 hlaid).mono fun e W' ⟨he, bel⟩ => ?_
  subst he
  exact ⟨_, rfl, _, _, _, [], _, [], hW', trodAll_mk1 (shut_bool Tryd.underlying4 _), (trodAll_cons_mk (Below.trod laidOut (by kernel_rfl) (of_decide_eq_true (by kernel_rfl)) k0 bel lt0) trodAll_mk0), rfl, bel.frame _, fun h => by cases h⟩
theorem said : Rows.LexisPlacesSaid :=
  OpenClaim.holds_of_cond 5 Tryd.f5 rfl rfl rfl rfl rfl rfl rfl ⟨rfl, rfl, rfl, rfl, rfl⟩ rfl rfl rfl rfl rfl (by kernel_rfl) Tryd.func5 (by kernel_rfl)
    (of_decide_eq_true (by kernel_rfl)) (by unfold Func.isWrapper; first | (rw [if_pos (by decide +kernel)]; kernel_rfl) | (rw [if_neg (by decide +kernel)]; exact ⟨rfl, rfl⟩))
    (fun os started H enc _ F => by rw [OpenClaim.pre_eq_preRow]; exact lifted os started H enc F)
theorem plain (f : FuncId) (fn : Func) (hf : Tryd.pinned.checked.prog.funcNamed "proofprograms/proofprogramslaw14.LexisPlaces" = some f) (hfn : Tryd.pinned.checked.prog.funcs[f]? = some fn) :
    true = Tryd.pinned.checked.prog.looks [] ∧ ∀ (j : Nat) t, fn.params[j]? = some t → Tryd.pinned.checked.prog.wantsStandIn t = false := by
  obtain rfl : f = 5 := Option.some.inj ((show Tryd.prog.funcNamed "proofprograms/proofprogramslaw14.LexisPlaces" = some 5 by kernel_rfl).symm.trans hf) |>.symm
  obtain rfl : fn = Tryd.f5 := (Option.some.inj (Tryd.func5.symm.trans hfn)).symm
  refine ⟨by kernel_rfl, fun j t ht => ?_⟩
  rw [Tryd.params5] at ht
  obtain rfl : t = 22 := by simpa using Array.mem_of_getElem? ht
  · exact (show Tryd.prog.wantsStandIn 22 = false by kernel_rfl)
theorem card : Rows.LexisPlacesCardSaid :=
  Claim7.holds_tied_plain_at .later [] _ _ _ _ said (fun _ h => by cases h) (by kernel_rfl) (fun _ h => by cases h) lexisPlaces_row_tie rfl ⟨rfl, rfl⟩ (by kernel_rfl) rfl plain (by kernel_rfl)
#print axioms card
end Go.Proofs.YthcllibbaindbaaDoor.lexisPlaces
namespace Go.Proofs.YthcllibbaindbaaDoor
/-- The card, under a short name, for the claim. -/
theorem lexisPlaces_holds : Rows.LexisPlacesCardSaid := lexisPlaces.card
end Go.Proofs.YthcllibbaindbaaDoor
