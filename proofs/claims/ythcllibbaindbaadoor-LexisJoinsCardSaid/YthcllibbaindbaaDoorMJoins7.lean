/- LexisJoins' plain statement: the tokens of two texts with a space between are those of both, one after the other. LexisJoins: the tokens of two texts with a space between are those of both, one after the other; for every list of numbers and all texts. -/
import Derived.Test.YthcllibbaindbaaDoorMJoins5
import Derived.Test.YthcllibbaindbaaDoorMJoins6
import Derived.Test.YthcllibbaindbaaDoorRows
import Derived.Test.YthcllibbaindbaaDoorCards
import Derived.Test.YthcllibbaindbaaDoorTie
import Derived.WalkKit
import Derived.ProofKit
import Derived.OpenShut
import Derived.ShutString
import Derived.ChangeOld
import Derived.Below
import Derived.SizedLaws
import Derived.Deep.DeepHandedRow
import Derived.Test.YthcllibbaindbaaDoorWSized
import Derived.Test.YthcllibbaindbaaDoorMJoins0
namespace Go.Proofs.YthcllibbaindbaaDoor.Px
open Go.RowKit Go.Proofs.YthcllibbaindbaaDoorW.PrintWords Go.Proofs.YthcllibbaindbaaDoorW.PrintLast Go.Proofs.YthcllibbaindbaaDoorW.PrintMore

theorem scanF_fuel : ∀ (n m : Nat) (l : List UInt8) (pos : Int), l.length ≤ n → l.length ≤ m → scanF n l pos = scanF m l pos
  | n, m, [], pos, _, _ => by rw [scanF_nil, scanF_nil]
  | 0, _, _ :: _, _, h, _ => absurd h (by simp)
  | _ + 1, 0, _ :: _, _, _, h => absurd h (by simp)
  | n + 1, m + 1, c :: r, pos, hn, hm => by
    have hn' : r.length ≤ n := by simpa using hn
    have hm' : r.length ≤ m := by simpa using hm
    have h1 := scanF_fuel n m r (pos + 1) hn' hm'
    simp only [scanF, h1]
    cases hc : isLD c with
    | false =>
      have : (c :: r).takeWhile isLD = [] := by rw [List.takeWhile_cons, hc]; rfl
      rw [this, wordR_nil]
      simp
    | true =>
      have hd : ((c :: r).dropWhile isLD).length ≤ r.length := by
        rw [List.dropWhile_cons, hc]
        exact (List.dropWhile_suffix _).length_le
      rw [scanF_fuel n m ((c :: r).dropWhile isLD) _ (by omega) (by omega)]

theorem takeWhile_sp (l b : List UInt8) : (l ++ 32 :: b).takeWhile isLD = l.takeWhile isLD ∧ (l ++ 32 :: b).dropWhile isLD = l.dropWhile isLD ++ 32 :: b := by
  induction l with
  | nil => exact ⟨rfl, rfl⟩
  | cons c r ih =>
    rw [List.cons_append, List.takeWhile_cons, List.dropWhile_cons, List.takeWhile_cons, List.dropWhile_cons]
    cases isLD c with
    | true => exact ⟨by simp [ih.1], by simp [ih.2]⟩
    | false => exact ⟨rfl, rfl⟩

theorem scanF_app : ∀ (n : Nat) (a b : List UInt8) (pos : Int), a.length + 1 + b.length ≤ n →
    scanF n (a ++ 32 :: b) pos = (scanF n a pos).bind fun ta => (scanF n b (pos + a.length + 1)).map (ta ++ ·)
  | 0, a, b, pos, h => absurd h (by omega)
  | n + 1, [], b, pos, h => by
    rw [scanF_nil, List.nil_append, scanF, if_pos (.inl rfl)]
    simp only [Option.bind_some, List.nil_append, List.length_nil]
    rw [scanF_fuel n (n + 1) b _ (by simp at h; omega) (by simp at h; omega)]
    simp
  | n + 1, c :: r, b, pos, h => by
    have hl : r.length + 1 + b.length ≤ n := by simp at h; omega
    have ih := scanF_app n r b (pos + 1) hl
    have hb : ∀ q, scanF (n + 1) b q = scanF n b q := fun q => scanF_fuel _ _ _ _ (by omega) (by omega)
    have hq : pos + ((c :: r).length : Int) + 1 = pos + 1 + (r.length : Int) + 1 := by rw [List.length_cons]; omega
    rw [hb, hq]
    have e1 : (c :: r) ++ 32 :: b = c :: (r ++ 32 :: b) := rfl
    by_cases h1 : c = 32 ∨ c = 10
    · rw [e1, scanF, if_pos h1, ih, scanF, if_pos h1]
    · by_cases h2 : c = 40
      · rw [e1, scanF, if_neg h1, if_pos h2, ih, scanF, if_neg h1, if_pos h2]
        cases scanF n r (pos + 1) <;> cases scanF n b (pos + 1 + (r.length : Int) + 1) <;> rfl
      · by_cases h3 : c = 41
        · rw [e1, scanF, if_neg h1, if_neg h2, if_pos h3, ih, scanF, if_neg h1, if_neg h2, if_pos h3]
          cases scanF n r (pos + 1) <;> cases scanF n b (pos + 1 + (r.length : Int) + 1) <;> rfl
        · rw [e1, scanF, if_neg h1, if_neg h2, if_neg h3, scanF, if_neg h1, if_neg h2, if_neg h3, ← e1, (takeWhile_sp (c :: r) b).1, (takeWhile_sp (c :: r) b).2]
          cases hw : (wordR ((c :: r).takeWhile isLD)).2.2.2 with
          | false => rfl
          | true =>
            have hc : isLD c = true := by
              cases hc : isLD c with
              | true => rfl
              | false =>
                rw [List.takeWhile_cons, hc] at hw
                simp [wordR_nil] at hw
            have hd : ((c :: r).dropWhile isLD).length ≤ r.length := by
              rw [List.dropWhile_cons, hc]
              exact (List.dropWhile_suffix _).length_le
            have hlen := takeWhile_append_dropWhile_len (c :: r) isLD
            rw [List.length_cons] at hlen
            have ih2 := scanF_app n ((c :: r).dropWhile isLD) b (pos + ((c :: r).takeWhile isLD).length) (by omega)
            have hq2 : pos + (((c :: r).takeWhile isLD).length : Int) + (((c :: r).dropWhile isLD).length : Int) + 1 = pos + 1 + (r.length : Int) + 1 := by omega
            rw [hq2] at ih2
            rw [if_pos rfl, if_pos rfl, ih2]
            cases scanF n ((c :: r).dropWhile isLD) (pos + (((c :: r).takeWhile isLD).length : Int)) <;> cases scanF n b (pos + 1 + (r.length : Int) + 1) <;> rfl

theorem scanF_shift : ∀ (n : Nat) (l : List UInt8) (p q : Int), (scanF n l p).map (List.map key) = (scanF n l q).map (List.map key)
  | 0, _, _, _ => rfl
  | _ + 1, [], _, _ => rfl
  | n + 1, c :: r, p, q => by
    have ih := scanF_shift n r (p + 1) (q + 1)
    have cons : ∀ (o o' : Option (List S35)) (t t' : S35), o.map (List.map key) = o'.map (List.map key) → key t = key t' → (o.map (t :: ·)).map (List.map key) = (o'.map (t' :: ·)).map (List.map key) := by
      intro o o' t t' h1 h2
      cases o <;> cases o' <;> simp at h1 ⊢
      exact ⟨h2, h1⟩
    simp only [scanF]
    by_cases h1 : c = 32 ∨ c = 10
    · rw [if_pos h1, if_pos h1]; exact ih
    · rw [if_neg h1, if_neg h1]
      by_cases h2 : c = 40
      · rw [if_pos h2, if_pos h2]; exact cons _ _ _ _ ih rfl
      · rw [if_neg h2, if_neg h2]
        by_cases h3 : c = 41
        · rw [if_pos h3, if_pos h3]; exact cons _ _ _ _ ih rfl
        · rw [if_neg h3, if_neg h3]
          cases (wordR ((c :: r).takeWhile isLD)).2.2.2 with
          | false => rfl
          | true => rw [if_pos rfl, if_pos rfl]; exact cons _ _ _ _ (scanF_shift n _ _ _) rfl

theorem scan_app (a b : List UInt8) : scan (a ++ 32 :: b) = (scan a).bind fun ta => (scanF b.length b (0 + a.length + 1)).map (ta ++ ·) := by
  unfold scan
  have h := scanF_app (a ++ 32 :: b).length a b 0 (by simp; omega)
  rw [h, scanF_fuel (a ++ 32 :: b).length a.length a 0 (by simp) (Nat.le_refl _)]
  congr 1
  funext ta
  rw [scanF_fuel (a ++ 32 :: b).length b.length b _ (by simp; omega) (Nat.le_refl _)]

theorem tokR_15 {l : List UInt8} (h : (tokR l).2 = 15) : scan l = none := by
  unfold tokR at h
  split at h
  · cases h
  · cases hs : scan l with
    | none => rfl
    | some t =>
      rw [hs, outT] at h
      split at h <;> cases h
theorem tokR_0 {l : List UInt8} (h : (tokR l).2 = 0) : scan l = some (tokR l).1 := by
  unfold tokR at h ⊢
  split at h
  · cases h
  · rename_i hl
    rw [if_neg hl]
    cases hs : scan l with
    | none => rw [hs] at h; cases h
    | some t =>
      rw [hs, outT] at h
      split at h
      · cases h
      · rename_i h2
        rw [outT, if_neg h2]; rfl
theorem tokR_cases (l : List UInt8) : (tokR l).2 = 0 ∨ (tokR l).2 = 3 ∨ (tokR l).2 = 15 := by
  unfold tokR
  split
  · exact .inr (.inl rfl)
  · cases scan l with
    | none => exact .inr (.inr rfl)
    | some t => rw [outT]; split <;> simp
theorem tokR_len (l : List UInt8) : (tokR l).1.length ≤ 2048 := by
  unfold tokR
  split
  · simp
  · cases scan l with
    | none => simp [outT]
    | some t =>
      rw [outT]; split
      · simp
      · rename_i h
        simp at h ⊢; omega

/-- One joined text. -/
theorem join_bad {a b : List UInt8} (h : (tokR a).2 = 15 ∨ (tokR b).2 = 15) : (tokR (a ++ 32 :: b)).2 = 15 ∨ (tokR (a ++ 32 :: b)).2 = 3 := by
  rcases tokR_cases (a ++ 32 :: b) with g | g | g
  · exfalso
    have hs := tokR_0 g
    rw [scan_app] at hs
    rcases h with h | h
    · rw [tokR_15 h] at hs; cases hs
    · have h1 := tokR_15 h
      have h2 := scanF_shift b.length b 0 (0 + a.length + 1)
      rw [show scanF b.length b 0 = none from h1] at h2
      have h3 : scanF b.length b (0 + a.length + 1) = none := by
        cases hx : scanF b.length b (0 + a.length + 1) with
        | none => rfl
        | some x => rw [hx] at h2; cases h2
      rw [h3] at hs
      cases ha : scan a <;> rw [ha] at hs <;> cases hs
  · exact .inr g
  · exact .inl g
theorem join_good {a b : List UInt8} (h1 : (tokR a).2 = 0) (h2 : (tokR b).2 = 0) (h3 : (tokR (a ++ 32 :: b)).2 ≠ 3) : (tokR (a ++ 32 :: b)).2 = 0 ∧ SameT (tokR (a ++ 32 :: b)).1 ((tokR a).1 ++ (tokR b).1) := by
  have ha := tokR_0 h1
  have hb := tokR_0 h2
  have hsh := scanF_shift b.length b 0 (0 + a.length + 1)
  rw [show scanF b.length b 0 = some (tokR b).1 from hb] at hsh
  have hs := scan_app a b
  rw [ha] at hs
  simp only [Option.bind_some] at hs
  cases hx : scanF b.length b (0 + a.length + 1) with
  | none => rw [hx] at hsh; cases hsh
  | some tb =>
    rw [hx] at hsh hs
    have hk : (tokR b).1.map key = tb.map key := Option.some.inj hsh
    rcases tokR_cases (a ++ 32 :: b) with g | g | g
    · refine ⟨g, ?_⟩
      have := tokR_0 g
      rw [hs] at this
      have e : (tokR a).1 ++ tb = (tokR (a ++ 32 :: b)).1 := Option.some.inj this
      rw [← e]
      show List.map key _ = List.map key _
      rw [List.map_append, List.map_append, hk]
    · exact absurd g h3
    · have := tokR_15 g
      rw [hs] at this; cases this

theorem joins_loop (ys : List S39) (hys : ∀ y ∈ ys, y.f0.size ≤ 100000 ∧ y.f1.size ≤ 100000) (hl : ys.length ≤ 100) : ∀ (d : Nat) (i : Int), 0 ≤ i → (ys.length : Int) - i = d →
    Ev (fun k => proofprogramslaw14_LexisJoins.l0 k ys (ys.length : Int) i) true
  | 0, i, h0, hd => Ev.step (f := _) (fun k => by rw [proofprogramslaw14_LexisJoins.l0]) (evn (by omega) (Ev.now _))
  | d + 1, i, h0, hd => by
    have next := joins_loop ys hys hl d (i + 1) (by omega) (by omega)
    have hw : wrap64 (i + 1) = i + 1 := wrap_id (by omega) (by omega)
    obtain ⟨z0, z1⟩ := hys (rd_T39 ys i) (by
      rw [rd_T39, List.getD_eq_getElem?_getD, List.getElem?_eq_getElem (by omega)]
      exact List.getElem_mem _)
    refine Ev.step (f := _) (fun k => by rw [proofprogramslaw14_LexisJoins.l0]) (evp (by omega) (evp h0 (evp (by omega) ?_)))
    generalize rd_T39 ys i = y at z0 z1
    have e1 : (y.f0 ++ (⟨#[32]⟩ : ByteArray)).size = y.f0.size + 1 := by rw [ByteArray.size_append]; rfl
    refine Ev.bind (Tokens_ev _) (Ev.bind (Tokens_ev _) (evp (by omega) (evp (by omega) (Ev.bind (Tokens_ev _) ?_))))
    have e : (y.f0 ++ (⟨#[32]⟩ : ByteArray) ++ y.f1).data.toList = y.f0.data.toList ++ 32 :: y.f1.data.toList := by
      rw [Go.Joins.data_append, Go.Joins.data_append]; simp
    rw [e]
    generalize y.f0.data.toList = a
    generalize y.f1.data.toList = b
    have rest : ∀ (x : Bool), (x = true ∨ ((tokR (a ++ 32 :: b)).2 = 0 ∧ SameT (tokR (a ++ 32 :: b)).1 ((tokR a).1 ++ (tokR b).1))) →
        Ev (fun k => proofprogramslaw14_LexisJoins.j3 k (tokR a).1 (tokR b).1 (tokR (a ++ 32 :: b)).1 (tokR (a ++ 32 :: b)).2 ys (ys.length : Int) i x) true := by
      intro x hx
      refine Ev.step (f := _) (fun k => by rw [proofprogramslaw14_LexisJoins.j3]) ?_
      by_cases hxt : x = true
      · refine evp hxt ?_
        rw [hw]; exact next
      · refine evn hxt ?_
        obtain ⟨g0, gs⟩ := hx.resolve_left hxt
        have l1 := tokR_len a
        have l2 := tokR_len b
        have l3 := tokR_len (a ++ 32 :: b)
        refine evp g0 (evp (by simp; omega) ?_)
        simp only [Option.bind_some, List.nil_append]
        refine evp (by omega) (Ev.bind (same_ev gs (by omega)) (evp rfl ?_))
        rw [hw]; exact next
    by_cases h15 : (tokR a).2 = 15 ∨ (tokR b).2 = 15
    · have hb := join_bad h15
      have bad : Ev (fun k => proofprogramslaw14_LexisJoins.j2 k (tokR a).1 (tokR a).2 (tokR b).1 (tokR b).2 (tokR (a ++ 32 :: b)).1 (tokR (a ++ 32 :: b)).2 ys (ys.length : Int) i true) true := by
        refine Ev.step (f := _) (fun k => by rw [proofprogramslaw14_LexisJoins.j2]) (evp rfl ?_)
        rw [hw]
        by_cases g : (tokR (a ++ 32 :: b)).2 = 15
        · exact evp g next
        · exact evn g (evp (hb.resolve_left g) next)
      by_cases g : (tokR a).2 = 15
      · exact evp g bad
      · refine evn g ?_
        have hbt : ((tokR b).2 == 15) = true := by rw [h15.resolve_left g]; rfl
        rw [hbt]
        exact bad
    · have ha : ¬ (tokR a).2 = 15 := fun h => h15 (.inl h)
      have hb : ¬ (tokR b).2 = 15 := fun h => h15 (.inr h)
      refine evn ha ?_
      have hbb : ((tokR b).2 == 15) = false := by simpa using hb
      rw [hbb]
      refine Ev.step (f := _) (fun k => by rw [proofprogramslaw14_LexisJoins.j2]) (evn (by simp) ?_)
      by_cases g : (tokR (a ++ 32 :: b)).2 = 3
      · exact evp g (rest _ (.inl rfl))
      · refine evn g ?_
        by_cases h0 : (tokR a).2 = 0
        · refine evp h0 (rest _ ?_)
          by_cases h1 : (tokR b).2 = 0
          · exact .inr (join_good h0 h1 g)
          · exact .inl (by simpa using h1)
        · exact evn h0 (rest _ (.inl rfl))

theorem PureLexisJoins : proofprogramslaw14_LexisJoins.Pure := by
  intro l0 a1 a2 hm h8 hw s1 s2
  refine Ev.rounds (g := fun k => proofprogramslaw14_LexisJoins.f k l0 a1 a2) (r := true) ?_
  unfold proofprogramslaw14_LexisJoins.f
  refine Ev.bind sane_ev (evp rfl ?_)
  simp only [proofprogramsmake_Few.f, Option.bind_some]
  by_cases hf : (l0.length : Int) ≤ 500
  · refine evp (by simpa using hf) ?_
    have hws : wrap64 ((a1.size : Int) + (a2.size : Int)) = (a1.size : Int) + (a2.size : Int) := wrap_small (by omega) (by omega)
    rw [hws]
    by_cases hbig : (a1.size : Int) + (a2.size : Int) > 4000
    · rw [decide_eq_true hbig]
      exact Ev.step (f := _) (fun k => by rw [proofprogramslaw14_LexisJoins.j0]) (evp rfl (Ev.now _))
    · rw [decide_eq_false hbig]
      refine Ev.step (f := _) (fun k => by rw [proofprogramslaw14_LexisJoins.j0]) (evn (by simp) ?_)
      simp only [proofprogramsmake_New.f, Option.bind_some]
      obtain ⟨own, pos', hown, hv, h1, h2⟩ := text_ev l0 (by omega) 0 (by omega)
      obtain ⟨bs, hb, ht, hbl⟩ := textR_valid hv h2
      rw [ht] at hown
      refine Ev.bind hown ?_
      have hsz : (⟨bs.toArray⟩ : ByteArray).size ≤ 1800 := by rw [size_mk]; exact hbl
      refine joins_loop _ ?_ (by simp) 4 0 (by omega) (by simp)
      intro y hy
      have q0 : (⟨#[120, 49, 50, 32, 48]⟩ : ByteArray).size = 5 := rfl
      have q1 : (⟨#[97, 98, 99]⟩ : ByteArray).size = 3 := rfl
      simp only [List.mem_cons, List.not_mem_nil, or_false] at hy
      rcases hy with rfl | rfl | rfl | rfl <;> dsimp only <;> omega
  · exact evn (by simpa using hf) (Ev.step (f := _) (fun k => by rw [proofprogramslaw14_LexisJoins.j0]) (evp rfl (Ev.now _)))

end Go.Proofs.YthcllibbaindbaaDoor.Px
namespace Go.Proofs.YthcllibbaindbaaDoor.lexisJoins
open Go.ChangeShapes Go.WideShapes Go.ChangeAt Go.RowKit
open Go.ChangeMaps (open_string shut_string)
set_option linter.unusedVariables false
theorem own : ownKnob Tryd.prog.godebug = none := by kernel_rfl
theorem laidOut : laidOutB Tryd.prog = true := by kernel_rfl
def IsRow (k : IntKind) (w : World) (a : Option Addr) (len cap : Nat) (zs : List Int) : Prop :=
  (a = none ∧ len = 0 ∧ cap = 0 ∧ zs = []) ∨
  ∃ x, a = some x ∧ len ≤ cap ∧ cap ≤ maxLen ∧ zs.length = cap ∧ (∀ i, i < zs.length → w.cell? (x.add i) = some (.int k (zs.getD i 0))) ∧ ∀ n ∈ zs, (Lit.int k n).wf = true
theorem reads (os : Os) {H : Type} (enc : TypeId × Value → H) : ∃ places, DataW.whole enc Tryd.prog ((laidWorld os).forCall (fun _ _ => 0) ⟨#[], #[.slice none 0 0, .string ByteArray.empty, .string ByteArray.empty], []⟩).memory Tryd.f4.params.toList Rows.lexisJoinsSpec.vars false (#[.slice none 0 0, .string ByteArray.empty, .string ByteArray.empty] : Array Value).toList 8 = some ([.nil, .lit (.string []), .lit (.string [])], [], places) :=
  ⟨[], by kernel_rfl⟩
set_option maxRecDepth 100000 in
theorem lifted (os : Os) (started : os.Started) (H : Type) (enc : TypeId × Value → H) (F : Stop.Interp) :
    ReturnsInHanded {} Tryd.checked os 4 .any ((OpenSpec.ofChange Rows.lexisJoinsSpec).preRow enc Tryd.prog Tryd.f4 Rows.lexisJoinsRow.domain false Rows.lexisJoinsRow.laid) (((OpenSpec.ofChange Rows.lexisJoinsSpec).at F).post enc Tryd.prog Tryd.f4 false true false false) := by
  obtain ⟨places, hx⟩ := reads os enc
  refine returnsInHanded_of_row (C := Tryd.checked) (s := OpenSpec.ofChange Rows.lexisJoinsSpec) own started (by kernel_rfl) Tryd.func4
    (witness_row_at (enc := enc) (C := Tryd.checked) false (laidWorld os) #[.slice none 0 0, .string ByteArray.empty, .string ByteArray.empty] rfl (by kernel_rfl) (by kernel_rfl) (by kernel_rfl)
      (OpenSpec.preRow_of_cond 8 hx (by kernel_rfl) (fun k hk => by cases hk) (by kernel_rfl) (laid_met os _))) ?_
  intro W base args ds gs before hval0 hW hcnd _ hsz0 hL _ _
  have hlaid : Laid W := laid_of hL
  clear hL
  have hsz : (DataW.weightsEach Tryd.prog (Tryd.f4.params.toList ++ Rows.lexisJoinsSpec.plain.varTypes Tryd.prog) (ds ++ gs)).all (· ≤ reachBytes) = true := hsz0
  have hval : ∀ (j : Nat) t v, Tryd.f4.params[j]? = some t → args[j]? = some v → Value.okWide Tryd.prog W .any base t v := hval0
  have hW' := hW
  obtain ⟨p, q, hA0, hV, rfl, hfz, hnd⟩ := hW
  have hA : DataW.TrodAll enc Tryd.prog W 0 (fun _ => true) true Tryd.f4.params.toList args.toList ds p := hA0
  rw [Tryd.params4] at hA hval hsz
  obtain ⟨v0, vs0, d0, ds0, p0, q0, hargs, rfl, rfl, h0, r0⟩ := trodAll_cons hA
  obtain ⟨v1, vs1, d1, ds1, p1, q1, rfl, rfl, rfl, h1, r1⟩ := trodAll_cons r0
  obtain ⟨v2, vs2, d2, ds2, p2, q2, rfl, rfl, rfl, h2, r2⟩ := trodAll_cons r1
  obtain ⟨rfl, rfl, rfl⟩ := trodAll_nil r2
  obtain rfl : args = #[v0, v1, v2] := by cases args; simp_all
  obtain ⟨rfl, rfl⟩ := trodVars_none hV
  obtain ⟨a0, len0, cap0, rfl⟩ := okWide_slice Tryd.underlying22 (hval 0 22 v0 rfl rfl)
  have k0 := h0
  have lt0 : ∀ x ∈ p0, x.block < W.heap.size := by obtain ⟨m, hm⟩ := k0; exact DataW.trod_lt m _ _ _ hm
  obtain ⟨z0, w0⟩ : ∃ zs, IsRow .i64 W a0 len0 cap0 zs := by
    obtain ⟨fuel, hf⟩ := h0
    rcases open_ints Tryd.underlying22 Tryd.underlying3 (by kernel_rfl) hf with ⟨hcs, _⟩ | ⟨x, l, c, zs, hcs, _, hl, hm, hz, _, hcell, hwz⟩
    · simp [Value.cells] at hcs
      obtain ⟨rfl, rfl, rfl⟩ := hcs
      exact ⟨[], .inl ⟨rfl, rfl, rfl, rfl⟩⟩
    · simp [Value.cells] at hcs
      obtain ⟨rfl, rfl, rfl⟩ := hcs
      exact ⟨zs, .inr ⟨_, rfl, hl, hm, by simpa using hz, hcell, hwz⟩⟩
  have y0 : len0 * 8 ≤ 140737488351232 := YthcllibbaindbaaDoorW.PrintWords.sized_ints hsz (j := 0) (t := 22) rfl rfl Tryd.underlying22 Tryd.underlying3 (by kernel_rfl) (by kernel_rfl) h0
  obtain ⟨a1, rfl, rfl, rfl, y1⟩ := open_string Tryd.underlying9 (hval 1 9 v1 rfl rfl) h1
  have w1 : a1.size ≤ 140737488351232 := by
    have z := sized_string hsz (j := 1) (t := 9) rfl rfl
    rw [Array.length_toList] at z
    exact z
  obtain ⟨a2, rfl, rfl, rfl, y2⟩ := open_string Tryd.underlying9 (hval 2 9 v2 rfl rfl) h2
  have w2 : a2.size ≤ 140737488351232 := by
    have z := sized_string hsz (j := 2) (t := 9) rfl rfl
    rw [Array.length_toList] at z
    exact z
  clear hA0 hval0 hsz0 hsz
  refine (Px.proofprogramslaw14_LexisJoins.walk Px.PureLexisJoins a0 len0 cap0 z0 a1 a2 W w0 y0 w1 w2 hlaid).mono fun e W' ⟨he, bel⟩ => ?_
  subst he
  exact ⟨_, rfl, _, _, _, [], _, [], hW', trodAll_mk1 (shut_bool Tryd.underlying4 _), (trodAll_cons_mk (Below.trod laidOut (by kernel_rfl) (of_decide_eq_true (by kernel_rfl)) k0 bel lt0) (trodAll_cons_mk (shut_string Tryd.underlying9 y1) (trodAll_cons_mk (shut_string Tryd.underlying9 y2) trodAll_mk0))), rfl, bel.frame _, fun h => by cases h⟩
theorem said : Rows.LexisJoinsSaid :=
  OpenClaim.holds_of_cond 4 Tryd.f4 rfl rfl rfl rfl rfl rfl rfl ⟨rfl, rfl, rfl, rfl, rfl⟩ rfl rfl rfl rfl rfl (by kernel_rfl) Tryd.func4 (by kernel_rfl)
    (of_decide_eq_true (by kernel_rfl)) (by unfold Func.isWrapper; first | (rw [if_pos (by decide +kernel)]; kernel_rfl) | (rw [if_neg (by decide +kernel)]; exact ⟨rfl, rfl⟩))
    (fun os started H enc _ F => by rw [OpenClaim.pre_eq_preRow]; exact lifted os started H enc F)
theorem plain (f : FuncId) (fn : Func) (hf : Tryd.pinned.checked.prog.funcNamed "proofprograms/proofprogramslaw14.LexisJoins" = some f) (hfn : Tryd.pinned.checked.prog.funcs[f]? = some fn) :
    true = Tryd.pinned.checked.prog.looks [] ∧ ∀ (j : Nat) t, fn.params[j]? = some t → Tryd.pinned.checked.prog.wantsStandIn t = false := by
  obtain rfl : f = 4 := Option.some.inj ((show Tryd.prog.funcNamed "proofprograms/proofprogramslaw14.LexisJoins" = some 4 by kernel_rfl).symm.trans hf) |>.symm
  obtain rfl : fn = Tryd.f4 := (Option.some.inj (Tryd.func4.symm.trans hfn)).symm
  refine ⟨by kernel_rfl, fun j t ht => ?_⟩
  rw [Tryd.params4] at ht
  obtain rfl | rfl | rfl : t = 22 ∨ t = 9 ∨ t = 9 := by simpa using Array.mem_of_getElem? ht
  · exact (show Tryd.prog.wantsStandIn 22 = false by kernel_rfl)
  · exact (show Tryd.prog.wantsStandIn 9 = false by kernel_rfl)
  · exact (show Tryd.prog.wantsStandIn 9 = false by kernel_rfl)
theorem card : Rows.LexisJoinsCardSaid :=
  Claim7.holds_tied_plain_at .later [] _ _ _ _ said (fun _ h => by cases h) (by kernel_rfl) (fun _ h => by cases h) lexisJoins_row_tie rfl ⟨rfl, rfl⟩ (by kernel_rfl) rfl plain (by kernel_rfl)
#print axioms card
end Go.Proofs.YthcllibbaindbaaDoor.lexisJoins
namespace Go.Proofs.YthcllibbaindbaaDoor
/-- The card, under a short name, for the claim. -/
theorem lexisJoins_holds : Rows.LexisJoinsCardSaid := lexisJoins.card
end Go.Proofs.YthcllibbaindbaaDoor
