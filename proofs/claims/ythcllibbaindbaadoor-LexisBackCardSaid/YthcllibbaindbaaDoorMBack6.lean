/- LexisBack's plain statement: the tokens of the text of tokens are these, with any blanks between. LexisBack: the tokens of the text of tokens are these, with any blanks between; for every list of numbers and every list of tokens. -/
import Derived.Test.YthcllibbaindbaaDoorMBack4
import Derived.Test.YthcllibbaindbaaDoorMBack5
import Derived.Test.YthcllibbaindbaaDoorRows
import Derived.Test.YthcllibbaindbaaDoorCards
import Derived.Test.YthcllibbaindbaaDoorTie
import Derived.WalkKit
import Derived.ProofKit
import Derived.OpenShut
import Derived.ShutString
import Derived.ChangeOld
import Derived.Below
import Derived.SizedLaws
import Derived.Deep.DeepHandedRow
import Derived.Test.YthcllibbaindbaaDoorWSized
import Derived.Test.YthcllibbaindbaaDoorMBack0
import Derived.Test.YthcllibbaindbaaDoorMBack2
namespace Go.Proofs.YthcllibbaindbaaDoor.Px
open Go.RowKit Go.Proofs.YthcllibbaindbaaDoorW.PrintWords Go.Proofs.YthcllibbaindbaaDoorW.PrintLast Go.Proofs.YthcllibbaindbaaDoorW.PrintMore

def proofprogramslaw14_LexisBack.Pure : Prop := ∀ (l0 : List Int) (l1 : List S35), ∃ k, proofprogramslaw14_LexisBack.f k l0 l1 = some true

theorem tokR_wide {own : List S35} {bs b : List UInt8} (hb : joinF none own = some bs) (hw : Wide bs b) (hl : own.length ≤ 300) (hbl : bs.length ≤ 5400) : ∃ ts, tokR (32 :: b) = (ts, 0) ∧ SameT ts own := by
  have h1 := hw.len
  have h2 := specials_join own none bs hb
  obtain ⟨ts, i1, i2⟩ := scan_wide own none 1 bs b b.length hb hw (Nat.le_refl _)
  refine ⟨ts, ?_, i2⟩
  unfold tokR
  rw [List.length_cons, if_neg (by omega), scan, List.length_cons, scanF, if_pos (.inl rfl)]
  have e : (0 : Int) + 1 = 1 := rfl
  rw [e, i1, outT]
  simp only [List.length_nil, Nat.zero_add, List.nil_append]
  rw [i2.len, if_neg (by omega)]

theorem specials_le (l : List UInt8) : specials l ≤ l.length := List.length_filter_le _ _

set_option maxHeartbeats 1000000 in
theorem back_loop (own : List S35) (hv : Valid own) (hol : own.length ≤ 300) (bs : List UInt8) (hb : joinF none own = some bs) (hbl : bs.length ≤ 5400) (s : ByteArray) (hs : s.data.toList = bs) (m : List S35) (hm : SameT m own) (l : List Int) (hl : l.length ≤ 1000) :
    ∀ (d i : Nat) (pos : Int) (wide : ByteArray) (b : List UInt8), i + d = bs.length → wide.data.toList = 32 :: b → Wide (bs.take i) b → (0 ≤ pos ∧ pos ≤ l.length) →
      Ev (fun k => proofprogramslaw14_LexisBack.l1 k own s 0 m 0 wide (i : Int) l pos) true
  | 0, i, pos, wide, b, hd, hwd, hw, hp => by
    have hsz : s.size = bs.length := by rw [← len_data, hs]
    refine Ev.step (f := _) (fun k => by rw [proofprogramslaw14_LexisBack.l1]) (evn (by omega) ?_)
    rw [List.take_of_length_le (by omega)] at hw
    obtain ⟨ts, ht, hsm⟩ := tokR_wide hb hw hol hbl
    have he := Tokens_ev wide
    rw [hwd, ht] at he
    have htx : textR own = (s, 0) := by
      rw [textR_eq, if_neg (by omega), endR, hb]
      show ((⟨bs.toArray⟩ : ByteArray), (0 : Int)) = (s, 0)
      rw [← hs, mk_data]
    refine Ev.bind he ?_
    rw [text_f (hsm.valid hv), hsm.text, htx]
    simp only [Option.bind_some]
    refine evp trivial (evp trivial (evp trivial (evp trivial (Ev.bind (same_ev hm (by have := hm.len; omega)) (evp rfl (Ev.bind (same_ev hsm (by have := hsm.len; omega)) (evp rfl ?_)))))))
    rw [beq_self_eq_true]
    exact Ev.now _
  | d + 1, i, pos, wide, b, hd, hwd, hw, hp => by
    have hsz : s.size = bs.length := by rw [← len_data, hs]
    have hi : i < s.size := by omega
    have hc : bs[i]? = some (s.get! i) := by rw [← hs]; exact toList_at s i hi
    have hbt : bt s (i : Int) = ((s.get! i).toNat : Int) := bt_get _ i hi
    generalize s.get! i = c at hc hbt
    have hwl : wide.size ≤ 20000 := by
      have h1 := hw.len
      have h2 := specials_le (bs.take i)
      rw [List.length_take] at h1 h2
      rw [← len_data, hwd, List.length_cons]
      omega
    have hx : (s.extract (i : Int).toNat ((i : Int) + 1).toNat).data.toList = [c] := by
      rw [Lib.extract_data]
      have e1 : ((i : Int) + 1).toNat - (i : Int).toNat = 1 := by omega
      rw [e1, Int.toNat_natCast]
      rw [hs]
      obtain ⟨hlt, e⟩ := List.getElem?_eq_some_iff.1 hc
      rw [List.drop_eq_getElem_cons hlt, e]; rfl
    generalize hxe : s.extract (i : Int).toNat ((i : Int) + 1).toNat = x at hx
    have hxs : x.size = 1 := by rw [← len_data, hx]; rfl
    have htk : bs.take (i + 1) = bs.take i ++ [c] := by rw [List.take_add_one, hc]; rfl
    have w1 : wrap64 ((i : Int) + 1) = ((i + 1 : Nat) : Int) := by rw [wrap_id (by omega) (by omega)]; omega
    have z1 : (i : Int) < (s.size : Int) := Int.ofNat_lt.2 hi
    have z2 : (0 : Int) ≤ (i : Int) := Int.natCast_nonneg i
    have z3 : (i : Int) ≤ ((i + 1 : Nat) : Int) := Int.ofNat_le.2 (Nat.le_succ i)
    have z4 : ((i + 1 : Nat) : Int) ≤ (s.size : Int) := Int.ofNat_le.2 hi
    have z5 : wide.size + x.size ≤ 9223372036854775807 := Nat.le_trans (Nat.add_le_add hwl (Nat.le_of_eq hxs)) (by decide)
    have ei : ((i + 1 : Nat) : Int) = (i : Int) + 1 := rfl
    have b32 := byte_eq c 32 (by decide)
    have b40 := byte_eq c 40 (by decide)
    have b41 := byte_eq c 41 (by decide)
    have go : ∀ (z : ByteArray) (q : Int), z.data.toList.all isSp = true → z.data.toList.length ≤ 2 → (special c = true ∨ z.data.toList = []) → (0 ≤ q ∧ q ≤ l.length) →
        Ev (fun k => proofprogramslaw14_LexisBack.l1 k own s 0 m 0 ((wide ++ x) ++ z) ((i + 1 : Nat) : Int) l q) true := by
      intro z q h1 h2 h3 hq
      refine back_loop own hv hol bs hb hbl s hs m hm l hl d (i + 1) q _ (b ++ c :: z.data.toList) (by omega) ?_ ?_ hq
      · rw [Go.Joins.data_append, Go.Joins.data_append, hwd, hx]; simp
      · rw [htk]; exact hw.snoc c _ h1 h2 h3
    have opts : special c = true → ∃ v p2, proofprogramsmake_Deck_Next.f l pos 4 = some (v, p2) ∧ 0 ≤ v ∧ v < (([(⟨#[32]⟩ : ByteArray), (⟨#[10]⟩ : ByteArray), (⟨#[]⟩ : ByteArray), (⟨#[32, 32]⟩ : ByteArray)] : List ByteArray).length : Int) ∧
        (wide ++ x).size + (rdOf ByteArray.empty ([(⟨#[32]⟩ : ByteArray), (⟨#[10]⟩ : ByteArray), (⟨#[]⟩ : ByteArray), (⟨#[32, 32]⟩ : ByteArray)] : List ByteArray) v).size ≤ 9223372036854775807 ∧
        Ev (fun k => proofprogramslaw14_LexisBack.l1 k own s 0 m 0 ((wide ++ x) ++ (rdOf ByteArray.empty ([(⟨#[32]⟩ : ByteArray), (⟨#[10]⟩ : ByteArray), (⟨#[]⟩ : ByteArray), (⟨#[32, 32]⟩ : ByteArray)] : List ByteArray) v)) ((i + 1 : Nat) : Int) l p2) true := by
      intro hsp
      obtain ⟨v, p2, hn, h0, h1, h2⟩ := Next_f l pos 4 (by omega) (by omega) hp hl
      have hmem := rdOf_mem ByteArray.empty ([(⟨#[32]⟩ : ByteArray), (⟨#[10]⟩ : ByteArray), (⟨#[]⟩ : ByteArray), (⟨#[32, 32]⟩ : ByteArray)] : List ByteArray) v h0 (by simpa using h1)
      have hall : ∀ z ∈ ([(⟨#[32]⟩ : ByteArray), (⟨#[10]⟩ : ByteArray), (⟨#[]⟩ : ByteArray), (⟨#[32, 32]⟩ : ByteArray)] : List ByteArray), z.data.toList.all isSp = true ∧ z.data.toList.length ≤ 2 := by decide
      obtain ⟨g1, g2⟩ := hall _ hmem
      refine ⟨v, p2, hn, h0, by simpa using h1, ?_, go _ p2 g1 g2 (.inl hsp) h2⟩
      rw [ByteArray.size_append, hxs]
      rw [len_data] at g2
      omega
    refine Ev.step (f := _) (fun k => by rw [proofprogramslaw14_LexisBack.l1]) (evp z1 (evp z2 ?_))
    rw [w1]
    refine evp z3 (evp z4 ?_)
    rw [show (s.extract (i : Int).toNat ((i + 1 : Nat) : Int).toNat) = x from by rw [ei]; exact hxe, hbt]
    refine evp z5 ?_
    by_cases c32 : (c.toNat : Int) = 32
    · obtain ⟨v, p2, hn, h0, h1, h2, h3⟩ := opts (by rw [b32.1 c32]; decide)
      refine evp c32 ?_
      simp only [Option.bind_some]
      rw [hn]
      simp only [Option.bind_some]
      exact evp h0 (evp h1 (evp h2 h3))
    · refine evn c32 ?_
      by_cases c40 : (c.toNat : Int) = 40
      · obtain ⟨v, p2, hn, h0, h1, h2, h3⟩ := opts (by rw [b40.1 c40]; decide)
        refine evp c40 ?_
        simp only [Option.bind_some]
        rw [hn]
        simp only [Option.bind_some]
        exact evp h0 (evp h1 (evp h2 h3))
      · refine evn c40 ?_
        by_cases c41 : (c.toNat : Int) = 41
        · obtain ⟨v, p2, hn, h0, h1, h2, h3⟩ := opts (by rw [b41.1 c41]; decide)
          refine evp c41 ?_
          simp only [Option.bind_some]
          rw [hn]
          simp only [Option.bind_some]
          exact evp h0 (evp h1 (evp h2 h3))
        · refine evn c41 ?_
          have := go ⟨#[]⟩ pos rfl (by decide) (.inr rfl) hp
          have e : (wide ++ x) ++ (⟨#[]⟩ : ByteArray) = wide ++ x := by
            rw [← mk_data ((wide ++ x) ++ (⟨#[]⟩ : ByteArray)), Go.Joins.data_append]
            show (⟨((wide ++ x).data.toList ++ []).toArray⟩ : ByteArray) = _
            rw [List.append_nil, mk_data]
          rw [e] at this
          exact this

theorem back_own (l1 : List S35) (h1 : l1.length ≤ 300) (l : List Int) (hl : l.length ≤ 1000) (pos : Int) (hp : 0 ≤ pos ∧ pos ≤ l.length) : ∀ (d : Nat) (i : Int) (xs : List S35), 0 ≤ i → (l1.length : Int) - i = d → Valid xs → (xs.length : Int) = i →
    Ev (fun k => proofprogramslaw14_LexisBack.l0 k xs l1 (l1.length : Int) i l pos) true
  | 0, i, xs, h0, hd, hv, hx => by
    refine Ev.step (f := _) (fun k => by rw [proofprogramslaw14_LexisBack.l0]) (evn (by omega) ?_)
    obtain ⟨bs, hb, hn⟩ := join_valid xs none hv
    have htx : textR xs = (⟨bs.toArray⟩, 0) := by rw [textR_eq, if_neg (by omega), endR, hb]
    rw [text_f hv, htx]
    simp only [Option.bind_some]
    have htok : tokR (⟨bs.toArray⟩ : ByteArray).data.toList = (putP none 0 xs, 0) := tokR_join (bs := bs) hb (by omega) (by omega)
    have he := Tokens_ev (⟨bs.toArray⟩ : ByteArray)
    rw [htok] at he
    refine Ev.bind he ?_
    exact back_loop xs hv (by omega) bs hb (by omega) ⟨bs.toArray⟩ rfl (putP none 0 xs) (putP_same xs none 0) l hl bs.length 0 pos ⟨#[32]⟩ [] (by omega) rfl Wide.nil hp
  | d + 1, i, xs, h0, hd, hv, hx => by
    have hw : wrap64 (i + 1) = i + 1 := wrap_id (by omega) (by omega)
    have go : ∀ (t : S35) (s : List UInt8), txtO t = some s → Ev (fun k => if xs.length < 3518437208883 then (proofprogramslaw14_LexisBack.l0 k (xs ++ [t]) l1 (l1.length : Int) (wrap64 (i + 1)) l pos) else none) true := by
      intro t s ht
      rw [hw]
      exact evp (by omega) (back_own l1 h1 l hl pos hp d (i + 1) (xs ++ [t]) (by omega) (by omega) (valid_app hv ht) (by rw [List.length_append]; simp; omega))
    obtain ⟨v, hm, v0, v1⟩ := Mod_f (rd_T35 l1 i).f0 5 (by omega) (by omega)
    have hk : wrap64 (1 + v) = 1 + v := wrap_id (by omega) (by omega)
    refine Ev.step (f := _) (fun k => by rw [proofprogramslaw14_LexisBack.l0]) (evp (by omega) (evp h0 (evp (by omega) ?_)))
    rw [hm]
    simp only [Option.bind_some]
    rw [hk]
    by_cases h3 : 1 + v = 3
    · refine evp h3 ?_
      obtain ⟨j, hj, j0, j1⟩ := Mod_f (rd_T35 l1 i).f1 5 (by omega) (by omega)
      rw [hj]
      simp only [Option.bind_some]
      have hmem := rdOf_mem ByteArray.empty [(⟨#[97]⟩ : ByteArray), (⟨#[115, 117, 99, 99]⟩ : ByteArray), (⟨#[120, 121]⟩ : ByteArray), (⟨#[120]⟩ : ByteArray), (⟨#[101, 113]⟩ : ByteArray)] j j0 (by simpa using j1)
      have hok : ∀ b ∈ [(⟨#[97]⟩ : ByteArray), (⟨#[115, 117, 99, 99]⟩ : ByteArray), (⟨#[120, 121]⟩ : ByteArray), (⟨#[120]⟩ : ByteArray), (⟨#[101, 113]⟩ : ByteArray)], nameOk b.data.toList = true := by decide
      exact evp j0 (evp (by simpa using j1) (go _ _ (txt3 h3 (hok _ hmem))))
    · refine evn h3 ?_
      by_cases h4 : 1 + v = 4
      · refine evp h4 ?_
        obtain ⟨j, hj, j0, j1⟩ := Mod_f (rd_T35 l1 i).f1 1000000 (by omega) (by omega)
        rw [hj]
        simp only [Option.bind_some]
        exact go _ _ (txt4 h4 j0 (by omega))
      · refine evn h4 ?_
        by_cases h5 : 1 + v = 5
        · refine evp h5 ?_
          obtain ⟨j, hj, j0, j1⟩ := Mod_f (rd_T35 l1 i).f1 1000000 (by omega) (by omega)
          rw [hj]
          simp only [Option.bind_some]
          exact go _ _ (txt5 h5 j0 (by omega))
        · refine evn h5 ?_
          by_cases e1 : 1 + v = 1
          · exact go _ _ (txt1 e1)
          · exact go _ _ (txt2 (by omega))

theorem PureLexisBack : proofprogramslaw14_LexisBack.Pure := by
  intro l0 l1
  refine Ev.rounds (g := fun k => proofprogramslaw14_LexisBack.f k l0 l1) (r := true) ?_
  unfold proofprogramslaw14_LexisBack.f
  refine Ev.bind sane_ev (evp rfl ?_)
  simp only [proofprogramsmake_Few.f, Option.bind_some]
  have j : ∀ b : Bool, (b = false → l0.length ≤ 500 ∧ l1.length ≤ 300) → Ev (fun k => proofprogramslaw14_LexisBack.j0 k l0 l1 b) true := by
    intro b hb
    refine Ev.step (f := _) (fun k => by rw [proofprogramslaw14_LexisBack.j0]) ?_
    cases b with
    | true => exact evp rfl (Ev.now _)
    | false =>
      obtain ⟨b1, b2⟩ := hb rfl
      refine evn (by simp) ?_
      simp only [proofprogramsmake_New.f, Option.bind_some]
      exact back_own l1 b2 l0 (by omega) 0 (by omega) l1.length 0 [] (by omega) (by omega) (fun _ h => by cases h) rfl
  by_cases hf : (l0.length : Int) ≤ 500
  · exact evp (by simpa using hf) (j _ (fun h => by
      have : ¬ (l1.length : Int) > 300 := by simpa using h
      omega))
  · exact evn (by simpa using hf) (j true (fun h => by cases h))

theorem proofprogramslaw14_LexisBack.walk (P : proofprogramslaw14_LexisBack.Pure) (a0 : Option Addr) (len0 cap0 : Nat) (z0 : List Int) (A1 : Option Addr) (c1 : Nat) (l1 : List S35) (w : World) (w0 : (a0 = none ∧ len0 = 0 ∧ cap0 = 0 ∧ z0 = []) ∨ ∃ x, a0 = some x ∧ len0 ≤ cap0 ∧ cap0 ≤ maxLen ∧ z0.length = cap0 ∧ (∀ i, i < z0.length → w.cell? (x.add i) = some (.int .i64 (z0.getD i 0))) ∧ ∀ n ∈ z0, (Lit.int .i64 n).wf = true) (_y0 : len0 * 8 ≤ 140737488351232) (hc1 : l1.length ≤ c1) (hr1 : Kd.C k35 w A1 l1.length l1) (hLaid : Laid w) :
    Calls Tryd.prog 7 #[.slice a0 len0 cap0, .slice A1 l1.length c1] w fun e w' => e = .returned (.bool true) ∧ Below w.heap.size w w' := by
  obtain ⟨l0, rfl, hr0, _, _, hc0⟩ := ReadsInt.ofRowC w0
  obtain ⟨k, h⟩ := P l0 l1
  refine (proofprogramslaw14_LexisBack.calls k _ _ l0 _ _ l1 true w (Kd.C_of_reads (d := (0 : Int)) (h1 := fun _ => rfl) hr0) hc0 hr1 hc1 hLaid h).mono ?_
  rintro e w' ⟨rfl, hd⟩
  exact ⟨rfl, hd⟩

end Go.Proofs.YthcllibbaindbaaDoor.Px
namespace Go.Proofs.YthcllibbaindbaaDoor.lexisBack
open Go.ChangeShapes Go.WideShapes Go.ChangeAt Go.RowKit
open Go.ChangeMaps (open_string shut_string)
set_option linter.unusedVariables false
theorem own : ownKnob Tryd.prog.godebug = none := by kernel_rfl
theorem laidOut : laidOutB Tryd.prog = true := by kernel_rfl
def IsRow (k : IntKind) (w : World) (a : Option Addr) (len cap : Nat) (zs : List Int) : Prop :=
  (a = none ∧ len = 0 ∧ cap = 0 ∧ zs = []) ∨
  ∃ x, a = some x ∧ len ≤ cap ∧ cap ≤ maxLen ∧ zs.length = cap ∧ (∀ i, i < zs.length → w.cell? (x.add i) = some (.int k (zs.getD i 0))) ∧ ∀ n ∈ zs, (Lit.int k n).wf = true
theorem reads (os : Os) {H : Type} (enc : TypeId × Value → H) : ∃ places, DataW.whole enc Tryd.prog ((laidWorld os).forCall (fun _ _ => 0) ⟨#[], #[.slice none 0 0, .slice none 0 0], []⟩).memory Tryd.f7.params.toList Rows.lexisBackSpec.vars false (#[.slice none 0 0, .slice none 0 0] : Array Value).toList 8 = some ([.nil, .nil], [], places) :=
  ⟨[], by kernel_rfl⟩
set_option maxRecDepth 100000 in
theorem lifted (os : Os) (started : os.Started) (H : Type) (enc : TypeId × Value → H) (F : Stop.Interp) :
    ReturnsInHanded {} Tryd.checked os 7 .any ((OpenSpec.ofChange Rows.lexisBackSpec).preRow enc Tryd.prog Tryd.f7 Rows.lexisBackRow.domain false Rows.lexisBackRow.laid) (((OpenSpec.ofChange Rows.lexisBackSpec).at F).post enc Tryd.prog Tryd.f7 false true false false) := by
  obtain ⟨places, hx⟩ := reads os enc
  refine returnsInHanded_of_row (C := Tryd.checked) (s := OpenSpec.ofChange Rows.lexisBackSpec) own started (by kernel_rfl) Tryd.func7
    (witness_row_at (enc := enc) (C := Tryd.checked) false (laidWorld os) #[.slice none 0 0, .slice none 0 0] rfl (by kernel_rfl) (by kernel_rfl) (by kernel_rfl)
      (OpenSpec.preRow_of_cond 8 hx (by kernel_rfl) (fun k hk => by cases hk) (by kernel_rfl) (laid_met os _))) ?_
  intro W base args ds gs before hval0 hW hcnd _ hsz0 hL _ _
  have hlaid : Laid W := laid_of hL
  clear hL
  have hsz : (DataW.weightsEach Tryd.prog (Tryd.f7.params.toList ++ Rows.lexisBackSpec.plain.varTypes Tryd.prog) (ds ++ gs)).all (· ≤ reachBytes) = true := hsz0
  have hval : ∀ (j : Nat) t v, Tryd.f7.params[j]? = some t → args[j]? = some v → Value.okWide Tryd.prog W .any base t v := hval0
  have hW' := hW
  obtain ⟨p, q, hA0, hV, rfl, hfz, hnd⟩ := hW
  have hA : DataW.TrodAll enc Tryd.prog W 0 (fun _ => true) true Tryd.f7.params.toList args.toList ds p := hA0
  rw [Tryd.params7] at hA hval hsz
  obtain ⟨v0, vs0, d0, ds0, p0, q0, hargs, rfl, rfl, h0, r0⟩ := trodAll_cons hA
  obtain ⟨v1, vs1, d1, ds1, p1, q1, rfl, rfl, rfl, h1, r1⟩ := trodAll_cons r0
  obtain ⟨rfl, rfl, rfl⟩ := trodAll_nil r1
  obtain rfl : args = #[v0, v1] := by cases args; simp_all
  obtain ⟨rfl, rfl⟩ := trodVars_none hV
  obtain ⟨a0, len0, cap0, rfl⟩ := okWide_slice Tryd.underlying22 (hval 0 22 v0 rfl rfl)
  have k0 := h0
  have lt0 : ∀ x ∈ p0, x.block < W.heap.size := by obtain ⟨m, hm⟩ := k0; exact DataW.trod_lt m _ _ _ hm
  obtain ⟨z0, w0⟩ : ∃ zs, IsRow .i64 W a0 len0 cap0 zs := by
    obtain ⟨fuel, hf⟩ := h0
    rcases open_ints Tryd.underlying22 Tryd.underlying3 (by kernel_rfl) hf with ⟨hcs, _⟩ | ⟨x, l, c, zs, hcs, _, hl, hm, hz, _, hcell, hwz⟩
    · simp [Value.cells] at hcs
      obtain ⟨rfl, rfl, rfl⟩ := hcs
      exact ⟨[], .inl ⟨rfl, rfl, rfl, rfl⟩⟩
    · simp [Value.cells] at hcs
      obtain ⟨rfl, rfl, rfl⟩ := hcs
      exact ⟨zs, .inr ⟨_, rfl, hl, hm, by simpa using hz, hcell, hwz⟩⟩
  have y0 : len0 * 8 ≤ 140737488351232 := YthcllibbaindbaaDoorW.PrintWords.sized_ints hsz (j := 0) (t := 22) rfl rfl Tryd.underlying22 Tryd.underlying3 (by kernel_rfl) (by kernel_rfl) h0
  obtain ⟨a1, len1, cap1, rfl⟩ := okWide_slice Tryd.underlying30 (hval 1 30 v1 rfl rfl)
  have k1 := h1
  have lt1 : ∀ x ∈ p1, x.block < W.heap.size := by obtain ⟨m, hm⟩ := k1; exact DataW.trod_lt m _ _ _ hm
  obtain ⟨z1, l1, c1, n1⟩ : ∃ xs : List Px.S35, xs.length ≤ cap1 ∧ YthcllibbaindbaaDoorW.PrintWords.Kd.C Px.k35 W a1 xs.length xs ∧ len1 = xs.length := by
    obtain ⟨fuel, hf⟩ := h1
    obtain ⟨A, c, xs, hcs, hl, hC⟩ := Px.open_tokens hf
    simp [Value.cells] at hcs
    obtain ⟨rfl, rfl, rfl⟩ := hcs
    exact ⟨xs, hl, hC, rfl⟩
  subst n1
  clear hA0 hval0 hsz0 hsz
  refine (Px.proofprogramslaw14_LexisBack.walk Px.PureLexisBack a0 len0 cap0 z0 a1 cap1 z1 W w0 y0 l1 c1 hlaid).mono fun e W' ⟨he, bel⟩ => ?_
  subst he
  exact ⟨_, rfl, _, _, _, [], _, [], hW', trodAll_mk1 (shut_bool Tryd.underlying4 _), (trodAll_cons_mk (Below.trod laidOut (by kernel_rfl) (of_decide_eq_true (by kernel_rfl)) k0 bel lt0) (trodAll_cons_mk (Below.trod laidOut (by kernel_rfl) (of_decide_eq_true (by kernel_rfl)) k1 bel lt1) trodAll_mk0)), rfl, bel.frame _, fun h => by cases h⟩
theorem said : Rows.LexisBackSaid :=
  OpenClaim.holds_of_cond 7 Tryd.f7 rfl rfl rfl rfl rfl rfl rfl ⟨rfl, rfl, rfl, rfl, rfl⟩ rfl rfl rfl rfl rfl (by kernel_rfl) Tryd.func7 (by kernel_rfl)
    (of_decide_eq_true (by kernel_rfl)) (by unfold Func.isWrapper; first | (rw [if_pos (by decide +kernel)]; kernel_rfl) | (rw [if_neg (by decide +kernel)]; exact ⟨rfl, rfl⟩))
    (fun os started H enc _ F => by rw [OpenClaim.pre_eq_preRow]; exact lifted os started H enc F)
theorem plain (f : FuncId) (fn : Func) (hf : Tryd.pinned.checked.prog.funcNamed "proofprograms/proofprogramslaw14.LexisBack" = some f) (hfn : Tryd.pinned.checked.prog.funcs[f]? = some fn) :
    true = Tryd.pinned.checked.prog.looks [] ∧ ∀ (j : Nat) t, fn.params[j]? = some t → Tryd.pinned.checked.prog.wantsStandIn t = false := by
  obtain rfl : f = 7 := Option.some.inj ((show Tryd.prog.funcNamed "proofprograms/proofprogramslaw14.LexisBack" = some 7 by kernel_rfl).symm.trans hf) |>.symm
  obtain rfl : fn = Tryd.f7 := (Option.some.inj (Tryd.func7.symm.trans hfn)).symm
  refine ⟨by kernel_rfl, fun j t ht => ?_⟩
  rw [Tryd.params7] at ht
  obtain rfl | rfl : t = 22 ∨ t = 30 := by simpa using Array.mem_of_getElem? ht
  · exact (show Tryd.prog.wantsStandIn 22 = false by kernel_rfl)
  · exact (show Tryd.prog.wantsStandIn 30 = false by kernel_rfl)
theorem card : Rows.LexisBackCardSaid :=
  Claim7.holds_tied_plain_at .later [] _ _ _ _ said (fun _ h => by cases h) (by kernel_rfl) (fun _ h => by cases h) lexisBack_row_tie rfl ⟨rfl, rfl⟩ (by kernel_rfl) rfl plain (by kernel_rfl)
#print axioms card
end Go.Proofs.YthcllibbaindbaaDoor.lexisBack
namespace Go.Proofs.YthcllibbaindbaaDoor
/-- The card, under a short name, for the claim. -/
theorem lexisBack_holds : Rows.LexisBackCardSaid := lexisBack.card
end Go.Proofs.YthcllibbaindbaaDoor
