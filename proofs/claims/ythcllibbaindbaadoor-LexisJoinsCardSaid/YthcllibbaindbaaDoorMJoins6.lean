/- Functions of the program as plain Lean functions, each with the proof that the code comes to them (by program). -/
import Derived.Test.YthcllibbaindbaaDoorMJoins1
import Derived.Test.YthcllibbaindbaaDoorMJoins4
import Derived.Test.YthcllibbaindbaaDoorMJoins2
import Derived.Test.YthcllibbaindbaaDoorMJoins5
namespace Go.Proofs.YthcllibbaindbaaDoor.Px
open Go.RowKit Go.Proofs.YthcllibbaindbaaDoorW.PrintWords Go.Proofs.YthcllibbaindbaaDoorW.PrintLast Go.Proofs.YthcllibbaindbaaDoorW.PrintMore
attribute [local go_sem] max2_int min2_int max_two min_two max_three min_three max_four min_four   -- for this text's walks alone
set_option linter.unusedVariables false
set_option linter.unusedSimpArgs false

/-! ### proofprogramslaw14_LexisJoins: function 4 -/
mutual
def proofprogramslaw14_LexisJoins.j0 : Nat → List Int → ByteArray → ByteArray → Bool → Option (Bool)
  | 0, _, _, _, _ => none
  | k + 1, x0, x1, x2, x29 => if x29 = true then (some true) else ((proofprogramsmake_New.f x0).bind fun bt254 => ((proofprogramslaw14_text.f k bt254.1 bt254.2).bind fun bt257 => ((some (([(⟨x1, x2⟩ : S39), (⟨bt257.1, bt257.1⟩ : S39), (⟨bt257.1, (⟨#[120, 49, 50, 32, 48]⟩ : ByteArray)⟩ : S39), (⟨(⟨#[97, 98, 99]⟩ : ByteArray), bt257.1⟩ : S39)] : List (S39)) : List (S39))).bind fun y259 => (proofprogramslaw14_LexisJoins.l0 k y259 (y259.length : Int) 0))))
def proofprogramslaw14_LexisJoins.l0 : Nat → List (S39) → Int → Int → Option (Bool)
  | 0, _, _, _ => none
  | k + 1, x44, x45, x46 => if x46 < x45 then (if 0 ≤ x46 then (if x46 < (x44.length : Int) then ((lexis_Tokens.f k ((rd_T39 x44 x46).f0)).bind fun bt264 => ((lexis_Tokens.f k ((rd_T39 x44 x46).f1)).bind fun bt268 => (if ((rd_T39 x44 x46).f0).size + 1 ≤ 9223372036854775807 then (if (((rd_T39 x44 x46).f0) ++ (⟨#[32]⟩ : ByteArray)).size + ((rd_T39 x44 x46).f1).size ≤ 9223372036854775807 then ((lexis_Tokens.f k ((((rd_T39 x44 x46).f0) ++ (⟨#[32]⟩ : ByteArray)) ++ ((rd_T39 x44 x46).f1))).bind fun bt272 => (if bt264.2 = 15 then (proofprogramslaw14_LexisJoins.j2 k bt264.1 bt264.2 bt268.1 bt268.2 bt272.1 bt272.2 x44 x45 x46 true) else (proofprogramslaw14_LexisJoins.j2 k bt264.1 bt264.2 bt268.1 bt268.2 bt272.1 bt272.2 x44 x45 x46 (bt268.2 == 15)))) else (none)) else (none)))) else (none)) else (none)) else (some true)
def proofprogramslaw14_LexisJoins.j2 : Nat → List (S35) → Int → List (S35) → Int → List (S35) → Int → List (S39) → Int → Int → Bool → Option (Bool)
  | 0, _, _, _, _, _, _, _, _, _, _ => none
  | k + 1, x11, x12, x13, x14, x15, x16, x44, x45, x46, x77 => if x77 = true then (if x16 = 15 then (proofprogramslaw14_LexisJoins.l0 k x44 x45 (wrap64 (x46 + 1))) else (if x16 = 3 then (proofprogramslaw14_LexisJoins.l0 k x44 x45 (wrap64 (x46 + 1))) else (some false))) else (if x16 = 3 then (proofprogramslaw14_LexisJoins.j3 k x11 x13 x15 x16 x44 x45 x46 true) else (if x12 = 0 then (proofprogramslaw14_LexisJoins.j3 k x11 x13 x15 x16 x44 x45 x46 (x14 != 0)) else (proofprogramslaw14_LexisJoins.j3 k x11 x13 x15 x16 x44 x45 x46 true)))
def proofprogramslaw14_LexisJoins.j3 : Nat → List (S35) → List (S35) → List (S35) → Int → List (S39) → Int → Int → Bool → Option (Bool)
  | 0, _, _, _, _, _, _, _, _ => none
  | k + 1, x11, x13, x15, x16, x44, x45, x46, x93 => if x93 = true then (proofprogramslaw14_LexisJoins.l0 k x44 x45 (wrap64 (x46 + 1))) else (if x16 = 0 then (if ([] : List (S35)).length + x11.length < 3518437208883 then ((some (([] : List (S35)) ++ x11 : List (S35))).bind fun y276 => (if y276.length + x13.length < 3518437208883 then ((lexis_Same.f k x15 (y276 ++ x13)).bind fun t282 => (if t282 = true then (proofprogramslaw14_LexisJoins.l0 k x44 x45 (wrap64 (x46 + 1))) else (some false))) else (none))) else (none)) else (some false))
end
def proofprogramslaw14_LexisJoins.f (k : Nat) (l0 : List Int) (a1 : ByteArray) (a2 : ByteArray) : Option (Bool) := (proofprogramslaw14_sane.f k).bind fun t252 => (if t252 = true then ((proofprogramsmake_Few.f l0).bind fun t253 => (if t253 = true then (proofprogramslaw14_LexisJoins.j0 k l0 a1 a2 (decide ((wrap64 ((a1.size : Int) + (a2.size : Int))) > 4000))) else (proofprogramslaw14_LexisJoins.j0 k l0 a1 a2 true))) else (some false))
theorem proofprogramslaw14_LexisJoins.mono_l : ∀ k, (∀ y0 y1 y2 y3, LeO (proofprogramslaw14_LexisJoins.j0 k y0 y1 y2 y3) (proofprogramslaw14_LexisJoins.j0 (k + 1) y0 y1 y2 y3)) ∧ (∀ y0 y1 y2, LeO (proofprogramslaw14_LexisJoins.l0 k y0 y1 y2) (proofprogramslaw14_LexisJoins.l0 (k + 1) y0 y1 y2)) ∧ (∀ y0 y1 y2 y3 y4 y5 y6 y7 y8 y9, LeO (proofprogramslaw14_LexisJoins.j2 k y0 y1 y2 y3 y4 y5 y6 y7 y8 y9) (proofprogramslaw14_LexisJoins.j2 (k + 1) y0 y1 y2 y3 y4 y5 y6 y7 y8 y9)) ∧ (∀ y0 y1 y2 y3 y4 y5 y6 y7, LeO (proofprogramslaw14_LexisJoins.j3 k y0 y1 y2 y3 y4 y5 y6 y7) (proofprogramslaw14_LexisJoins.j3 (k + 1) y0 y1 y2 y3 y4 y5 y6 y7))
  | 0 => ⟨fun _ _ _ _ r h => by simp [proofprogramslaw14_LexisJoins.j0] at h, fun _ _ _ r h => by simp [proofprogramslaw14_LexisJoins.l0] at h, fun _ _ _ _ _ _ _ _ _ _ r h => by simp [proofprogramslaw14_LexisJoins.j2] at h, fun _ _ _ _ _ _ _ _ r h => by simp [proofprogramslaw14_LexisJoins.j3] at h⟩
  | k + 1 => by
    obtain ⟨ih0, ih1, ih2, ih3⟩ := proofprogramslaw14_LexisJoins.mono_l k
    refine ⟨?_, ?_, ?_, ?_⟩
    · intro y0 y1 y2 y3
      unfold proofprogramslaw14_LexisJoins.j0
      repeat' first
      | (with_reducible exact ih0 _ _ _ _)
      | (with_reducible exact ih1 _ _ _)
      | (with_reducible exact ih2 _ _ _ _ _ _ _ _ _ _)
      | (with_reducible exact ih3 _ _ _ _ _ _ _ _)
      | (with_reducible exact lexis_Same.mono _ _ _)
      | (with_reducible exact lexis_Tokens.mono _ _)
      | (with_reducible exact proofprogramslaw14_sane.mono _)
      | (with_reducible exact proofprogramslaw14_text.mono _ _ _)
      | (with_reducible exact LeO.refl _)
      | (with_reducible exact LeO.none _)
      | (with_reducible refine LeO.ite ?_ ?_)
      | (with_reducible refine LeO.bind ?_ (fun _ => ?_))
      | exact ih0 _ _ _ _
      | exact ih1 _ _ _
      | exact ih2 _ _ _ _ _ _ _ _ _ _
      | exact ih3 _ _ _ _ _ _ _ _
      | exact lexis_Same.mono _ _ _
      | exact lexis_Tokens.mono _ _
      | exact proofprogramslaw14_sane.mono _
      | exact proofprogramslaw14_text.mono _ _ _
      | exact LeO.none _
      | refine LeO.ite ?_ ?_
      | refine LeO.bind ?_ (fun _ => ?_)
    · intro y0 y1 y2
      unfold proofprogramslaw14_LexisJoins.l0
      repeat' first
      | (with_reducible exact ih0 _ _ _ _)
      | (with_reducible exact ih1 _ _ _)
      | (with_reducible exact ih2 _ _ _ _ _ _ _ _ _ _)
      | (with_reducible exact ih3 _ _ _ _ _ _ _ _)
      | (with_reducible exact lexis_Same.mono _ _ _)
      | (with_reducible exact lexis_Tokens.mono _ _)
      | (with_reducible exact proofprogramslaw14_sane.mono _)
      | (with_reducible exact proofprogramslaw14_text.mono _ _ _)
      | (with_reducible exact LeO.refl _)
      | (with_reducible exact LeO.none _)
      | (with_reducible refine LeO.ite ?_ ?_)
      | (with_reducible refine LeO.bind ?_ (fun _ => ?_))
      | exact ih0 _ _ _ _
      | exact ih1 _ _ _
      | exact ih2 _ _ _ _ _ _ _ _ _ _
      | exact ih3 _ _ _ _ _ _ _ _
      | exact lexis_Same.mono _ _ _
      | exact lexis_Tokens.mono _ _
      | exact proofprogramslaw14_sane.mono _
      | exact proofprogramslaw14_text.mono _ _ _
      | exact LeO.none _
      | refine LeO.ite ?_ ?_
      | refine LeO.bind ?_ (fun _ => ?_)
    · intro y0 y1 y2 y3 y4 y5 y6 y7 y8 y9
      unfold proofprogramslaw14_LexisJoins.j2
      repeat' first
      | (with_reducible exact ih0 _ _ _ _)
      | (with_reducible exact ih1 _ _ _)
      | (with_reducible exact ih2 _ _ _ _ _ _ _ _ _ _)
      | (with_reducible exact ih3 _ _ _ _ _ _ _ _)
      | (with_reducible exact lexis_Same.mono _ _ _)
      | (with_reducible exact lexis_Tokens.mono _ _)
      | (with_reducible exact proofprogramslaw14_sane.mono _)
      | (with_reducible exact proofprogramslaw14_text.mono _ _ _)
      | (with_reducible exact LeO.refl _)
      | (with_reducible exact LeO.none _)
      | (with_reducible refine LeO.ite ?_ ?_)
      | (with_reducible refine LeO.bind ?_ (fun _ => ?_))
      | exact ih0 _ _ _ _
      | exact ih1 _ _ _
      | exact ih2 _ _ _ _ _ _ _ _ _ _
      | exact ih3 _ _ _ _ _ _ _ _
      | exact lexis_Same.mono _ _ _
      | exact lexis_Tokens.mono _ _
      | exact proofprogramslaw14_sane.mono _
      | exact proofprogramslaw14_text.mono _ _ _
      | exact LeO.none _
      | refine LeO.ite ?_ ?_
      | refine LeO.bind ?_ (fun _ => ?_)
    · intro y0 y1 y2 y3 y4 y5 y6 y7
      unfold proofprogramslaw14_LexisJoins.j3
      repeat' first
      | (with_reducible exact ih0 _ _ _ _)
      | (with_reducible exact ih1 _ _ _)
      | (with_reducible exact ih2 _ _ _ _ _ _ _ _ _ _)
      | (with_reducible exact ih3 _ _ _ _ _ _ _ _)
      | (with_reducible exact lexis_Same.mono _ _ _)
      | (with_reducible exact lexis_Tokens.mono _ _)
      | (with_reducible exact proofprogramslaw14_sane.mono _)
      | (with_reducible exact proofprogramslaw14_text.mono _ _ _)
      | (with_reducible exact LeO.refl _)
      | (with_reducible exact LeO.none _)
      | (with_reducible refine LeO.ite ?_ ?_)
      | (with_reducible refine LeO.bind ?_ (fun _ => ?_))
      | exact ih0 _ _ _ _
      | exact ih1 _ _ _
      | exact ih2 _ _ _ _ _ _ _ _ _ _
      | exact ih3 _ _ _ _ _ _ _ _
      | exact lexis_Same.mono _ _ _
      | exact lexis_Tokens.mono _ _
      | exact proofprogramslaw14_sane.mono _
      | exact proofprogramslaw14_text.mono _ _ _
      | exact LeO.none _
      | refine LeO.ite ?_ ?_
      | refine LeO.bind ?_ (fun _ => ?_)
theorem proofprogramslaw14_LexisJoins.mono : ∀ a0 a1 a2 k, LeO (proofprogramslaw14_LexisJoins.f k a0 a1 a2) (proofprogramslaw14_LexisJoins.f (k + 1) a0 a1 a2) := by
  intro a0 a1 a2 k
  obtain ⟨ih0, ih1, ih2, ih3⟩ := proofprogramslaw14_LexisJoins.mono_l k
  unfold proofprogramslaw14_LexisJoins.f
  repeat' first
      | (with_reducible exact ih0 _ _ _ _)
      | (with_reducible exact ih1 _ _ _)
      | (with_reducible exact ih2 _ _ _ _ _ _ _ _ _ _)
      | (with_reducible exact ih3 _ _ _ _ _ _ _ _)
      | (with_reducible exact lexis_Same.mono _ _ _)
      | (with_reducible exact lexis_Tokens.mono _ _)
      | (with_reducible exact proofprogramslaw14_sane.mono _)
      | (with_reducible exact proofprogramslaw14_text.mono _ _ _)
      | (with_reducible exact LeO.refl _)
      | (with_reducible exact LeO.none _)
      | (with_reducible refine LeO.ite ?_ ?_)
      | (with_reducible refine LeO.bind ?_ (fun _ => ?_))
      | exact ih0 _ _ _ _
      | exact ih1 _ _ _
      | exact ih2 _ _ _ _ _ _ _ _ _ _
      | exact ih3 _ _ _ _ _ _ _ _
      | exact lexis_Same.mono _ _ _
      | exact lexis_Tokens.mono _ _
      | exact proofprogramslaw14_sane.mono _
      | exact proofprogramslaw14_text.mono _ _ _
      | exact LeO.none _
      | refine LeO.ite ?_ ?_
      | refine LeO.bind ?_ (fun _ => ?_)
set_option maxHeartbeats 8000000 in
set_option maxRecDepth 100000 in
theorem proofprogramslaw14_LexisJoins.calls (k : Nat) (A0 : Option Addr) (c0 : Nat) (l0 : List Int) (a1 : ByteArray) (a2 : ByteArray) (r : Bool) (w : World) (hr0 : Kd.C (Kd.int .i64) w A0 l0.length l0) (hc0 : l0.length ≤ c0) (hLaid : Laid w) (h : proofprogramslaw14_LexisJoins.f k l0 a1 a2 = some r) :
    Calls Tryd.prog 4 #[.slice A0 l0.length c0, .string a1, .string a2] w fun e w' => e = .returned (.bool r) ∧ Below w.heap.size w w' := by
  have HLaid := Aside0.mk hLaid
  clear hLaid
  have hu39 := Tryd.underlying39
  have HR0 := Aside0.mk hr0
  have HC0 := Aside0.mk hc0
  clear hr0 hc0
  have HB := Aside0.mk (Below.refl w.heap.size w)
  have H : ((proofprogramslaw14_sane.f k).bind fun t252 => (if t252 = true then ((proofprogramsmake_Few.f l0).bind fun t253 => (if t253 = true then (proofprogramslaw14_LexisJoins.j0 k l0 a1 a2 (decide ((wrap64 ((a1.size : Int) + (a2.size : Int))) > 4000))) else (proofprogramslaw14_LexisJoins.j0 k l0 a1 a2 true))) else (some false))) = some r := h
  clear h
  replace H := Option.bind_eq_some_iff.mp H
  obtain ⟨t252, A40, H⟩ := H
  replace H : (if t252 = true then ((proofprogramsmake_Few.f l0).bind fun t253 => (if t253 = true then (proofprogramslaw14_LexisJoins.j0 k l0 a1 a2 (decide ((wrap64 ((a1.size : Int) + (a2.size : Int))) > 4000))) else (proofprogramslaw14_LexisJoins.j0 k l0 a1 a2 true))) else (some false)) = some r := H
  have A4 := Aside0.mk A40
  clear A40
  by_cases c5 : t252 = true
  · subst c5
    have H1 : ((proofprogramsmake_Few.f l0).bind fun t253 => (if t253 = true then (proofprogramslaw14_LexisJoins.j0 k l0 a1 a2 (decide ((wrap64 ((a1.size : Int) + (a2.size : Int))) > 4000))) else (proofprogramslaw14_LexisJoins.j0 k l0 a1 a2 true))) = some r := by rw [if_pos rfl] at H; exact H
    clear H
    have H := H1
    clear H1
    have HC6 := Aside0.mk H
    clear H
    go_enter Tryd.func4, Tryd.ntmps4
    go_upto_region 3 with (first | ((with_reducible refine gate_callee (f := 8) rfl ?_); refine goesL_ (some 17) rfl rfl Tryd.func8 (by kernel_rfl) rfl #[] rfl (by (try simp only [List.map_toArray, List.map_cons, List.map_nil]); first | done | rfl | (simp only [List.length_drop, List.length_take]; rfl)) ?_; (with_reducible refine (proofprogramslaw14_sane.calls k  true _ ?side1 A4.out).mono ?_); (case side1 => exact Laid.below HLaid.out (by repeat (first | (with_reducible first | exact HB.out | apply below_alloc | apply pw_below_drewN | apply below_drew1) | exact HB.out))); rintro e w7 ⟨rfl, hb⟩; refine ⟨_, rfl, ?_⟩; have n0_ := Aside0.mk (below_step (by repeat (first | (with_reducible first | exact HB.out | apply below_alloc | apply pw_below_drewN | apply below_drew1) | exact HB.out)) hb); clear HB; have HB := n0_; clear n0_; (try clear hb); (try clear hb2); (try clear hk); (try clear hi)))
    (try simp only [Act.put, List.setIfInBounds_toArray, List.set_cons_zero, List.set_cons_succ])
    go_cut [29] (fun v29 wc => ∃ (kq : Nat) (x29_5 : Bool), v29 = .bool x29_5 ∧ Aside0 (proofprogramslaw14_LexisJoins.j0 kq l0 a1 a2 x29_5 = some r) ∧ Aside0 (kq ≤ k) ∧ Aside0 (Below w.heap.size w wc))
    case first =>
      have H := HC6.out
      clear HC6
      replace H := Option.bind_eq_some_iff.mp H
      obtain ⟨t253, A80, H⟩ := H
      replace H : (if t253 = true then (proofprogramslaw14_LexisJoins.j0 k l0 a1 a2 (decide ((wrap64 ((a1.size : Int) + (a2.size : Int))) > 4000))) else (proofprogramslaw14_LexisJoins.j0 k l0 a1 a2 true)) = some r := H
      have A8 := Aside0.mk A80
      clear A80
      by_cases c9 : t253 = true
      · subst c9
        have H1 : (proofprogramslaw14_LexisJoins.j0 k l0 a1 a2 (decide ((wrap64 ((a1.size : Int) + (a2.size : Int))) > 4000))) = some r := by rw [if_pos rfl] at H; exact H
        clear H
        have H := H1
        clear H1
        have H' := Aside0.mk H
        clear H
        go_wp2_with (first | ((with_reducible refine gate_callee (f := 9) rfl ?_); refine goesL_ (some 20) rfl rfl Tryd.func9 (by kernel_rfl) rfl #[.slice A0 l0.length c0] rfl (by (try simp only [List.map_toArray, List.map_cons, List.map_nil]); first | done | rfl | (simp only [List.length_drop, List.length_take]; rfl)) ?_; (with_reducible refine (proofprogramsmake_Few.calls _ _ l0 true _ ?side1 ?side2 A8.out).mono ?_); (case side1 => repeat (first | exact (Kd.C_below HR0.out HB.out) | (with_reducible refine Kd.C_alloc ?_ _) | (with_reducible refine Kd.C_drewN ?_ _) | (with_reducible refine Kd.C_drew ?_))); (case side2 => exact HC0.out); rintro e w' ⟨rfl, ⟨nd, rfl⟩⟩; refine ⟨_, rfl, ?_⟩))
        go_meet
        case rel => exact ⟨_, (decide ((wrap64 ((a1.size : Int) + (a2.size : Int))) > 4000)), (by first | rfl | (simp; done) | (simp [*]; done) | (simp; generalize ByteArray.toList _ = l_; cases l_ <;> rfl)), H', ⟨by first | omega | exact Nat.le_refl _⟩, ⟨by repeat (first | (with_reducible first | exact HB.out | apply below_alloc | apply pw_below_drewN | apply below_drew1) | exact HB.out)⟩⟩
      · replace c9 := Bool.eq_false_iff.mpr c9
        subst c9
        have H1 : (proofprogramslaw14_LexisJoins.j0 k l0 a1 a2 true) = some r := by rw [if_neg (show ¬ (false = true) by decide)] at H; exact H
        clear H
        have H := H1
        clear H1
        have H' := Aside0.mk H
        clear H
        go_wp2_with (first | ((with_reducible refine gate_callee (f := 9) rfl ?_); refine goesL_ (some 20) rfl rfl Tryd.func9 (by kernel_rfl) rfl #[.slice A0 l0.length c0] rfl (by (try simp only [List.map_toArray, List.map_cons, List.map_nil]); first | done | rfl | (simp only [List.length_drop, List.length_take]; rfl)) ?_; (with_reducible refine (proofprogramsmake_Few.calls _ _ l0 false _ ?side1 ?side2 A8.out).mono ?_); (case side1 => repeat (first | exact (Kd.C_below HR0.out HB.out) | (with_reducible refine Kd.C_alloc ?_ _) | (with_reducible refine Kd.C_drewN ?_ _) | (with_reducible refine Kd.C_drew ?_))); (case side2 => exact HC0.out); rintro e w' ⟨rfl, ⟨nd, rfl⟩⟩; refine ⟨_, rfl, ?_⟩))
        go_meet
        case rel => exact ⟨_, (true), (by first | rfl | (simp; done) | (simp [*]; done) | (simp; generalize ByteArray.toList _ = l_; cases l_ <;> rfl)), H', ⟨by first | omega | exact Nat.le_refl _⟩, ⟨by repeat (first | (with_reducible first | exact HB.out | apply below_alloc | apply pw_below_drewN | apply below_drew1) | exact HB.out)⟩⟩
    case rest =>
      clear HC6
      try clear p2
      try clear c4
      try clear c5
      try clear p6
      try clear c8
      try clear c9
      obtain ⟨kq, x29_5, rfl, HA, HJ5, HB⟩ := hcut
      cases kq with
      | zero => exact absurd HA.out (by simp [proofprogramslaw14_LexisJoins.j0])
      | succ kj5 =>
        have H := HA.out
        clear HA
        simp only [proofprogramslaw14_LexisJoins.j0] at H
        by_cases c10 : x29_5 = true
        · subst c10
          have H1 : (some true) = some r := by rw [if_pos rfl] at H; exact H
          clear H
          have H := H1
          clear H1
          obtain rfl := Option.some.inj H
          go_wp2
          go_ret
          exact ⟨by first | rfl | (simp [errW_none, errW_some] <;> rfl) | (simp [*, errW_none, errW_some] <;> rfl), by repeat (first | (with_reducible first | exact HB.out | apply below_alloc | apply pw_below_drewN | apply below_drew1) | exact HB.out)⟩
        · replace c10 := Bool.eq_false_iff.mpr c10
          subst c10
          have H1 : ((proofprogramsmake_New.f l0).bind fun bt254 => ((proofprogramslaw14_text.f kj5 bt254.1 bt254.2).bind fun bt257 => ((some (([(⟨a1, a2⟩ : S39), (⟨bt257.1, bt257.1⟩ : S39), (⟨bt257.1, (⟨#[120, 49, 50, 32, 48]⟩ : ByteArray)⟩ : S39), (⟨(⟨#[97, 98, 99]⟩ : ByteArray), bt257.1⟩ : S39)] : List (S39)) : List (S39))).bind fun y259 => (proofprogramslaw14_LexisJoins.l0 kj5 y259 (y259.length : Int) 0)))) = some r := by rw [if_neg (show ¬ (false = true) by decide)] at H; exact H
          clear H
          have H := H1
          clear H1
          replace H := Option.bind_eq_some_iff.mp H
          obtain ⟨⟨t254, t255⟩, A110, H⟩ := H
          replace H : ((proofprogramslaw14_text.f kj5 t254 t255).bind fun bt257 => ((some (([(⟨a1, a2⟩ : S39), (⟨bt257.1, bt257.1⟩ : S39), (⟨bt257.1, (⟨#[120, 49, 50, 32, 48]⟩ : ByteArray)⟩ : S39), (⟨(⟨#[97, 98, 99]⟩ : ByteArray), bt257.1⟩ : S39)] : List (S39)) : List (S39))).bind fun y259 => (proofprogramslaw14_LexisJoins.l0 kj5 y259 (y259.length : Int) 0))) = some r := H
          have A11 := Aside0.mk A110
          clear A110
          replace H := Option.bind_eq_some_iff.mp H
          obtain ⟨⟨t257, t258⟩, A120, H⟩ := H
          replace H : ((some (([(⟨a1, a2⟩ : S39), (⟨t257, t257⟩ : S39), (⟨t257, (⟨#[120, 49, 50, 32, 48]⟩ : ByteArray)⟩ : S39), (⟨(⟨#[97, 98, 99]⟩ : ByteArray), t257⟩ : S39)] : List (S39)) : List (S39))).bind fun y259 => (proofprogramslaw14_LexisJoins.l0 kj5 y259 (y259.length : Int) 0)) = some r := H
          have A12 := Aside0.mk A120
          clear A120
          obtain ⟨y259, hy259⟩ : ∃ y_ : List (S39), y_ = (([(⟨a1, a2⟩ : S39), (⟨t257, t257⟩ : S39), (⟨t257, (⟨#[120, 49, 50, 32, 48]⟩ : ByteArray)⟩ : S39), (⟨(⟨#[97, 98, 99]⟩ : ByteArray), t257⟩ : S39)] : List (S39))) := ⟨_, rfl⟩
          replace H : (proofprogramslaw14_LexisJoins.l0 kj5 y259 (y259.length : Int) 0) = some r := by first | (rw [hy259]; with_reducible exact H) | (have H2_ := (Option.bind_some _ _).symm.trans H; rw [hy259]; with_reducible exact H2_) | (have H2_ := (Option.bind_some _ _).symm.trans H; with_reducible exact H2_) | with_reducible exact H | (rw [hy259]; exact H) | exact H
          have Ny259 := Aside0.mk hy259
          clear hy259
          have H' := Aside0.mk H
          clear H
          go_wp2_with (first | ((with_reducible refine gate_callee (f := 10) rfl ?_); refine goesL_ (some 31) rfl rfl Tryd.func10 (by kernel_rfl) rfl #[.slice A0 l0.length c0] rfl (by (try simp only [List.map_toArray, List.map_cons, List.map_nil]); first | done | rfl | (simp only [List.length_drop, List.length_take]; rfl)) ?_; (with_reducible refine (proofprogramsmake_New.calls _ _ l0 t254 t255 w _ ?side1 ?side2 ?side3 A11.out).mono ?_); (case side1 => repeat (first | (with_reducible first | exact HB.out | apply below_alloc | apply pw_below_drewN | apply below_drew1) | exact HB.out)); (case side2 => exact HR0.out); (case side3 => exact HC0.out); rintro e w13 ⟨g256, rfl, hi, hb, hb2⟩; refine ⟨_, rfl, ?_⟩; have n0_ := Aside0.mk (hb); have n1_ := Aside0.mk (hi); clear HB; have HB := n0_; have HI256 := n1_; clear n0_ n1_; (try clear hb); (try clear hb2); (try clear hk); (try clear hi)) | ((with_reducible refine gate_callee (f := 14) rfl ?_); refine goesL_ (some 33) rfl rfl Tryd.func14 (by kernel_rfl) rfl #[.pointer (some ⟨g256, 0, none⟩)] rfl (by (try simp only [List.map_toArray, List.map_cons, List.map_nil]); first | done | rfl | (simp only [List.length_drop, List.length_take]; rfl)) ?_; (with_reducible refine (proofprogramslaw14_text.calls kj5 g256 t254 t255 t257 t258 w _ ?side1 ?side2 A12.out).mono ?_); (case side1 => repeat (first | (with_reducible first | exact HI256.out | apply IsS50.alloc | apply IsS50.drewN | apply IsS50.drew | apply IsS50.set_1) | exact HI256.out)); (case side2 => repeat (first | (with_reducible first | exact HB.out | apply below_alloc | apply pw_below_drewN | apply below_drew1 | refine below_set ?_ (IsS50.ge HI256.out)) | exact HB.out)); rintro e w14 ⟨rfl, hi, hb, hk⟩; refine ⟨_, rfl, ?_⟩; have n0_ := Aside0.mk (hb); have n1_ := Aside0.mk (hi); clear HB; clear HI256; have HB := n0_; have HI256 := n1_; clear n0_ n1_; (try clear hb); (try clear hb2); (try clear hk); (try clear hi)) | ((with_reducible refine gate_dst (N := 44) rfl ?_); (try (refine gate_guard (by rfl) ?_; dsimp only)); refine Kd.R_lit k39 _ 39 ?hg (N := 44) ?hd (xs := ([(⟨a1, a2⟩ : S39), (⟨t257, t257⟩ : S39), (⟨t257, (⟨#[120, 49, 50, 32, 48]⟩ : ByteArray)⟩ : S39), (⟨(⟨#[97, 98, 99]⟩ : ByteArray), t257⟩ : S39)] : List (S39))) (inner := [.string a1, .string a2, .string t257, .string t257, .string t257, .string (⟨#[120, 49, 50, 32, 48]⟩ : ByteArray), .string (⟨#[97, 98, 99]⟩ : ByteArray), .string t257]) (ok := fun _ => True) (okp := fun _ => True) ?hr ?hp (fun _ hk => hk) trivial (Below.refl _ _) (Nat.le_refl _) (by simp) ?_; (case hd => rfl); (case hg => rfl); (case hr => first | (go_simp; done) | (go_simp; rfl)); (case hp => exact (Reps.c2 (show Kd.M k39 _ _ _ (⟨a1, a2⟩ : S39) [.string a1, .string a2] from (k39_mkM _ _ _ (⟨a1, a2⟩ : S39) )) (Reps.c2 (show Kd.M k39 _ _ _ (⟨t257, t257⟩ : S39) [.string t257, .string t257] from (k39_mkM _ _ _ (⟨t257, t257⟩ : S39) )) (Reps.c2 (show Kd.M k39 _ _ _ (⟨t257, (⟨#[120, 49, 50, 32, 48]⟩ : ByteArray)⟩ : S39) [.string t257, .string (⟨#[120, 49, 50, 32, 48]⟩ : ByteArray)] from (k39_mkM _ _ _ (⟨t257, (⟨#[120, 49, 50, 32, 48]⟩ : ByteArray)⟩ : S39) )) (Reps.c2 (show Kd.M k39 _ _ _ (⟨(⟨#[97, 98, 99]⟩ : ByteArray), t257⟩ : S39) [.string (⟨#[97, 98, 99]⟩ : ByteArray), .string t257] from (k39_mkM _ _ _ (⟨(⟨#[97, 98, 99]⟩ : ByteArray), t257⟩ : S39) )) (Reps.none _ _)))))); intro v260 w15 ho16 hb hg_ hnew_; clear hg_ hnew_; (first | rw [← Ny259.out] at ho16 | (simp only [Int.reduceToNat] at ho16; rw [← Ny259.out] at ho16)); have n0_ := Aside0.mk (Kd.R_lower ho16 (below_size (by repeat (first | (with_reducible first | exact HB.out | apply below_alloc | apply pw_below_drewN | apply below_drew1 | refine below_set ?_ (IsS50.ge HI256.out)) | exact HB.out)))); have n1_ := Aside0.mk (IsS50.below (by repeat (first | (with_reducible first | exact HI256.out | apply IsS50.alloc | apply IsS50.drewN | apply IsS50.drew | apply IsS50.set_1) | exact HI256.out)) hb); have n2_ := Aside0.mk (below_step (by repeat (first | (with_reducible first | exact HB.out | apply below_alloc | apply pw_below_drewN | apply below_drew1 | refine below_set ?_ (IsS50.ge HI256.out)) | exact HB.out)) hb); clear HI256; clear HB; have HO261 := n0_; have HI256 := n1_; have HB := n2_; clear n0_ n1_ n2_; clear hb ho16; obtain ⟨Ao17, co17, eo17⟩ := Kd.R_slice HO261.out; subst eo17))
          go_loopg [46] kj5 (fun kq v46 w' => ∃ (x46_2 : Int), v46 = .int .i64 x46_2 ∧ Aside0 (proofprogramslaw14_LexisJoins.l0 kq y259 (y259.length : Int) x46_2 = some r) ∧ Aside0 (kq ≤ kj5) ∧ Aside0 (Kd.R k39 39 w' w.heap.size (fun _ => True) (.slice Ao17 y259.length co17) y259) ∧ Aside0 (Below w.heap.size w w'))
          case atStart => exact ⟨(0), (by first | rfl | (simp; done) | (simp [*]; done) | (simp; generalize ByteArray.toList _ = l_; cases l_ <;> rfl)), H', ⟨Nat.le_refl _⟩, ⟨by (with_reducible repeat (first | apply Kd.R_alloc | apply Kd.R_drewN | apply Kd.R_drew)); exact HO261.out⟩, ⟨by repeat (first | (with_reducible first | exact HB.out | apply below_alloc | apply pw_below_drewN | apply below_drew1 | refine below_set ?_ (IsS50.ge HI256.out)) | exact HB.out)⟩⟩
          case round =>
            clear H'
            try clear c1
            try clear c2
            try clear p2
            try clear c4
            try clear c5
            try clear p6
            try clear c8
            try clear c9
            try clear c10
            try clear c14
            try clear p2
            try clear p6
            obtain ⟨x46_2, rfl, HA, HK2, HO_44, HB⟩ := hrel
            cases gk with
            | zero => exact absurd HA.out (by simp [proofprogramslaw14_LexisJoins.l0])
            | succ k2 =>
              have H := HA.out
              clear HA
              simp only [proofprogramslaw14_LexisJoins.l0] at H
              by_cases c18 : x46_2 < (y259.length : Int)
              · rw [if_pos c18] at H
                have c18b0 : decide (x46_2 < (y259.length : Int)) = true := decide_eq_true c18
                clear c18
                by_cases c19 : 0 ≤ x46_2
                · rw [if_pos c19] at H
                  have c19b0 : decide (0 ≤ x46_2) = true := decide_eq_true c19
                  clear c19
                  by_cases c20 : x46_2 < (y259.length : Int)
                  · rw [if_pos c20] at H
                    have c20b0 : decide (x46_2 < (y259.length : Int)) = true := decide_eq_true c20
                    clear c20
                    replace H := Option.bind_eq_some_iff.mp H
                    obtain ⟨⟨t264, t265⟩, A210, H⟩ := H
                    replace H : ((lexis_Tokens.f k2 ((rd_T39 y259 x46_2).f1)).bind fun bt268 => (if ((rd_T39 y259 x46_2).f0).size + 1 ≤ 9223372036854775807 then (if (((rd_T39 y259 x46_2).f0) ++ (⟨#[32]⟩ : ByteArray)).size + ((rd_T39 y259 x46_2).f1).size ≤ 9223372036854775807 then ((lexis_Tokens.f k2 ((((rd_T39 y259 x46_2).f0) ++ (⟨#[32]⟩ : ByteArray)) ++ ((rd_T39 y259 x46_2).f1))).bind fun bt272 => (if t265 = 15 then (proofprogramslaw14_LexisJoins.j2 k2 t264 t265 bt268.1 bt268.2 bt272.1 bt272.2 y259 (y259.length : Int) x46_2 true) else (proofprogramslaw14_LexisJoins.j2 k2 t264 t265 bt268.1 bt268.2 bt272.1 bt272.2 y259 (y259.length : Int) x46_2 (bt268.2 == 15)))) else (none)) else (none))) = some r := H
                    have A21 := Aside0.mk A210
                    clear A210
                    replace H := Option.bind_eq_some_iff.mp H
                    obtain ⟨⟨t268, t269⟩, A220, H⟩ := H
                    replace H : (if ((rd_T39 y259 x46_2).f0).size + 1 ≤ 9223372036854775807 then (if (((rd_T39 y259 x46_2).f0) ++ (⟨#[32]⟩ : ByteArray)).size + ((rd_T39 y259 x46_2).f1).size ≤ 9223372036854775807 then ((lexis_Tokens.f k2 ((((rd_T39 y259 x46_2).f0) ++ (⟨#[32]⟩ : ByteArray)) ++ ((rd_T39 y259 x46_2).f1))).bind fun bt272 => (if t265 = 15 then (proofprogramslaw14_LexisJoins.j2 k2 t264 t265 t268 t269 bt272.1 bt272.2 y259 (y259.length : Int) x46_2 true) else (proofprogramslaw14_LexisJoins.j2 k2 t264 t265 t268 t269 bt272.1 bt272.2 y259 (y259.length : Int) x46_2 (t269 == 15)))) else (none)) else (none)) = some r := H
                    have A22 := Aside0.mk A220
                    clear A220
                    by_cases c23 : ((rd_T39 y259 x46_2).f0).size + 1 ≤ 9223372036854775807
                    · rw [if_pos c23] at H
                      have c23b0 := eq_true c23
                      have c23b1 : decide (((rd_T39 y259 x46_2).f0).size + 1 ≤ 9223372036854775807) = true := decide_eq_true c23
                      try have c23b2 : (9223372036854775807 < ((rd_T39 y259 x46_2).f0).size + 1) = False := eq_false (Nat.not_lt.2 c23)
                      by_cases c24 : (((rd_T39 y259 x46_2).f0) ++ (⟨#[32]⟩ : ByteArray)).size + ((rd_T39 y259 x46_2).f1).size ≤ 9223372036854775807
                      · rw [if_pos c24] at H
                        have c24b0 := eq_true c24
                        have c24b1 : decide ((((rd_T39 y259 x46_2).f0) ++ (⟨#[32]⟩ : ByteArray)).size + ((rd_T39 y259 x46_2).f1).size ≤ 9223372036854775807) = true := decide_eq_true c24
                        try have c24b2 : (9223372036854775807 < (((rd_T39 y259 x46_2).f0) ++ (⟨#[32]⟩ : ByteArray)).size + ((rd_T39 y259 x46_2).f1).size) = False := eq_false (Nat.not_lt.2 c24)
                        replace H := Option.bind_eq_some_iff.mp H
                        obtain ⟨⟨t272, t273⟩, A250, H⟩ := H
                        replace H : (if t265 = 15 then (proofprogramslaw14_LexisJoins.j2 k2 t264 t265 t268 t269 t272 t273 y259 (y259.length : Int) x46_2 true) else (proofprogramslaw14_LexisJoins.j2 k2 t264 t265 t268 t269 t272 t273 y259 (y259.length : Int) x46_2 (t269 == 15))) = some r := H
                        have A25 := Aside0.mk A250
                        clear A250
                        have HC26 := Aside0.mk H
                        clear H
                        have p262 : 0 ≤ (x46_2 : Int) := of_decide_eq_true (by first | (with_reducible assumption) | assumption)
                        have q262 : x46_2 < (y259.length : Int) := of_decide_eq_true (by first | (with_reducible assumption) | assumption)
                        obtain ⟨ad262, e262, hx262_0, hx262_1⟩ := at_T39 (Kd.R_reads' HO_44.out).2.2 x46_2 p262 q262
                        cases e262
                        replace p262 := eq_true p262
                        replace q262 := eq_true q262
                        go_upto_region 13 with (first | ((with_reducible refine gate_dst (N := 10) rfl ?_); (try (refine gate_guard (by rfl) ?_; dsimp only)); refine box_event ?hg (N := 10) ?hd (cs := #[.string (⟨#[]⟩ : ByteArray), .string (⟨#[]⟩ : ByteArray)]) (t := 39) ?hr ?_; (case hd => rfl); (case hg => rfl); (case hr => first | (go_simp; done) | (go_simp; rfl)); intro gb263 hg w27 hbox hb; have n0_ := Aside0.mk (Kd.R_below (Kd.R_elderB (by (with_reducible repeat (first | apply Kd.R_alloc | apply Kd.R_drewN | apply Kd.R_drew)); exact HO_44.out) gb263 (Nat.le_of_eq hg.symm)) hb); have n1_ := Aside0.mk (below_step (by repeat (first | (with_reducible first | exact HB.out | apply below_alloc | apply pw_below_drewN | apply below_drew1) | exact HB.out)) hb); have n2_ := Aside0.mk (hbox); have n3_ := Aside0.mk ((by rw [hg]; exact (below_size (by repeat (first | (with_reducible first | exact HB.out | apply below_alloc | apply pw_below_drewN | apply below_drew1) | exact HB.out))) : w.heap.size ≤ gb263)); have n4_ := Aside0.mk ((by rw [hg]; exact (below_size (by repeat (first | (with_reducible first | exact HB.out | apply below_alloc | apply pw_below_drewN | apply below_drew1) | exact HB.out))) : w.heap.size ≤ gb263)); clear HO_44; clear HB; have HO_44 := n0_; have HB := n1_; have BK263 := n2_; have GW263 := n3_; have GE263 := n4_; clear n0_ n1_ n2_ n3_ n4_; clear hb hbox hg; have hcz28_0 : w27.cell? ⟨gb263, 0, none⟩ = some (.string (⟨#[]⟩ : ByteArray)) := (blk_cell BK263.out 0).trans rfl; have hcz28_1 : w27.cell? ⟨gb263, 1, none⟩ = some (.string (⟨#[]⟩ : ByteArray)) := (blk_cell BK263.out 1).trans rfl; have hfz28_0 := blk_frozen BK263.out 0; have hfz28_1 := blk_frozen BK263.out 1) | ((with_reducible refine gate_callee (f := 12) rfl ?_); refine goesL_ (some 53) rfl rfl Tryd.func12 (by kernel_rfl) rfl #[.string ((rd_T39 y259 x46_2).f0)] rfl (by (try simp only [List.map_toArray, List.map_cons, List.map_nil]); first | done | rfl | (simp only [List.length_drop, List.length_take]; rfl)) ?_; (with_reducible refine (lexis_Tokens.calls k2 ((rd_T39 y259 x46_2).f0) t264 t265 _ ?side1 A21.out).mono ?_); (case side1 => exact Laid.below HLaid.out (by repeat (first | (with_reducible first | exact HB.out | apply below_alloc | apply pw_below_drewN | apply below_drew1 | refine below_set ?_ GE263.out) | exact HB.out))); rintro e w29 ⟨v266, rfl, ho0, hb⟩; refine ⟨_, rfl, ?_⟩; have n0_ := Aside0.mk (Kd.R_below (by (with_reducible repeat (first | apply Kd.R_alloc | apply Kd.R_drewN | apply Kd.R_drew)); exact (Kd.R_mono (Kd.R_far (p := ⟨gb263, 1, none⟩) (Kd.R_far (p := ⟨gb263, 0, none⟩) (Kd.R_mono HO_44.out (fun k_ hk => (⟨hk, hk.2⟩ : _ ∧ k_ ≠ gb263))) (fun _ hk => hk.2) (.string ((rd_T39 y259 x46_2).f0))) (fun _ hk => hk.2) (.string ((rd_T39 y259 x46_2).f1))) (fun _ h_ => h_.1))) hb); have n1_ := Aside0.mk (Kd.R_lower ho0 (below_size (by repeat (first | (with_reducible first | exact HB.out | apply below_alloc | apply pw_below_drewN | apply below_drew1 | refine below_set ?_ GE263.out) | exact HB.out)))); have n2_ := Aside0.mk (blk_below (g := gb263) (o := .cells #[.string ((rd_T39 y259 x46_2).f0), .string ((rd_T39 y259 x46_2).f1)] 39 (0, 0)) (by (with_reducible repeat (first | refine blk_drewN ?_ _ | refine blk_drew ?_ | refine blk_alloc ?_ _)); refine blk_put (cs := #[.string ((rd_T39 y259 x46_2).f0), .string (⟨#[]⟩ : ByteArray)]) ?_ 1 _ rfl; (with_reducible repeat (first | refine blk_drewN ?_ _ | refine blk_drew ?_ | refine blk_alloc ?_ _)); refine blk_put (cs := #[.string (⟨#[]⟩ : ByteArray), .string (⟨#[]⟩ : ByteArray)]) ?_ 0 _ rfl; (with_reducible repeat (first | refine blk_drewN ?_ _ | refine blk_drew ?_ | refine blk_alloc ?_ _)); exact BK263.out) hb); have n3_ := Aside0.mk (below_step (by repeat (first | (with_reducible first | exact HB.out | apply below_alloc | apply pw_below_drewN | apply below_drew1 | refine below_set ?_ GE263.out) | exact HB.out)) hb); clear HO_44; clear BK263; clear HB; have HO_44 := n0_; have HO267 := n1_; have BK263 := n2_; have HB := n3_; clear n0_ n1_ n2_ n3_; (try clear hb); (try clear hb2); (try clear hk); (try clear hi); (try clear ho0); have hcz30_0 : w29.cell? ⟨gb263, 0, none⟩ = some (.string ((rd_T39 y259 x46_2).f0)) := (blk_cell BK263.out 0).trans rfl; have hcz30_1 : w29.cell? ⟨gb263, 1, none⟩ = some (.string ((rd_T39 y259 x46_2).f1)) := (blk_cell BK263.out 1).trans rfl; have hfz30_0 := blk_frozen BK263.out 0; have hfz30_1 := blk_frozen BK263.out 1) | ((with_reducible refine gate_callee (f := 12) rfl ?_); refine goesL_ (some 59) rfl rfl Tryd.func12 (by kernel_rfl) rfl #[.string ((rd_T39 y259 x46_2).f1)] rfl (by (try simp only [List.map_toArray, List.map_cons, List.map_nil]); first | done | rfl | (simp only [List.length_drop, List.length_take]; rfl)) ?_; (with_reducible refine (lexis_Tokens.calls k2 ((rd_T39 y259 x46_2).f1) t268 t269 _ ?side1 A22.out).mono ?_); (case side1 => exact Laid.below HLaid.out (by repeat (first | (with_reducible first | exact HB.out | apply below_alloc | apply pw_below_drewN | apply below_drew1 | refine below_set ?_ GE263.out) | exact HB.out))); rintro e w31 ⟨v270, rfl, ho0, hb⟩; refine ⟨_, rfl, ?_⟩; have n0_ := Aside0.mk (Kd.R_below (by (with_reducible repeat (first | apply Kd.R_alloc | apply Kd.R_drewN | apply Kd.R_drew)); exact HO_44.out) hb); have n1_ := Aside0.mk (Kd.R_elder' (by (with_reducible repeat (first | apply Kd.R_alloc | apply Kd.R_drewN | apply Kd.R_drew)); exact HO267.out) (Kd.R_base ho0) hb); have n2_ := Aside0.mk (Kd.R_lower (Kd.R_new' ho0 (Kd.R_lt (by (with_reducible repeat (first | apply Kd.R_alloc | apply Kd.R_drewN | apply Kd.R_drew)); exact HO267.out))) (below_size (by repeat (first | (with_reducible first | exact HB.out | apply below_alloc | apply pw_below_drewN | apply below_drew1 | refine below_set ?_ GE263.out) | exact HB.out)))); have n3_ := Aside0.mk (blk_below (g := gb263) (o := .cells #[.string ((rd_T39 y259 x46_2).f0), .string ((rd_T39 y259 x46_2).f1)] 39 (0, 0)) (by (with_reducible repeat (first | refine blk_drewN ?_ _ | refine blk_drew ?_ | refine blk_alloc ?_ _)); exact BK263.out) hb); have n4_ := Aside0.mk (below_step (by repeat (first | (with_reducible first | exact HB.out | apply below_alloc | apply pw_below_drewN | apply below_drew1 | refine below_set ?_ GE263.out) | exact HB.out)) hb); clear HO_44; clear HO267; clear BK263; clear HB; have HO_44 := n0_; have HO267 := n1_; have HO271 := n2_; have BK263 := n3_; have HB := n4_; clear n0_ n1_ n2_ n3_ n4_; (try clear hb); (try clear hb2); (try clear hk); (try clear hi); (try clear ho0); have hcz32_0 : w31.cell? ⟨gb263, 0, none⟩ = some (.string ((rd_T39 y259 x46_2).f0)) := (blk_cell BK263.out 0).trans rfl; have hcz32_1 : w31.cell? ⟨gb263, 1, none⟩ = some (.string ((rd_T39 y259 x46_2).f1)) := (blk_cell BK263.out 1).trans rfl; have hfz32_0 := blk_frozen BK263.out 0; have hfz32_1 := blk_frozen BK263.out 1) | ((with_reducible refine gate_callee (f := 12) rfl ?_); refine goesL_ (some 69) rfl rfl Tryd.func12 (by kernel_rfl) rfl #[.string ((((rd_T39 y259 x46_2).f0) ++ (⟨#[32]⟩ : ByteArray)) ++ ((rd_T39 y259 x46_2).f1))] rfl (by (try simp only [List.map_toArray, List.map_cons, List.map_nil]); first | done | rfl | (simp only [List.length_drop, List.length_take]; rfl)) ?_; (with_reducible refine (lexis_Tokens.calls k2 ((((rd_T39 y259 x46_2).f0) ++ (⟨#[32]⟩ : ByteArray)) ++ ((rd_T39 y259 x46_2).f1)) t272 t273 _ ?side1 A25.out).mono ?_); (case side1 => exact Laid.below HLaid.out (by repeat (first | (with_reducible first | exact HB.out | apply below_alloc | apply pw_below_drewN | apply below_drew1 | refine below_set ?_ GE263.out) | exact HB.out))); rintro e w33 ⟨v274, rfl, ho0, hb⟩; refine ⟨_, rfl, ?_⟩; have n0_ := Aside0.mk (Kd.R_below (by (with_reducible repeat (first | apply Kd.R_alloc | apply Kd.R_drewN | apply Kd.R_drew)); exact HO_44.out) hb); have n1_ := Aside0.mk (Kd.R_elder' (by (with_reducible repeat (first | apply Kd.R_alloc | apply Kd.R_drewN | apply Kd.R_drew)); exact HO267.out) (Kd.R_base ho0) hb); have n2_ := Aside0.mk (Kd.R_elder' (by (with_reducible repeat (first | apply Kd.R_alloc | apply Kd.R_drewN | apply Kd.R_drew)); exact HO271.out) (Kd.R_base ho0) hb); have n3_ := Aside0.mk (Kd.R_lower (Kd.R_new' (Kd.R_new' ho0 (Kd.R_lt (by (with_reducible repeat (first | apply Kd.R_alloc | apply Kd.R_drewN | apply Kd.R_drew)); exact HO267.out))) (Kd.R_lt (by (with_reducible repeat (first | apply Kd.R_alloc | apply Kd.R_drewN | apply Kd.R_drew)); exact HO271.out))) (below_size (by repeat (first | (with_reducible first | exact HB.out | apply below_alloc | apply pw_below_drewN | apply below_drew1 | refine below_set ?_ GE263.out) | exact HB.out)))); have n4_ := Aside0.mk (blk_below (g := gb263) (o := .cells #[.string ((rd_T39 y259 x46_2).f0), .string ((rd_T39 y259 x46_2).f1)] 39 (0, 0)) (by (with_reducible repeat (first | refine blk_drewN ?_ _ | refine blk_drew ?_ | refine blk_alloc ?_ _)); exact BK263.out) hb); have n5_ := Aside0.mk (below_step (by repeat (first | (with_reducible first | exact HB.out | apply below_alloc | apply pw_below_drewN | apply below_drew1 | refine below_set ?_ GE263.out) | exact HB.out)) hb); clear HO_44; clear HO267; clear HO271; clear BK263; clear HB; have HO_44 := n0_; have HO267 := n1_; have HO271 := n2_; have HO275 := n3_; have BK263 := n4_; have HB := n5_; clear n0_ n1_ n2_ n3_ n4_ n5_; (try clear hb); (try clear hb2); (try clear hk); (try clear hi); (try clear ho0)))
                        (try simp only [Act.put, List.setIfInBounds_toArray, List.set_cons_zero, List.set_cons_succ])
                        go_cut [77] (fun v77 wc => ∃ (kq : Nat) (x77_25 : Bool), v77 = .bool x77_25 ∧ Aside0 (proofprogramslaw14_LexisJoins.j2 kq t264 t265 t268 t269 t272 t273 y259 (y259.length : Int) x46_2 x77_25 = some r) ∧ Aside0 (kq ≤ k2) ∧ Aside0 (Kd.R k35 35 wc w.heap.size (fun k_ => some k_ ≠ (v270 : Value).ownBlock ∧ some k_ ≠ (v274 : Value).ownBlock) v266 t264) ∧ Aside0 (Kd.R k35 35 wc w.heap.size (fun k_ => some k_ ≠ (v266 : Value).ownBlock ∧ some k_ ≠ (v274 : Value).ownBlock) v270 t268) ∧ Aside0 (Kd.R k35 35 wc w.heap.size (fun k_ => some k_ ≠ (v266 : Value).ownBlock ∧ some k_ ≠ (v270 : Value).ownBlock) v274 t272) ∧ Aside0 (Kd.R k39 39 wc w.heap.size (fun k_ => k_ ≠ gb263) (.slice (some ad262) y259.length co17) y259) ∧ Aside0 (wc.heap[gb263]? = some (.cells #[.string ((rd_T39 y259 x46_2).f0), .string ((rd_T39 y259 x46_2).f1)] 39 (0, 0))) ∧ Aside0 (Below w.heap.size w wc))
                        case first =>
                          have H := HC26.out
                          clear HC26
                          by_cases c34 : t265 = 15
                          · rw [if_pos c34] at H
                            have c34b0 : (t265 == 15) = true := beq_iff_eq.mpr c34
                            have c34b1 : (t265 != 15) = false := bne_eq_false_iff_eq.mpr c34
                            clear c34
                            (first | rw [c34b0] | (simp only [i64_w, i32_w]; rw [c34b0]) | skip)
                            have H' := Aside0.mk H
                            clear H
                            go_wp2
                            go_meet
                            case rel => exact ⟨_, (true), (by first | rfl | (simp; done) | (simp [*]; done) | (simp; generalize ByteArray.toList _ = l_; cases l_ <;> rfl)), H', ⟨by have := HJ5.out; have := HK2.out; first | omega | exact Nat.le_refl _⟩, ⟨by (with_reducible repeat (first | apply Kd.R_alloc | apply Kd.R_drewN | apply Kd.R_drew)); exact Kd.R_mono HO267.out (fun _ hk => ⟨hk.1.2, hk.2⟩)⟩, ⟨by (with_reducible repeat (first | apply Kd.R_alloc | apply Kd.R_drewN | apply Kd.R_drew)); exact Kd.R_mono HO271.out (fun _ hk => ⟨hk.1.2, hk.2⟩)⟩, ⟨by (with_reducible repeat (first | apply Kd.R_alloc | apply Kd.R_drewN | apply Kd.R_drew)); exact Kd.R_mono HO275.out (fun _ hk => ⟨hk.1.2, hk.2⟩)⟩, ⟨by (with_reducible repeat (first | apply Kd.R_alloc | apply Kd.R_drewN | apply Kd.R_drew)); exact Kd.R_mono HO_44.out (fun _ hk => hk.2)⟩, ⟨by (with_reducible repeat (first | refine blk_drewN ?_ _ | refine blk_drew ?_ | refine blk_alloc ?_ _)); exact BK263.out⟩, ⟨by repeat (first | (with_reducible first | exact HB.out | apply below_alloc | apply pw_below_drewN | apply below_drew1 | refine below_set ?_ GE263.out) | exact HB.out)⟩⟩
                          · rw [if_neg c34] at H
                            have c34b0 : (t265 == 15) = false := beq_eq_false_iff_ne.mpr c34
                            have c34b1 : (t265 != 15) = true := bne_iff_ne.mpr c34
                            (first | rw [c34b0] | (simp only [i64_w, i32_w]; rw [c34b0]) | skip)
                            have H' := Aside0.mk H
                            clear H
                            go_wp2
                            go_meet
                            case rel => exact ⟨_, ((t269 == 15)), (by first | rfl | (simp; done) | (simp [*]; done) | (simp; generalize ByteArray.toList _ = l_; cases l_ <;> rfl)), H', ⟨by have := HJ5.out; have := HK2.out; first | omega | exact Nat.le_refl _⟩, ⟨by (with_reducible repeat (first | apply Kd.R_alloc | apply Kd.R_drewN | apply Kd.R_drew)); exact Kd.R_mono HO267.out (fun _ hk => ⟨hk.1.2, hk.2⟩)⟩, ⟨by (with_reducible repeat (first | apply Kd.R_alloc | apply Kd.R_drewN | apply Kd.R_drew)); exact Kd.R_mono HO271.out (fun _ hk => ⟨hk.1.2, hk.2⟩)⟩, ⟨by (with_reducible repeat (first | apply Kd.R_alloc | apply Kd.R_drewN | apply Kd.R_drew)); exact Kd.R_mono HO275.out (fun _ hk => ⟨hk.1.2, hk.2⟩)⟩, ⟨by (with_reducible repeat (first | apply Kd.R_alloc | apply Kd.R_drewN | apply Kd.R_drew)); exact Kd.R_mono HO_44.out (fun _ hk => hk.2)⟩, ⟨by (with_reducible repeat (first | refine blk_drewN ?_ _ | refine blk_drew ?_ | refine blk_alloc ?_ _)); exact BK263.out⟩, ⟨by repeat (first | (with_reducible first | exact HB.out | apply below_alloc | apply pw_below_drewN | apply below_drew1 | refine below_set ?_ GE263.out) | exact HB.out)⟩⟩
                        case rest =>
                          clear HC26
                          try clear c1
                          try clear c2
                          try clear p2
                          try clear q2
                          try clear hx2
                          try clear c3
                          try clear c4
                          try clear c5
                          try clear p6
                          try clear c8
                          try clear c9
                          try clear c10
                          try clear c12
                          try clear c14
                          try clear c18
                          try clear c18b0
                          try clear c19
                          try clear c19b0
                          try clear c20
                          try clear c20b0
                          try clear c23
                          try clear c23b0
                          try clear c23b1
                          try clear c23b2
                          try clear c24
                          try clear c24b0
                          try clear c24b1
                          try clear c24b2
                          try clear p26
                          try clear q26
                          try clear hx26
                          try clear c34
                          try clear c34b0
                          try clear c34b1
                          try clear hcz28_0
                          try clear hcz28_1
                          try clear hcz30_0
                          try clear hcz30_1
                          try clear hcz32_0
                          try clear hcz32_1
                          try clear hfz28_0
                          try clear hfz28_1
                          try clear hfz30_0
                          try clear hfz30_1
                          try clear hfz32_0
                          try clear hfz32_1
                          try clear hx262_0
                          try clear hx262_1
                          try clear p2
                          try clear p262
                          try clear p6
                          try clear q262
                          obtain ⟨kq, x77_25, rfl, HA, HJ25, HO_11, HO_13, HO_15, HO_44, BK263, HB⟩ := hcut
                          cases kq with
                          | zero => exact absurd HA.out (by simp [proofprogramslaw14_LexisJoins.j2])
                          | succ kj25 =>
                            have H := HA.out
                            clear HA
                            simp only [proofprogramslaw14_LexisJoins.j2] at H
                            by_cases c35 : x77_25 = true
                            · subst c35
                              have H1 : (if t273 = 15 then (proofprogramslaw14_LexisJoins.l0 kj25 y259 (y259.length : Int) (wrap64 (x46_2 + 1))) else (if t273 = 3 then (proofprogramslaw14_LexisJoins.l0 kj25 y259 (y259.length : Int) (wrap64 (x46_2 + 1))) else (some false))) = some r := by rw [if_pos rfl] at H; exact H
                              clear H
                              have H := H1
                              clear H1
                              by_cases c36 : t273 = 15
                              · rw [if_pos c36] at H
                                have c36b0 : (t273 == 15) = true := beq_iff_eq.mpr c36
                                have c36b1 : (t273 != 15) = false := bne_eq_false_iff_eq.mpr c36
                                clear c36
                                have H' := Aside0.mk H
                                clear H
                                go_wp2
                                go_roundg kj25
                                case measure => have := HJ5.out; have := HK2.out; have := HJ25.out; omega
                                case rel => exact ⟨(wrap64 (x46_2 + 1)), (by first | rfl | (simp; done) | (simp [*]; done) | (simp; generalize ByteArray.toList _ = l_; cases l_ <;> rfl)), H', ⟨by have := HJ5.out; have := HK2.out; have := HJ25.out; omega⟩, ⟨by (with_reducible repeat (first | apply Kd.R_alloc | apply Kd.R_drewN | apply Kd.R_drew)); exact Kd.R_mono HO_44.out (fun _ hk => trivial)⟩, ⟨by repeat (first | (with_reducible first | exact HB.out | apply below_alloc | apply pw_below_drewN | apply below_drew1 | refine below_set ?_ GE263.out) | exact HB.out)⟩⟩
                              · rw [if_neg c36] at H
                                have c36b0 : (t273 == 15) = false := beq_eq_false_iff_ne.mpr c36
                                have c36b1 : (t273 != 15) = true := bne_iff_ne.mpr c36
                                by_cases c37 : t273 = 3
                                · rw [if_pos c37] at H
                                  have c37b0 : (t273 == 3) = true := beq_iff_eq.mpr c37
                                  have c37b1 : (t273 != 3) = false := bne_eq_false_iff_eq.mpr c37
                                  clear c37
                                  have H' := Aside0.mk H
                                  clear H
                                  go_wp2
                                  go_roundg kj25
                                  case measure => have := HJ5.out; have := HK2.out; have := HJ25.out; omega
                                  case rel => exact ⟨(wrap64 (x46_2 + 1)), (by first | rfl | (simp; done) | (simp [*]; done) | (simp; generalize ByteArray.toList _ = l_; cases l_ <;> rfl)), H', ⟨by have := HJ5.out; have := HK2.out; have := HJ25.out; omega⟩, ⟨by (with_reducible repeat (first | apply Kd.R_alloc | apply Kd.R_drewN | apply Kd.R_drew)); exact Kd.R_mono HO_44.out (fun _ hk => trivial)⟩, ⟨by repeat (first | (with_reducible first | exact HB.out | apply below_alloc | apply pw_below_drewN | apply below_drew1 | refine below_set ?_ GE263.out) | exact HB.out)⟩⟩
                                · rw [if_neg c37] at H
                                  have c37b0 : (t273 == 3) = false := beq_eq_false_iff_ne.mpr c37
                                  have c37b1 : (t273 != 3) = true := bne_iff_ne.mpr c37
                                  obtain rfl := Option.some.inj H
                                  go_wp2
                                  go_ret
                                  exact ⟨by first | rfl | (simp [errW_none, errW_some] <;> rfl) | (simp [*, errW_none, errW_some] <;> rfl), by repeat (first | (with_reducible first | exact HB.out | apply below_alloc | apply pw_below_drewN | apply below_drew1 | refine below_set ?_ GE263.out) | exact HB.out)⟩
                            · replace c35 := Bool.eq_false_iff.mpr c35
                              subst c35
                              have H1 : (if t273 = 3 then (proofprogramslaw14_LexisJoins.j3 kj25 t264 t268 t272 t273 y259 (y259.length : Int) x46_2 true) else (if t265 = 0 then (proofprogramslaw14_LexisJoins.j3 kj25 t264 t268 t272 t273 y259 (y259.length : Int) x46_2 (t269 != 0)) else (proofprogramslaw14_LexisJoins.j3 kj25 t264 t268 t272 t273 y259 (y259.length : Int) x46_2 true))) = some r := by rw [if_neg (show ¬ (false = true) by decide)] at H; exact H
                              clear H
                              have H := H1
                              clear H1
                              have HC38 := Aside0.mk H
                              clear H
                              go_upto_region 16 with (fail)
                              go_cut [93] (fun v93 wc => ∃ (kq : Nat) (x93_37 : Bool), v93 = .bool x93_37 ∧ Aside0 (proofprogramslaw14_LexisJoins.j3 kq t264 t268 t272 t273 y259 (y259.length : Int) x46_2 x93_37 = some r) ∧ Aside0 (kq ≤ kj25) ∧ Aside0 (Kd.R k35 35 wc w.heap.size (fun k_ => some k_ ≠ (v270 : Value).ownBlock ∧ some k_ ≠ (v274 : Value).ownBlock) v266 t264) ∧ Aside0 (Kd.R k35 35 wc w.heap.size (fun k_ => some k_ ≠ (v266 : Value).ownBlock ∧ some k_ ≠ (v274 : Value).ownBlock) v270 t268) ∧ Aside0 (Kd.R k35 35 wc w.heap.size (fun k_ => some k_ ≠ (v266 : Value).ownBlock ∧ some k_ ≠ (v270 : Value).ownBlock) v274 t272) ∧ Aside0 (Kd.R k39 39 wc w.heap.size (fun k_ => k_ ≠ gb263) (.slice (some ad262) y259.length co17) y259) ∧ Aside0 (wc.heap[gb263]? = some (.cells #[.string ((rd_T39 y259 x46_2).f0), .string ((rd_T39 y259 x46_2).f1)] 39 (0, 0))) ∧ Aside0 (Below w.heap.size w wc))
                              case first =>
                                have H := HC38.out
                                clear HC38
                                by_cases c39 : t273 = 3
                                · rw [if_pos c39] at H
                                  have c39b0 : (t273 == 3) = true := beq_iff_eq.mpr c39
                                  have c39b1 : (t273 != 3) = false := bne_eq_false_iff_eq.mpr c39
                                  clear c39
                                  (first | rw [c39b0] | (simp only [i64_w, i32_w]; rw [c39b0]) | skip)
                                  have H' := Aside0.mk H
                                  clear H
                                  go_wp2
                                  go_meet
                                  case rel => exact ⟨_, (true), (by first | rfl | (simp; done) | (simp [*]; done) | (simp; generalize ByteArray.toList _ = l_; cases l_ <;> rfl)), H', ⟨by have := HJ5.out; have := HK2.out; have := HJ25.out; first | omega | exact Nat.le_refl _⟩, ⟨by (with_reducible repeat (first | apply Kd.R_alloc | apply Kd.R_drewN | apply Kd.R_drew)); exact HO_11.out⟩, ⟨by (with_reducible repeat (first | apply Kd.R_alloc | apply Kd.R_drewN | apply Kd.R_drew)); exact HO_13.out⟩, ⟨by (with_reducible repeat (first | apply Kd.R_alloc | apply Kd.R_drewN | apply Kd.R_drew)); exact HO_15.out⟩, ⟨by (with_reducible repeat (first | apply Kd.R_alloc | apply Kd.R_drewN | apply Kd.R_drew)); exact HO_44.out⟩, ⟨by (with_reducible repeat (first | refine blk_drewN ?_ _ | refine blk_drew ?_ | refine blk_alloc ?_ _)); exact BK263.out⟩, ⟨by repeat (first | (with_reducible first | exact HB.out | apply below_alloc | apply pw_below_drewN | apply below_drew1 | refine below_set ?_ GE263.out) | exact HB.out)⟩⟩
                                · rw [if_neg c39] at H
                                  have c39b0 : (t273 == 3) = false := beq_eq_false_iff_ne.mpr c39
                                  have c39b1 : (t273 != 3) = true := bne_iff_ne.mpr c39
                                  (first | rw [c39b0] | (simp only [i64_w, i32_w]; rw [c39b0]) | skip)
                                  by_cases c40 : t265 = 0
                                  · rw [if_pos c40] at H
                                    have c40b0 : (t265 == 0) = true := beq_iff_eq.mpr c40
                                    have c40b1 : (t265 != 0) = false := bne_eq_false_iff_eq.mpr c40
                                    clear c40
                                    have H' := Aside0.mk H
                                    clear H
                                    go_wp2
                                    go_meet
                                    case rel => exact ⟨_, ((t269 != 0)), (by first | rfl | (simp; done) | (simp [*]; done) | (simp; generalize ByteArray.toList _ = l_; cases l_ <;> rfl)), H', ⟨by have := HJ5.out; have := HK2.out; have := HJ25.out; first | omega | exact Nat.le_refl _⟩, ⟨by (with_reducible repeat (first | apply Kd.R_alloc | apply Kd.R_drewN | apply Kd.R_drew)); exact HO_11.out⟩, ⟨by (with_reducible repeat (first | apply Kd.R_alloc | apply Kd.R_drewN | apply Kd.R_drew)); exact HO_13.out⟩, ⟨by (with_reducible repeat (first | apply Kd.R_alloc | apply Kd.R_drewN | apply Kd.R_drew)); exact HO_15.out⟩, ⟨by (with_reducible repeat (first | apply Kd.R_alloc | apply Kd.R_drewN | apply Kd.R_drew)); exact HO_44.out⟩, ⟨by (with_reducible repeat (first | refine blk_drewN ?_ _ | refine blk_drew ?_ | refine blk_alloc ?_ _)); exact BK263.out⟩, ⟨by repeat (first | (with_reducible first | exact HB.out | apply below_alloc | apply pw_below_drewN | apply below_drew1 | refine below_set ?_ GE263.out) | exact HB.out)⟩⟩
                                  · rw [if_neg c40] at H
                                    have c40b0 : (t265 == 0) = false := beq_eq_false_iff_ne.mpr c40
                                    have c40b1 : (t265 != 0) = true := bne_iff_ne.mpr c40
                                    have H' := Aside0.mk H
                                    clear H
                                    go_wp2
                                    go_meet
                                    case rel => exact ⟨_, (true), (by first | rfl | (simp; done) | (simp [*]; done) | (simp; generalize ByteArray.toList _ = l_; cases l_ <;> rfl)), H', ⟨by have := HJ5.out; have := HK2.out; have := HJ25.out; first | omega | exact Nat.le_refl _⟩, ⟨by (with_reducible repeat (first | apply Kd.R_alloc | apply Kd.R_drewN | apply Kd.R_drew)); exact HO_11.out⟩, ⟨by (with_reducible repeat (first | apply Kd.R_alloc | apply Kd.R_drewN | apply Kd.R_drew)); exact HO_13.out⟩, ⟨by (with_reducible repeat (first | apply Kd.R_alloc | apply Kd.R_drewN | apply Kd.R_drew)); exact HO_15.out⟩, ⟨by (with_reducible repeat (first | apply Kd.R_alloc | apply Kd.R_drewN | apply Kd.R_drew)); exact HO_44.out⟩, ⟨by (with_reducible repeat (first | refine blk_drewN ?_ _ | refine blk_drew ?_ | refine blk_alloc ?_ _)); exact BK263.out⟩, ⟨by repeat (first | (with_reducible first | exact HB.out | apply below_alloc | apply pw_below_drewN | apply below_drew1 | refine below_set ?_ GE263.out) | exact HB.out)⟩⟩
                              case rest =>
                                clear HC38
                                try clear c1
                                try clear c2
                                try clear p2
                                try clear q2
                                try clear hx2
                                try clear c3
                                try clear c4
                                try clear c5
                                try clear p6
                                try clear c8
                                try clear c9
                                try clear c10
                                try clear c12
                                try clear c14
                                try clear c18
                                try clear c18b0
                                try clear c19
                                try clear c19b0
                                try clear c20
                                try clear c20b0
                                try clear c23
                                try clear c23b0
                                try clear c23b1
                                try clear c23b2
                                try clear c24
                                try clear c24b0
                                try clear c24b1
                                try clear c24b2
                                try clear p26
                                try clear q26
                                try clear hx26
                                try clear c34
                                try clear c34b0
                                try clear c34b1
                                try clear c35
                                try clear c36
                                try clear c36b0
                                try clear c36b1
                                try clear c37
                                try clear c37b0
                                try clear c37b1
                                try clear c39
                                try clear c39b0
                                try clear c39b1
                                try clear c40
                                try clear c40b0
                                try clear c40b1
                                try clear hcz28_0
                                try clear hcz28_1
                                try clear hcz30_0
                                try clear hcz30_1
                                try clear hcz32_0
                                try clear hcz32_1
                                try clear hfz28_0
                                try clear hfz28_1
                                try clear hfz30_0
                                try clear hfz30_1
                                try clear hfz32_0
                                try clear hfz32_1
                                try clear hx262_0
                                try clear hx262_1
                                try clear p2
                                try clear p26
                                try clear p262
                                try clear p6
                                try clear q2
                                try clear q26
                                try clear q262
                                obtain ⟨kq, x93_37, rfl, HA, HJ37, HO_11, HO_13, HO_15, HO_44, BK263, HB⟩ := hcut
                                cases kq with
                                | zero => exact absurd HA.out (by simp [proofprogramslaw14_LexisJoins.j3])
                                | succ kj37 =>
                                  have H := HA.out
                                  clear HA
                                  simp only [proofprogramslaw14_LexisJoins.j3] at H
                                  by_cases c41 : x93_37 = true
                                  · subst c41
                                    have H1 : (proofprogramslaw14_LexisJoins.l0 kj37 y259 (y259.length : Int) (wrap64 (x46_2 + 1))) = some r := by rw [if_pos rfl] at H; exact H
                                    clear H
                                    have H := H1
                                    clear H1
                                    have H' := Aside0.mk H
                                    clear H
                                    go_wp2
                                    go_roundg kj37
                                    case measure => have := HJ5.out; have := HK2.out; have := HJ25.out; have := HJ37.out; omega
                                    case rel => exact ⟨(wrap64 (x46_2 + 1)), (by first | rfl | (simp; done) | (simp [*]; done) | (simp; generalize ByteArray.toList _ = l_; cases l_ <;> rfl)), H', ⟨by have := HJ5.out; have := HK2.out; have := HJ25.out; have := HJ37.out; omega⟩, ⟨by (with_reducible repeat (first | apply Kd.R_alloc | apply Kd.R_drewN | apply Kd.R_drew)); exact Kd.R_mono HO_44.out (fun _ hk => trivial)⟩, ⟨by repeat (first | (with_reducible first | exact HB.out | apply below_alloc | apply pw_below_drewN | apply below_drew1 | refine below_set ?_ GE263.out) | exact HB.out)⟩⟩
                                  · replace c41 := Bool.eq_false_iff.mpr c41
                                    subst c41
                                    have H1 : (if t273 = 0 then (if ([] : List (S35)).length + t264.length < 3518437208883 then ((some (([] : List (S35)) ++ t264 : List (S35))).bind fun y276 => (if y276.length + t268.length < 3518437208883 then ((lexis_Same.f kj37 t272 (y276 ++ t268)).bind fun t282 => (if t282 = true then (proofprogramslaw14_LexisJoins.l0 kj37 y259 (y259.length : Int) (wrap64 (x46_2 + 1))) else (some false))) else (none))) else (none)) else (some false)) = some r := by rw [if_neg (show ¬ (false = true) by decide)] at H; exact H
                                    clear H
                                    have H := H1
                                    clear H1
                                    by_cases c42 : t273 = 0
                                    · rw [if_pos c42] at H
                                      have c42b0 : (t273 == 0) = true := beq_iff_eq.mpr c42
                                      have c42b1 : (t273 != 0) = false := bne_eq_false_iff_eq.mpr c42
                                      clear c42
                                      by_cases c43 : ([] : List (S35)).length + t264.length < 3518437208883
                                      · rw [if_pos c43] at H
                                        have LMc43 := Aside0.mk c43
                                        clear c43
                                        obtain ⟨y276, hy276⟩ : ∃ y_ : List (S35), y_ = (([] : List (S35)) ++ t264) := ⟨_, rfl⟩
                                        replace H : (if y276.length + t268.length < 3518437208883 then ((lexis_Same.f kj37 t272 (y276 ++ t268)).bind fun t282 => (if t282 = true then (proofprogramslaw14_LexisJoins.l0 kj37 y259 (y259.length : Int) (wrap64 (x46_2 + 1))) else (some false))) else (none)) = some r := by first | (rw [hy276]; with_reducible exact H) | (have H2_ := (Option.bind_some _ _).symm.trans H; rw [hy276]; with_reducible exact H2_) | (have H2_ := (Option.bind_some _ _).symm.trans H; with_reducible exact H2_) | with_reducible exact H | (rw [hy276]; exact H) | exact H
                                        have Ny276 := Aside0.mk hy276
                                        clear hy276
                                        by_cases c44 : y276.length + t268.length < 3518437208883
                                        · rw [if_pos c44] at H
                                          have LMc44 := Aside0.mk c44
                                          clear c44
                                          obtain ⟨y279, hy279⟩ : ∃ y_ : List (S35), y_ = (y276 ++ t268) := ⟨_, rfl⟩
                                          replace H : ((lexis_Same.f kj37 t272 y279).bind fun t282 => (if t282 = true then (proofprogramslaw14_LexisJoins.l0 kj37 y259 (y259.length : Int) (wrap64 (x46_2 + 1))) else (some false))) = some r := by first | (rw [hy279]; with_reducible exact H) | (have H2_ := (Option.bind_some _ _).symm.trans H; rw [hy279]; with_reducible exact H2_) | (have H2_ := (Option.bind_some _ _).symm.trans H; with_reducible exact H2_) | with_reducible exact H | (rw [hy279]; exact H) | exact H
                                          have Ny279 := Aside0.mk hy279
                                          clear hy279
                                          replace H := Option.bind_eq_some_iff.mp H
                                          obtain ⟨t282, A450, H⟩ := H
                                          replace H : (if t282 = true then (proofprogramslaw14_LexisJoins.l0 kj37 y259 (y259.length : Int) (wrap64 (x46_2 + 1))) else (some false)) = some r := H
                                          have A45 := Aside0.mk A450
                                          clear A450
                                          by_cases c46 : t282 = true
                                          · subst c46
                                            have H1 : (proofprogramslaw14_LexisJoins.l0 kj37 y259 (y259.length : Int) (wrap64 (x46_2 + 1))) = some r := by rw [if_pos rfl] at H; exact H
                                            clear H
                                            have H := H1
                                            clear H1
                                            have H' := Aside0.mk H
                                            clear H
                                            obtain ⟨Ao48, co48, eo48⟩ := Kd.R_slice HO_11.out
                                            subst eo48
                                            go_wp2_with (first | ((with_reducible refine gate_builtin (b := .append) (xs := #[.const (.slice none 0 0), .tmp 98]) rfl ?_); (try (refine gate_guard (by rfl) ?_; dsimp only)); at_builtin; refine Kd.R_append_rows k35 (w0 := w) w.heap.size rfl (.const (.slice none 0 0)) (.tmp 98) 30 35 (.agg #[(.int .i64 0), (.int .i64 0), (.int .i64 0), (.string ⟨#[]⟩)]) 40 rfl Tryd.underlying30 info35 rfl (by decide) (by omega) (.slice none 0 0) ([] : List (S35)) t264 _ _ _ (fun k_ => some k_ ≠ (.slice Ao48 t264.length co48 : Value).ownBlock ∧ some k_ ≠ (v270 : Value).ownBlock ∧ some k_ ≠ (v274 : Value).ownBlock) (fun _ => False) rfl rfl ?aO ?aR (fun _ _ h => h) (fun _ h => h.elim) ?aF ?aB ?aS ?aL ?_; (case aR => repeat (first | exact (Kd.R_reads' HO_11.out).2.2 | (with_reducible refine Kd.C_alloc ?_ _) | (with_reducible refine Kd.C_drewN ?_ _) | (with_reducible refine Kd.C_drew ?_))); (case aB => exact (by repeat (first | (with_reducible first | exact HB.out | apply below_alloc | apply pw_below_drewN | apply below_drew1 | refine below_set ?_ GE263.out) | exact HB.out))); (case aF => exact (fun k_ hk => ⟨Kd.fresh' (Kd.R_lt (by (with_reducible repeat (first | apply Kd.R_alloc | apply Kd.R_drewN | apply Kd.R_drew)); exact HO_11.out)) k_ hk, Kd.fresh' (Kd.R_lt (by (with_reducible repeat (first | apply Kd.R_alloc | apply Kd.R_drewN | apply Kd.R_drew)); exact HO_13.out)) k_ hk, Kd.fresh' (Kd.R_lt (by (with_reducible repeat (first | apply Kd.R_alloc | apply Kd.R_drewN | apply Kd.R_drew)); exact HO_15.out)) k_ hk⟩)); (case aO => exact ((Kd.R_nil _ _ _ _ (fun k_ => some k_ ≠ (.slice Ao48 t264.length co48 : Value).ownBlock ∧ some k_ ≠ (v270 : Value).ownBlock ∧ some k_ ≠ (v274 : Value).ownBlock)))); (case aS => exact (below_size (by repeat (first | (with_reducible first | exact HB.out | apply below_alloc | apply pw_below_drewN | apply below_drew1 | refine below_set ?_ GE263.out) | exact HB.out)))); (case aL => have := LMc43.out; omega); intro v277 w47 ho hb hg hat; rw [← Ny276.out] at ho; have n0_ := Aside0.mk (Kd.R_after (Kd.R_apart_nil (by (with_reducible repeat (first | apply Kd.R_alloc | apply Kd.R_drewN | apply Kd.R_drew)); exact HO_11.out)) hg hat); have n1_ := Aside0.mk (Kd.R_after (Kd.R_apart_nil (by (with_reducible repeat (first | apply Kd.R_alloc | apply Kd.R_drewN | apply Kd.R_drew)); exact HO_13.out)) hg hat); have n2_ := Aside0.mk (Kd.R_after (Kd.R_apart_nil (by (with_reducible repeat (first | apply Kd.R_alloc | apply Kd.R_drewN | apply Kd.R_drew)); exact HO_15.out)) hg hat); have n3_ := Aside0.mk (Kd.R_grown (by (with_reducible repeat (first | apply Kd.R_alloc | apply Kd.R_drewN | apply Kd.R_drew)); exact HO_44.out) hg (fun _ _ => by simp [Value.ownBlock])); have n4_ := Aside0.mk (blk_grown (g := gb263) (o := .cells #[.string ((rd_T39 y259 x46_2).f0), .string ((rd_T39 y259 x46_2).f1)] 39 (0, 0)) (by (with_reducible repeat (first | refine blk_drewN ?_ _ | refine blk_drew ?_ | refine blk_alloc ?_ _)); exact BK263.out) hg (by simp [Value.ownBlock])); have n5_ := Aside0.mk (hb); have n6_ := Aside0.mk (ho); clear HO_11; clear HO_13; clear HO_15; clear HO_44; clear BK263; clear HB; have HO_11 := n0_; have HO_13 := n1_; have HO_15 := n2_; have HO_44 := n3_; have BK263 := n4_; have HB := n5_; have HO278 := n6_; clear n0_ n1_ n2_ n3_ n4_ n5_ n6_; clear ho hb hg hat; obtain ⟨Ao50, co50, eo50⟩ := Kd.R_slice HO_13.out; subst eo50) | ((with_reducible refine gate_builtin (b := .append) (xs := #[.tmp 99, .tmp 100]) rfl ?_); (try (refine gate_guard (by rfl) ?_; dsimp only)); at_builtin; refine Kd.R_append_rows k35 (w0 := w) w.heap.size rfl (.tmp 99) (.tmp 100) 30 35 (.agg #[(.int .i64 0), (.int .i64 0), (.int .i64 0), (.string ⟨#[]⟩)]) 40 rfl Tryd.underlying30 info35 rfl (by decide) (by omega) v277 y276 t268 _ _ _ (fun k_ => some k_ ≠ (.slice Ao48 t264.length co48 : Value).ownBlock ∧ some k_ ≠ (.slice Ao50 t268.length co50 : Value).ownBlock ∧ some k_ ≠ (v274 : Value).ownBlock) (fun _ => False) rfl rfl ?aO ?aR (fun _ _ h => h) (fun _ h => h.elim) ?aF ?aB ?aS ?aL ?_; (case aR => repeat (first | exact (Kd.R_reads' HO_13.out).2.2 | (with_reducible refine Kd.C_alloc ?_ _) | (with_reducible refine Kd.C_drewN ?_ _) | (with_reducible refine Kd.C_drew ?_))); (case aB => exact (by repeat (first | (with_reducible first | exact HB.out | apply below_alloc | apply pw_below_drewN | apply below_drew1 | refine below_set ?_ GE263.out) | exact HB.out))); (case aF => exact (fun k_ hk => ⟨Kd.fresh' (Kd.R_lt (by (with_reducible repeat (first | apply Kd.R_alloc | apply Kd.R_drewN | apply Kd.R_drew)); exact HO_11.out)) k_ hk, Kd.fresh' (Kd.R_lt (by (with_reducible repeat (first | apply Kd.R_alloc | apply Kd.R_drewN | apply Kd.R_drew)); exact HO_13.out)) k_ hk, Kd.fresh' (Kd.R_lt (by (with_reducible repeat (first | apply Kd.R_alloc | apply Kd.R_drewN | apply Kd.R_drew)); exact HO_15.out)) k_ hk⟩)); (case aO => exact (by (with_reducible repeat (first | apply Kd.R_alloc | apply Kd.R_drewN | apply Kd.R_drew)); exact HO278.out)); (case aS => exact (below_size (by repeat (first | (with_reducible first | exact HB.out | apply below_alloc | apply pw_below_drewN | apply below_drew1 | refine below_set ?_ GE263.out) | exact HB.out)))); (case aL => have := LMc44.out; omega); intro v280 w49 ho hb hg hat; rw [← Ny279.out] at ho; have n0_ := Aside0.mk (Kd.R_after (ok := (fun k_ => some k_ ≠ (.slice Ao50 t268.length co50 : Value).ownBlock ∧ some k_ ≠ (v274 : Value).ownBlock)) (by (with_reducible repeat (first | apply Kd.R_alloc | apply Kd.R_drewN | apply Kd.R_drew)); exact HO_11.out) hg hat); have n1_ := Aside0.mk (Kd.R_after (ok := (fun k_ => some k_ ≠ (.slice Ao48 t264.length co48 : Value).ownBlock ∧ some k_ ≠ (v274 : Value).ownBlock)) (by (with_reducible repeat (first | apply Kd.R_alloc | apply Kd.R_drewN | apply Kd.R_drew)); exact HO_13.out) hg hat); have n2_ := Aside0.mk (Kd.R_after (ok := (fun k_ => some k_ ≠ (.slice Ao48 t264.length co48 : Value).ownBlock ∧ some k_ ≠ (.slice Ao50 t268.length co50 : Value).ownBlock)) (by (with_reducible repeat (first | apply Kd.R_alloc | apply Kd.R_drewN | apply Kd.R_drew)); exact HO_15.out) hg hat); have n3_ := Aside0.mk (Kd.R_over' (by (with_reducible repeat (first | apply Kd.R_alloc | apply Kd.R_drewN | apply Kd.R_drew)); exact HO_44.out) (Kd.R_typed (by (with_reducible repeat (first | apply Kd.R_alloc | apply Kd.R_drewN | apply Kd.R_drew)); exact HO278.out)) (by decide) hg); have n4_ := Aside0.mk (blk_grown (g := gb263) (o := .cells #[.string ((rd_T39 y259 x46_2).f0), .string ((rd_T39 y259 x46_2).f1)] 39 (0, 0)) (by (with_reducible repeat (first | refine blk_drewN ?_ _ | refine blk_drew ?_ | refine blk_alloc ?_ _)); exact BK263.out) hg (Kd.R_ne HO278.out BK263.out (by decide))); have n5_ := Aside0.mk (hb); have n6_ := Aside0.mk (ho); clear HO_11; clear HO_13; clear HO_15; clear HO_44; clear BK263; clear HB; clear HO278; have HO_11 := n0_; have HO_13 := n1_; have HO_15 := n2_; have HO_44 := n3_; have BK263 := n4_; have HB := n5_; have HO281 := n6_; clear n0_ n1_ n2_ n3_ n4_ n5_ n6_; clear ho hb hg hat; obtain ⟨Ao51, co51, eo51⟩ := Kd.R_slice HO_15.out; subst eo51; obtain ⟨Ao52, co52, eo52⟩ := Kd.R_slice HO281.out; subst eo52) | (go_at_call 15; (with_reducible refine (lexis_Same.calls kj37 _ _ t272 _ _ y279 true _ ?side1 ?side2 ?side3 ?side4 A45.out).mono ?_); (case side1 => repeat (first | exact (Kd.R_reads' HO_15.out).2.2 | (with_reducible refine Kd.C_alloc ?_ _) | (with_reducible refine Kd.C_drewN ?_ _) | (with_reducible refine Kd.C_drew ?_))); (case side2 => exact (Kd.R_reads' HO_15.out).2.1); (case side3 => repeat (first | exact (Kd.R_reads' HO281.out).2.2 | (with_reducible refine Kd.C_alloc ?_ _) | (with_reducible refine Kd.C_drewN ?_ _) | (with_reducible refine Kd.C_drew ?_))); (case side4 => exact (Kd.R_reads' HO281.out).2.1); rintro e w53 ⟨rfl, hb⟩; have n0_ := Aside0.mk (Kd.R_below (by (with_reducible repeat (first | apply Kd.R_alloc | apply Kd.R_drewN | apply Kd.R_drew)); exact HO_11.out) hb); have n1_ := Aside0.mk (Kd.R_below (by (with_reducible repeat (first | apply Kd.R_alloc | apply Kd.R_drewN | apply Kd.R_drew)); exact HO_13.out) hb); have n2_ := Aside0.mk (Kd.R_below (by (with_reducible repeat (first | apply Kd.R_alloc | apply Kd.R_drewN | apply Kd.R_drew)); exact HO_15.out) hb); have n3_ := Aside0.mk (Kd.R_below (by (with_reducible repeat (first | apply Kd.R_alloc | apply Kd.R_drewN | apply Kd.R_drew)); exact HO_44.out) hb); have n4_ := Aside0.mk (Kd.R_below (by (with_reducible repeat (first | apply Kd.R_alloc | apply Kd.R_drewN | apply Kd.R_drew)); exact HO281.out) hb); have n5_ := Aside0.mk (blk_below (g := gb263) (o := .cells #[.string ((rd_T39 y259 x46_2).f0), .string ((rd_T39 y259 x46_2).f1)] 39 (0, 0)) (by (with_reducible repeat (first | refine blk_drewN ?_ _ | refine blk_drew ?_ | refine blk_alloc ?_ _)); exact BK263.out) hb); have n6_ := Aside0.mk (below_step (by repeat (first | (with_reducible first | exact HB.out | apply below_alloc | apply pw_below_drewN | apply below_drew1 | refine below_set ?_ GE263.out) | exact HB.out)) hb); clear HO_11; clear HO_13; clear HO_15; clear HO_44; clear HO281; clear BK263; clear HB; have HO_11 := n0_; have HO_13 := n1_; have HO_15 := n2_; have HO_44 := n3_; have HO281 := n4_; have BK263 := n5_; have HB := n6_; clear n0_ n1_ n2_ n3_ n4_ n5_ n6_; (try clear hb); (try clear hb2); (try clear hk); (try clear hi)))
                                            go_roundg kj37
                                            case measure => have := HJ5.out; have := HK2.out; have := HJ25.out; have := HJ37.out; omega
                                            case rel => exact ⟨(wrap64 (x46_2 + 1)), (by first | rfl | (simp; done) | (simp [*]; done) | (simp; generalize ByteArray.toList _ = l_; cases l_ <;> rfl)), H', ⟨by have := HJ5.out; have := HK2.out; have := HJ25.out; have := HJ37.out; omega⟩, ⟨by (with_reducible repeat (first | apply Kd.R_alloc | apply Kd.R_drewN | apply Kd.R_drew)); exact Kd.R_mono HO_44.out (fun _ hk => trivial)⟩, ⟨by repeat (first | (with_reducible first | exact HB.out | apply below_alloc | apply pw_below_drewN | apply below_drew1 | refine below_set ?_ GE263.out) | exact HB.out)⟩⟩
                                          · replace c46 := Bool.eq_false_iff.mpr c46
                                            subst c46
                                            have H1 : (some false) = some r := by rw [if_neg (show ¬ (false = true) by decide)] at H; exact H
                                            clear H
                                            have H := H1
                                            clear H1
                                            obtain rfl := Option.some.inj H
                                            obtain ⟨Ao55, co55, eo55⟩ := Kd.R_slice HO_11.out
                                            subst eo55
                                            go_wp2_with (first | ((with_reducible refine gate_builtin (b := .append) (xs := #[.const (.slice none 0 0), .tmp 98]) rfl ?_); (try (refine gate_guard (by rfl) ?_; dsimp only)); at_builtin; refine Kd.R_append_rows k35 (w0 := w) w.heap.size rfl (.const (.slice none 0 0)) (.tmp 98) 30 35 (.agg #[(.int .i64 0), (.int .i64 0), (.int .i64 0), (.string ⟨#[]⟩)]) 40 rfl Tryd.underlying30 info35 rfl (by decide) (by omega) (.slice none 0 0) ([] : List (S35)) t264 _ _ _ (fun k_ => some k_ ≠ (.slice Ao55 t264.length co55 : Value).ownBlock ∧ some k_ ≠ (v270 : Value).ownBlock ∧ some k_ ≠ (v274 : Value).ownBlock) (fun _ => False) rfl rfl ?aO ?aR (fun _ _ h => h) (fun _ h => h.elim) ?aF ?aB ?aS ?aL ?_; (case aR => repeat (first | exact (Kd.R_reads' HO_11.out).2.2 | (with_reducible refine Kd.C_alloc ?_ _) | (with_reducible refine Kd.C_drewN ?_ _) | (with_reducible refine Kd.C_drew ?_))); (case aB => exact (by repeat (first | (with_reducible first | exact HB.out | apply below_alloc | apply pw_below_drewN | apply below_drew1 | refine below_set ?_ GE263.out) | exact HB.out))); (case aF => exact (fun k_ hk => ⟨Kd.fresh' (Kd.R_lt (by (with_reducible repeat (first | apply Kd.R_alloc | apply Kd.R_drewN | apply Kd.R_drew)); exact HO_11.out)) k_ hk, Kd.fresh' (Kd.R_lt (by (with_reducible repeat (first | apply Kd.R_alloc | apply Kd.R_drewN | apply Kd.R_drew)); exact HO_13.out)) k_ hk, Kd.fresh' (Kd.R_lt (by (with_reducible repeat (first | apply Kd.R_alloc | apply Kd.R_drewN | apply Kd.R_drew)); exact HO_15.out)) k_ hk⟩)); (case aO => exact ((Kd.R_nil _ _ _ _ (fun k_ => some k_ ≠ (.slice Ao55 t264.length co55 : Value).ownBlock ∧ some k_ ≠ (v270 : Value).ownBlock ∧ some k_ ≠ (v274 : Value).ownBlock)))); (case aS => exact (below_size (by repeat (first | (with_reducible first | exact HB.out | apply below_alloc | apply pw_below_drewN | apply below_drew1 | refine below_set ?_ GE263.out) | exact HB.out)))); (case aL => have := LMc43.out; omega); intro v277 w54 ho hb hg hat; rw [← Ny276.out] at ho; have n0_ := Aside0.mk (Kd.R_after (Kd.R_apart_nil (by (with_reducible repeat (first | apply Kd.R_alloc | apply Kd.R_drewN | apply Kd.R_drew)); exact HO_11.out)) hg hat); have n1_ := Aside0.mk (Kd.R_after (Kd.R_apart_nil (by (with_reducible repeat (first | apply Kd.R_alloc | apply Kd.R_drewN | apply Kd.R_drew)); exact HO_13.out)) hg hat); have n2_ := Aside0.mk (Kd.R_after (Kd.R_apart_nil (by (with_reducible repeat (first | apply Kd.R_alloc | apply Kd.R_drewN | apply Kd.R_drew)); exact HO_15.out)) hg hat); have n3_ := Aside0.mk (Kd.R_grown (by (with_reducible repeat (first | apply Kd.R_alloc | apply Kd.R_drewN | apply Kd.R_drew)); exact HO_44.out) hg (fun _ _ => by simp [Value.ownBlock])); have n4_ := Aside0.mk (blk_grown (g := gb263) (o := .cells #[.string ((rd_T39 y259 x46_2).f0), .string ((rd_T39 y259 x46_2).f1)] 39 (0, 0)) (by (with_reducible repeat (first | refine blk_drewN ?_ _ | refine blk_drew ?_ | refine blk_alloc ?_ _)); exact BK263.out) hg (by simp [Value.ownBlock])); have n5_ := Aside0.mk (hb); have n6_ := Aside0.mk (ho); clear HO_11; clear HO_13; clear HO_15; clear HO_44; clear BK263; clear HB; have HO_11 := n0_; have HO_13 := n1_; have HO_15 := n2_; have HO_44 := n3_; have BK263 := n4_; have HB := n5_; have HO278 := n6_; clear n0_ n1_ n2_ n3_ n4_ n5_ n6_; clear ho hb hg hat; obtain ⟨Ao57, co57, eo57⟩ := Kd.R_slice HO_13.out; subst eo57) | ((with_reducible refine gate_builtin (b := .append) (xs := #[.tmp 99, .tmp 100]) rfl ?_); (try (refine gate_guard (by rfl) ?_; dsimp only)); at_builtin; refine Kd.R_append_rows k35 (w0 := w) w.heap.size rfl (.tmp 99) (.tmp 100) 30 35 (.agg #[(.int .i64 0), (.int .i64 0), (.int .i64 0), (.string ⟨#[]⟩)]) 40 rfl Tryd.underlying30 info35 rfl (by decide) (by omega) v277 y276 t268 _ _ _ (fun k_ => some k_ ≠ (.slice Ao55 t264.length co55 : Value).ownBlock ∧ some k_ ≠ (.slice Ao57 t268.length co57 : Value).ownBlock ∧ some k_ ≠ (v274 : Value).ownBlock) (fun _ => False) rfl rfl ?aO ?aR (fun _ _ h => h) (fun _ h => h.elim) ?aF ?aB ?aS ?aL ?_; (case aR => repeat (first | exact (Kd.R_reads' HO_13.out).2.2 | (with_reducible refine Kd.C_alloc ?_ _) | (with_reducible refine Kd.C_drewN ?_ _) | (with_reducible refine Kd.C_drew ?_))); (case aB => exact (by repeat (first | (with_reducible first | exact HB.out | apply below_alloc | apply pw_below_drewN | apply below_drew1 | refine below_set ?_ GE263.out) | exact HB.out))); (case aF => exact (fun k_ hk => ⟨Kd.fresh' (Kd.R_lt (by (with_reducible repeat (first | apply Kd.R_alloc | apply Kd.R_drewN | apply Kd.R_drew)); exact HO_11.out)) k_ hk, Kd.fresh' (Kd.R_lt (by (with_reducible repeat (first | apply Kd.R_alloc | apply Kd.R_drewN | apply Kd.R_drew)); exact HO_13.out)) k_ hk, Kd.fresh' (Kd.R_lt (by (with_reducible repeat (first | apply Kd.R_alloc | apply Kd.R_drewN | apply Kd.R_drew)); exact HO_15.out)) k_ hk⟩)); (case aO => exact (by (with_reducible repeat (first | apply Kd.R_alloc | apply Kd.R_drewN | apply Kd.R_drew)); exact HO278.out)); (case aS => exact (below_size (by repeat (first | (with_reducible first | exact HB.out | apply below_alloc | apply pw_below_drewN | apply below_drew1 | refine below_set ?_ GE263.out) | exact HB.out)))); (case aL => have := LMc44.out; omega); intro v280 w56 ho hb hg hat; rw [← Ny279.out] at ho; have n0_ := Aside0.mk (Kd.R_after (ok := (fun k_ => some k_ ≠ (.slice Ao57 t268.length co57 : Value).ownBlock ∧ some k_ ≠ (v274 : Value).ownBlock)) (by (with_reducible repeat (first | apply Kd.R_alloc | apply Kd.R_drewN | apply Kd.R_drew)); exact HO_11.out) hg hat); have n1_ := Aside0.mk (Kd.R_after (ok := (fun k_ => some k_ ≠ (.slice Ao55 t264.length co55 : Value).ownBlock ∧ some k_ ≠ (v274 : Value).ownBlock)) (by (with_reducible repeat (first | apply Kd.R_alloc | apply Kd.R_drewN | apply Kd.R_drew)); exact HO_13.out) hg hat); have n2_ := Aside0.mk (Kd.R_after (ok := (fun k_ => some k_ ≠ (.slice Ao55 t264.length co55 : Value).ownBlock ∧ some k_ ≠ (.slice Ao57 t268.length co57 : Value).ownBlock)) (by (with_reducible repeat (first | apply Kd.R_alloc | apply Kd.R_drewN | apply Kd.R_drew)); exact HO_15.out) hg hat); have n3_ := Aside0.mk (Kd.R_over' (by (with_reducible repeat (first | apply Kd.R_alloc | apply Kd.R_drewN | apply Kd.R_drew)); exact HO_44.out) (Kd.R_typed (by (with_reducible repeat (first | apply Kd.R_alloc | apply Kd.R_drewN | apply Kd.R_drew)); exact HO278.out)) (by decide) hg); have n4_ := Aside0.mk (blk_grown (g := gb263) (o := .cells #[.string ((rd_T39 y259 x46_2).f0), .string ((rd_T39 y259 x46_2).f1)] 39 (0, 0)) (by (with_reducible repeat (first | refine blk_drewN ?_ _ | refine blk_drew ?_ | refine blk_alloc ?_ _)); exact BK263.out) hg (Kd.R_ne HO278.out BK263.out (by decide))); have n5_ := Aside0.mk (hb); have n6_ := Aside0.mk (ho); clear HO_11; clear HO_13; clear HO_15; clear HO_44; clear BK263; clear HB; clear HO278; have HO_11 := n0_; have HO_13 := n1_; have HO_15 := n2_; have HO_44 := n3_; have BK263 := n4_; have HB := n5_; have HO281 := n6_; clear n0_ n1_ n2_ n3_ n4_ n5_ n6_; clear ho hb hg hat; obtain ⟨Ao58, co58, eo58⟩ := Kd.R_slice HO_15.out; subst eo58; obtain ⟨Ao59, co59, eo59⟩ := Kd.R_slice HO281.out; subst eo59) | (go_at_call 15; (with_reducible refine (lexis_Same.calls kj37 _ _ t272 _ _ y279 false _ ?side1 ?side2 ?side3 ?side4 A45.out).mono ?_); (case side1 => repeat (first | exact (Kd.R_reads' HO_15.out).2.2 | (with_reducible refine Kd.C_alloc ?_ _) | (with_reducible refine Kd.C_drewN ?_ _) | (with_reducible refine Kd.C_drew ?_))); (case side2 => exact (Kd.R_reads' HO_15.out).2.1); (case side3 => repeat (first | exact (Kd.R_reads' HO281.out).2.2 | (with_reducible refine Kd.C_alloc ?_ _) | (with_reducible refine Kd.C_drewN ?_ _) | (with_reducible refine Kd.C_drew ?_))); (case side4 => exact (Kd.R_reads' HO281.out).2.1); rintro e w60 ⟨rfl, hb⟩; have n0_ := Aside0.mk (Kd.R_below (by (with_reducible repeat (first | apply Kd.R_alloc | apply Kd.R_drewN | apply Kd.R_drew)); exact HO_11.out) hb); have n1_ := Aside0.mk (Kd.R_below (by (with_reducible repeat (first | apply Kd.R_alloc | apply Kd.R_drewN | apply Kd.R_drew)); exact HO_13.out) hb); have n2_ := Aside0.mk (Kd.R_below (by (with_reducible repeat (first | apply Kd.R_alloc | apply Kd.R_drewN | apply Kd.R_drew)); exact HO_15.out) hb); have n3_ := Aside0.mk (Kd.R_below (by (with_reducible repeat (first | apply Kd.R_alloc | apply Kd.R_drewN | apply Kd.R_drew)); exact HO_44.out) hb); have n4_ := Aside0.mk (Kd.R_below (by (with_reducible repeat (first | apply Kd.R_alloc | apply Kd.R_drewN | apply Kd.R_drew)); exact HO281.out) hb); have n5_ := Aside0.mk (blk_below (g := gb263) (o := .cells #[.string ((rd_T39 y259 x46_2).f0), .string ((rd_T39 y259 x46_2).f1)] 39 (0, 0)) (by (with_reducible repeat (first | refine blk_drewN ?_ _ | refine blk_drew ?_ | refine blk_alloc ?_ _)); exact BK263.out) hb); have n6_ := Aside0.mk (below_step (by repeat (first | (with_reducible first | exact HB.out | apply below_alloc | apply pw_below_drewN | apply below_drew1 | refine below_set ?_ GE263.out) | exact HB.out)) hb); clear HO_11; clear HO_13; clear HO_15; clear HO_44; clear HO281; clear BK263; clear HB; have HO_11 := n0_; have HO_13 := n1_; have HO_15 := n2_; have HO_44 := n3_; have HO281 := n4_; have BK263 := n5_; have HB := n6_; clear n0_ n1_ n2_ n3_ n4_ n5_ n6_; (try clear hb); (try clear hb2); (try clear hk); (try clear hi)))
                                            go_ret
                                            exact ⟨by first | rfl | (simp [errW_none, errW_some] <;> rfl) | (simp [*, errW_none, errW_some] <;> rfl), by repeat (first | (with_reducible first | exact HB.out | apply below_alloc | apply pw_below_drewN | apply below_drew1 | refine below_set ?_ GE263.out) | exact HB.out)⟩
                                        · rw [if_neg c44] at H
                                          exact absurd H (by simp)
                                      · rw [if_neg c43] at H
                                        exact absurd H (by simp)
                                    · rw [if_neg c42] at H
                                      have c42b0 : (t273 == 0) = false := beq_eq_false_iff_ne.mpr c42
                                      have c42b1 : (t273 != 0) = true := bne_iff_ne.mpr c42
                                      obtain rfl := Option.some.inj H
                                      go_wp2
                                      go_ret
                                      exact ⟨by first | rfl | (simp [errW_none, errW_some] <;> rfl) | (simp [*, errW_none, errW_some] <;> rfl), by repeat (first | (with_reducible first | exact HB.out | apply below_alloc | apply pw_below_drewN | apply below_drew1 | refine below_set ?_ GE263.out) | exact HB.out)⟩
                      · rw [if_neg c24] at H
                        exact absurd H (by simp)
                    · rw [if_neg c23] at H
                      exact absurd H (by simp)
                  · rw [if_neg c20] at H
                    exact absurd H (by simp)
                · rw [if_neg c19] at H
                  exact absurd H (by simp)
              · rw [if_neg c18] at H
                have c18b0 : decide (x46_2 < (y259.length : Int)) = false := decide_eq_false c18
                clear c18
                obtain rfl := Option.some.inj H
                go_wp2
                go_ret
                exact ⟨by first | rfl | (simp [errW_none, errW_some] <;> rfl) | (simp [*, errW_none, errW_some] <;> rfl), by repeat (first | (with_reducible first | exact HB.out | apply below_alloc | apply pw_below_drewN | apply below_drew1) | exact HB.out)⟩
  · replace c5 := Bool.eq_false_iff.mpr c5
    subst c5
    have H1 : (some false) = some r := by rw [if_neg (show ¬ (false = true) by decide)] at H; exact H
    clear H
    have H := H1
    clear H1
    obtain rfl := Option.some.inj H
    go_enter Tryd.func4, Tryd.ntmps4
    go_wp2_with (first | ((with_reducible refine gate_callee (f := 8) rfl ?_); refine goesL_ (some 17) rfl rfl Tryd.func8 (by kernel_rfl) rfl #[] rfl (by (try simp only [List.map_toArray, List.map_cons, List.map_nil]); first | done | rfl | (simp only [List.length_drop, List.length_take]; rfl)) ?_; (with_reducible refine (proofprogramslaw14_sane.calls k  false _ ?side1 A4.out).mono ?_); (case side1 => exact Laid.below HLaid.out (by repeat (first | (with_reducible first | exact HB.out | apply below_alloc | apply pw_below_drewN | apply below_drew1) | exact HB.out))); rintro e w61 ⟨rfl, hb⟩; refine ⟨_, rfl, ?_⟩; have n0_ := Aside0.mk (below_step (by repeat (first | (with_reducible first | exact HB.out | apply below_alloc | apply pw_below_drewN | apply below_drew1) | exact HB.out)) hb); clear HB; have HB := n0_; clear n0_; (try clear hb); (try clear hb2); (try clear hk); (try clear hi)))
    go_ret
    exact ⟨by first | rfl | (simp [errW_none, errW_some] <;> rfl) | (simp [*, errW_none, errW_some] <;> rfl), by repeat (first | (with_reducible first | exact HB.out | apply below_alloc | apply pw_below_drewN | apply below_drew1) | exact HB.out)⟩

/-- THE ONE PURE STATEMENT of proofprogramslaw14_LexisJoins: yours. -/
def proofprogramslaw14_LexisJoins.Pure : Prop := ∀ (l0 : List Int) (a1 : ByteArray) (a2 : ByteArray), l0.length ≤ maxLen → l0.length * 8 ≤ 140737488351232 → (∀ x ∈ l0, (Lit.int .i64 x).wf = true) → a1.size ≤ 140737488351232 → a2.size ≤ 140737488351232 → ∃ k, proofprogramslaw14_LexisJoins.f k l0 a1 a2 = some true
theorem proofprogramslaw14_LexisJoins.walk (P : proofprogramslaw14_LexisJoins.Pure) (a0 : Option Addr) (len0 cap0 : Nat) (z0 : List Int) (a1 : ByteArray) (a2 : ByteArray) (w : World) (w0 : (a0 = none ∧ len0 = 0 ∧ cap0 = 0 ∧ z0 = []) ∨ ∃ x, a0 = some x ∧ len0 ≤ cap0 ∧ cap0 ≤ maxLen ∧ z0.length = cap0 ∧ (∀ i, i < z0.length → w.cell? (x.add i) = some (.int .i64 (z0.getD i 0))) ∧ ∀ n ∈ z0, (Lit.int .i64 n).wf = true) (y0 : len0 * 8 ≤ 140737488351232) (w1 : a1.size ≤ 140737488351232) (w2 : a2.size ≤ 140737488351232) (hLaid : Laid w) :
    Calls Tryd.prog 4 #[.slice a0 len0 cap0, .string a1, .string a2] w fun e w' => e = .returned (.bool true) ∧ Below w.heap.size w w' := by
  obtain ⟨l0, rfl, hr0, hm0, hw0, hc0⟩ := ReadsInt.ofRowC w0
  obtain ⟨k, h⟩ := P l0 a1 a2 hm0 y0 hw0 w1 w2
  refine (proofprogramslaw14_LexisJoins.calls k _ _ l0 a1 a2 true w (Kd.C_of_reads (d := (0 : Int)) (h1 := fun _ => rfl) hr0) hc0 hLaid h).mono ?_
  rintro e w' ⟨rfl, hd⟩
  exact ⟨rfl, hd⟩

end Go.Proofs.YthcllibbaindbaaDoor.Px
