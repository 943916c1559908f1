/- Contracts of functions by an evaluator of the model: its part T9. -/
import Derived.Test.YtandgpkibpggnaaT8
import Derived.Test.YtandgpkibpggnaaT6
set_option linter.all false
/- The law SpanMoves. -/
namespace Go.Proofs.Ytandgpkibpggnaa
open Go Vx
theorem ins_eq {g : Nat → Sp} {n : Nat} {z : Int} (h : RightL g n z) (a k : Int) : rinsU a k n g = insU a k n g := by
  unfold rinsU insU
  split
  · rfl
  · rename_i h0
    refine turnU_congr n g fun j hj => ⟨?_, rfl⟩
    have h1 := (h.one j hj).1
    have h2 := h1.2.2.2.1
    unfold kpS
    refine ⟨fun h3 => ⟨?_, h3⟩, fun h3 => h3.2⟩
    simp only [insS, movS, insX]
    repeat' split
    all_goals omega
theorem del_eq {g : Nat → Sp} {n : Nat} {z : Int} (h : RightL g n z) (a b : Int) : rdelU a b n g = delU a b n g := by
  unfold rdelU delU
  split
  · rfl
  · rename_i h0
    have hx : ∀ x, rdX a b x = delX a b x := fun x => by
      unfold rdX delX
      repeat' split
      all_goals omega
    refine turnU_congr n g fun j hj => ⟨?_, by simp only [movS, hx]⟩
    have h1 := (h.one j hj).1
    have h2 := h1.2.2.2.2.2.1
    have h4 := h1.2.2.2.1
    unfold kpS
    simp only [movS, hx]
    refine ⟨fun h3 => ⟨h3, fun h5 => ?_⟩, fun h3 => h3.1⟩
    have h6 := (h2 h5).1
    unfold delX at h3 ⊢
    clear h2 h1 h hx h5
    repeat' (split at h3)
    all_goals repeat' split
    all_goals omega
theorem turnU_le (tr : Sp → Sp) (kp : Sp → Prop) (n : Nat) (g : Nat → Sp) : (turnU tr kp n g).length ≤ n := turnU_len tr kp n g
theorem f4_ok (n : Nat) (hn : n ≤ 10000000000000) (g : Nat → Sp) (hs : ∀ j, j < n → inW (g j)) (z p q r : Int) : FSpec Try.prog 4 [.rows 6 n (spc g), .int .i64 z, .agg [.int .i64 p, .int .i64 q, .int .i64 r]] [] (fun r H' => r = .bool true ∧ H' = []) := by
  refine (show FSpec Try.prog 4 [.rows 6 n (spc g), .int .i64 z, .agg [.int .i64 p, .int .i64 q, .int .i64 r]] [] (fun r H' => r = .bool true) from ?_).weaken ?_
  case refine_2 =>
    rintro r H' rfl
    exact ⟨[], by cases H' <;> simp [heapCov], rfl, Nat.le_refl _, rfl, rfl⟩
  refine FSpec.of (fn := Try.f4) Try.func4 rfl rfl (by simp) fun C hC => ?_
  obtain ⟨iadd, isub, imul, iquo, irem, iband, ibor, ibxor, ibandn, ishl, ishr, iconv, ieq, ine, ilt, ile, igt, ige, bbeq, bbne, bnot, bband, sseq, ssne, sscat, sssub, sslen, sssz, ssbyte, toN, ofN, addN, subN, eqN, ltB, leN, imx, imn, inb, leb, sslt, ltN, fit, ne0, ge0, ssfit, minN, inR, bcol, bstr, isBy, hS⟩ := names
  refine V.goF (by first | exact trivial | assumption) Try.func4 tl_ok mixed hS.ops [] 3 ?_
  intro VV VA W hVV hVA hW
  conv => cbv
  rw [hVV]
  clear hVV hVA VV VA hW W
  refine V.freezePtr 5 rfl rfl rfl ?_
  obtain ⟨R, hR⟩ := bool_of (fitsL g n z)
  refine V.goF (by first | exact trivial | assumption) Try.func4 tl_ok mixed hS.ops [] 400 ?_
  intro VV VA W hVV hVA hW
  conv => cbv
  rw [hVV]
  clear hVV hVA VV VA hW W
  refine V.call rfl rfl rfl rfl rfl Try.func18 rfl (by decide) [] (by simp) (by simp) (by (first | rfl | ((conv => cbv); (repeat' apply And.intro) <;> first | rfl | trivial | (first | rfl | omega | (simp (disch := omega) only [hS.glob, wraps, plain, Int.ofNat_eq_natCast]; first | done | rfl | omega | (simp; done) | (simp; omega)) | (simp (disch := omega) only [hS.glob, wraps, plain, Int.ofNat_eq_natCast, Vx.toN]; omega))))) rfl (f18_ok n hn g hs z R hR) ?_
  rintro r0 Hc ⟨rfl, rfl⟩
  refine V.goF (by first | exact trivial | assumption) Try.func4 tl_ok mixed hS.ops [(5, .none)] 400 ?_
  intro VV VA W hVV hVA hW
  conv => cbv
  cases R
  case false =>
    conv => cbv
    rw [hVV]
    clear hVV hVA VV VA hW W
    refine V.call rfl rfl rfl rfl rfl Try.func8 rfl (by decide) [] (by simp) (by simp) (by (first | rfl | ((conv => cbv); (repeat' apply And.intro) <;> first | rfl | trivial | (first | rfl | omega | (simp (disch := omega) only [hS.glob, wraps, plain, Int.ofNat_eq_natCast]; first | done | rfl | omega | (simp; done) | (simp; omega)) | (simp (disch := omega) only [hS.glob, wraps, plain, Int.ofNat_eq_natCast, Vx.toN]; omega))))) rfl f8_ok ?_
    rintro r0 Hc ⟨rfl, rfl⟩
    refine V.goF (by first | exact trivial | assumption) Try.func4 tl_ok mixed hS.ops [] 400 ?_
    intro VV VA W hVV hVA hW
    conv => cbv
    trivial
  obtain ⟨c1, c2, c3, c4, hr⟩ := hR.1 rfl
  conv => cbv
  cases h1 : igt p 1048576
  case true =>
    conv => cbv
    rw [hVV]
    clear hVV hVA VV VA hW W
    refine V.call rfl rfl rfl rfl rfl Try.func8 rfl (by decide) [] (by simp) (by simp) (by (first | rfl | ((conv => cbv); (repeat' apply And.intro) <;> first | rfl | trivial | (first | rfl | omega | (simp (disch := omega) only [hS.glob, wraps, plain, Int.ofNat_eq_natCast]; first | done | rfl | omega | (simp; done) | (simp; omega)) | (simp (disch := omega) only [hS.glob, wraps, plain, Int.ofNat_eq_natCast, Vx.toN]; omega))))) rfl f8_ok ?_
    rintro r0 Hc ⟨rfl, rfl⟩
    refine V.goF (by first | exact trivial | assumption) Try.func4 tl_ok mixed hS.ops [] 400 ?_
    intro VV VA W hVV hVA hW
    conv => cbv
    trivial
  conv => cbv
  cases h2 : igt q 1048576
  case true =>
    conv => cbv
    rw [hVV]
    clear hVV hVA VV VA hW W
    refine V.call rfl rfl rfl rfl rfl Try.func8 rfl (by decide) [] (by simp) (by simp) (by (first | rfl | ((conv => cbv); (repeat' apply And.intro) <;> first | rfl | trivial | (first | rfl | omega | (simp (disch := omega) only [hS.glob, wraps, plain, Int.ofNat_eq_natCast]; first | done | rfl | omega | (simp; done) | (simp; omega)) | (simp (disch := omega) only [hS.glob, wraps, plain, Int.ofNat_eq_natCast, Vx.toN]; omega))))) rfl f8_ok ?_
    rintro r0 Hc ⟨rfl, rfl⟩
    refine V.goF (by first | exact trivial | assumption) Try.func4 tl_ok mixed hS.ops [] 400 ?_
    intro VV VA W hVV hVA hW
    conv => cbv
    trivial
  conv => cbv
  cases h3 : igt r 1048576
  case true =>
    conv => cbv
    rw [hVV]
    clear hVV hVA VV VA hW W
    refine V.call rfl rfl rfl rfl rfl Try.func8 rfl (by decide) [] (by simp) (by simp) (by (first | rfl | ((conv => cbv); (repeat' apply And.intro) <;> first | rfl | trivial | (first | rfl | omega | (simp (disch := omega) only [hS.glob, wraps, plain, Int.ofNat_eq_natCast]; first | done | rfl | omega | (simp; done) | (simp; omega)) | (simp (disch := omega) only [hS.glob, wraps, plain, Int.ofNat_eq_natCast, Vx.toN]; omega))))) rfl f8_ok ?_
    rintro r0 Hc ⟨rfl, rfl⟩
    refine V.goF (by first | exact trivial | assumption) Try.func4 tl_ok mixed hS.ops [] 400 ?_
    intro VV VA W hVV hVA hW
    conv => cbv
    trivial
  conv => cbv
  simp (disch := first | omega | (simp only [hS.glob, wraps, plain, Int.ofNat_eq_natCast]; omega)) only [hS.glob, wraps, plain, Int.ofNat_eq_natCast] at h1 h2 h3
  repeat (refine ⟨by first | (rw [hW]; show ordOk _ _ _ = true; kernel_rfl) | (first | trivial | omega | (simp (disch := omega) only [hS.glob, wraps, plain, Int.ofNat_eq_natCast]; first | done | omega | trivial | (simp; done) | (simp; omega) | (constructor <;> omega)) | (simp (disch := omega) only [hS.glob, wraps, plain, Int.ofNat_eq_natCast, Vx.toN]; omega)), ?_⟩)
  simp only [hS.tidy]
  rw [hVV]
  clear hVV hVA VV VA hW W
  refine V.freeze0 8 2 n (by rfl) (by rfl) (by rfl) (by first | decide | omega | exact (Nat.succ_pos _)) (by rfl) (by rfl) (by first | exact Nat.le_refl _ | decide | omega | (simp only [Cont.n]; omega)) ?_
  refine V.sub 8 (y := .rows 6 n (spc g)) (Sub.rows fun j hj => ?_) ?_
  · simp only [spc, Cont.f]
    cases hr : ltB j 0
    · exact Subs.refl _
    · simp (disch := first | omega | (simp only [hS.glob, wraps, plain, Int.ofNat_eq_natCast]; omega)) only [hS.glob, wraps, plain, Int.ofNat_eq_natCast] at hr; omega
  refine V.to (s' := [(8, .rows 6 n (spc g)), (5, .ref [.int .i64 p, .int .i64 q, .int .i64 r]), (0, .rows 6 n (spc g)), (1, .int .i64 z)]) (H' := []) ?_ (by (repeat' first | exact trivial | rfl | (refine And.intro ?_ ?_) | (refine sti ?_; (first | rfl | omega | (simp (disch := omega) only [hS.glob, wraps, plain, Int.ofNat_eq_natCast]; first | done | rfl | omega | (simp; done) | (simp; omega)) | (simp (disch := omega) only [hS.glob, wraps, plain, Int.ofNat_eq_natCast, Vx.toN]; omega))) | (refine slq ?_ ?_ ?_ <;> (first | rfl | omega | (simp (disch := omega) only [hS.glob, wraps, plain, Int.ofNat_eq_natCast]; first | done | rfl | omega | (simp; done) | (simp; omega)) | (simp (disch := omega) only [hS.glob, wraps, plain, Int.ofNat_eq_natCast, Vx.toN]; omega))) | (refine ptq ?_ ?_ ?_ <;> (first | rfl | omega | (simp (disch := omega) only [hS.glob, wraps, plain, Int.ofNat_eq_natCast]; first | done | rfl | omega | (simp; done) | (simp; omega)) | (simp (disch := omega) only [hS.glob, wraps, plain, Int.ofNat_eq_natCast, Vx.toN]; omega))) | (refine blq ?_; (first | rfl | omega | (simp (disch := omega) only [hS.glob, wraps, plain, Int.ofNat_eq_natCast]; first | done | rfl | omega | (simp; done) | (simp; omega)) | (simp (disch := omega) only [hS.glob, wraps, plain, Int.ofNat_eq_natCast, Vx.toN]; omega))))) rfl trivial (by rw [hC]; simp)
  have hm : ∀ j, j < n → mid2 (g j).fr ∧ mid2 (g j).to := fun j hj => by
    have h4 := hr.one j hj
    have h5 := h4.1.2.2.1
    have h6 := h4.1.2.2.2.1
    have h7 := h4.2
    unfold mid2
    omega
  obtain ⟨N1, hN1⟩ : ∃ N1, N1 = insU p q n g := ⟨_, rfl⟩
  obtain ⟨N2, hN2⟩ : ∃ N2, N2 = delU p r n g := ⟨_, rfl⟩
  have h19 := LstR.frozen (f19_ok n (by omega) g hm p q (by omega) (by omega) N1 hN1)
  have h20 := LstR.frozen (f20_ok n (by omega) g hm p q (by omega) (by omega) N1 (by rw [hN1, ins_eq hr]))
  have h21 := LstR.frozen (f21_ok n (by omega) g hm p r (by omega) N2 hN2)
  have h22 := LstR.frozen (f22_ok n (by omega) g hm p r (by omega) N2 (by rw [hN2, del_eq hr]))
  obtain ⟨m1, hm1⟩ : ∃ m, m = N1.length := ⟨_, rfl⟩
  obtain ⟨g1, hg1⟩ : ∃ g1, g1 = gL N1 := ⟨_, rfl⟩
  obtain ⟨m2, hm2⟩ : ∃ m, m = N2.length := ⟨_, rfl⟩
  obtain ⟨g2, hg2⟩ : ∃ g1, g1 = gL N2 := ⟨_, rfl⟩
  rw [← hm1, ← hg1] at h19 h20
  rw [← hm2, ← hg2] at h21 h22
  have s1 := f13_ok m1 m1 g1 g1 true ⟨fun _ => ⟨rfl, fun _ _ => rfl⟩, fun _ => rfl⟩
  have s2 := f13_ok m2 m2 g2 g2 true ⟨fun _ => ⟨rfl, fun _ _ => rfl⟩, fun _ => rfl⟩
  have s3 := f13_ok n n g g true ⟨fun _ => ⟨rfl, fun _ _ => rfl⟩, fun _ => rfl⟩
  refine V.drawnK tl_ok mixed (.one 0 .none (.one 1 .none (.one 2 .none (.one 3 .none (.one 4 .none (.one 6 .none (.alt 5 (.one 7 .none (.one 8 .none (.one 9 .none (.one 10 .none (.one 11 .none (.one 12 .none (.one 13 .none .done))))))) (.alt 7 (.alt 5 (.one 8 .none (.one 9 .none (.one 10 .none (.one 11 .none (.one 12 .none (.one 13 .none .done)))))) (.alt 8 (.alt 5 (.one 9 .none (.one 10 .none (.one 11 .none (.one 12 .none (.one 13 .none .done))))) (.alt 9 (.alt 5 (.one 10 .none (.one 11 .none (.one 12 .none (.one 13 .none .done)))) (.alt 10 (.one 5 .none (.one 11 .none (.one 12 .none (.one 13 .none .done)))) .none)) .none)) (.alt 9 (.alt 5 (.one 8 .none (.one 10 .none (.one 11 .none (.one 12 .none (.one 13 .none .done))))) (.alt 8 (.alt 5 (.one 10 .none (.one 11 .none (.one 12 .none (.one 13 .none .done)))) (.alt 10 (.one 5 .none (.one 11 .none (.one 12 .none (.one 13 .none .done)))) .none)) (.alt 10 (.alt 5 (.one 8 .none (.one 11 .none (.one 12 .none (.one 13 .none .done)))) (.alt 8 (.one 5 .none (.one 11 .none (.one 12 .none (.one 13 .none .done)))) .none)) .none))) .none))) (.alt 9 (.alt 5 (.one 7 .none (.one 8 .none (.one 10 .none (.one 11 .none (.one 12 .none (.one 13 .none .done)))))) (.alt 7 (.alt 5 (.one 8 .none (.one 10 .none (.one 11 .none (.one 12 .none (.one 13 .none .done))))) (.alt 8 (.alt 5 (.one 10 .none (.one 11 .none (.one 12 .none (.one 13 .none .done)))) (.alt 10 (.one 5 .none (.one 11 .none (.one 12 .none (.one 13 .none .done)))) .none)) (.alt 10 (.alt 5 (.one 8 .none (.one 11 .none (.one 12 .none (.one 13 .none .done)))) (.alt 8 (.one 5 .none (.one 11 .none (.one 12 .none (.one 13 .none .done)))) .none)) .none))) (.alt 10 (.alt 5 (.one 7 .none (.one 8 .none (.one 11 .none (.one 12 .none (.one 13 .none .done))))) (.alt 7 (.alt 5 (.one 8 .none (.one 11 .none (.one 12 .none (.one 13 .none .done)))) (.alt 8 (.one 5 .none (.one 11 .none (.one 12 .none (.one 13 .none .done)))) .none)) .none)) .none))) .none))))))))) (fun s H => covers s [(9, .bool true), (8, .rows 6 n (spc g)), (5, .ref [.int .i64 p, .int .i64 q, .int .i64 r]), (0, .rows 6 n (spc g)), (1, .int .i64 z)] ∧ H = []) (by kernel_rfl) ?_ ?_
  · refine AnyT.goK tl_ok hS.ops ?_
    intro KK VA hKK hVA
    conv => cbv
    repeat' apply And.intro
    all_goals first | trivial | skip
    all_goals
      rw [hVA]
      clear hKK hVA KK VA
      refine AnyT.call rfl rfl rfl rfl rfl Try.func19 rfl (by decide) [] (by simp) (by simp) (by (first | rfl | ((conv => cbv); (repeat' apply And.intro) <;> first | rfl | trivial | (first | rfl | omega | (simp (disch := omega) only [hS.glob, wraps, plain, Int.ofNat_eq_natCast]; first | done | rfl | omega | (simp; done) | (simp; omega)) | (simp (disch := omega) only [hS.glob, wraps, plain, Int.ofNat_eq_natCast, Vx.toN]; omega))))) rfl h19 ?_
      rintro r0 Hc ⟨rfl, rfl⟩
      refine AnyT.goK tl_ok hS.ops ?_
      intro KK VA hKK hVA
      conv => cbv
      rw [hVA]
      clear hKK hVA KK VA
      refine AnyT.call rfl rfl rfl rfl rfl Try.func20 rfl (by decide) [] (by simp) (by simp) (by (first | rfl | ((conv => cbv); (repeat' apply And.intro) <;> first | rfl | trivial | (first | rfl | omega | (simp (disch := omega) only [hS.glob, wraps, plain, Int.ofNat_eq_natCast]; first | done | rfl | omega | (simp; done) | (simp; omega)) | (simp (disch := omega) only [hS.glob, wraps, plain, Int.ofNat_eq_natCast, Vx.toN]; omega))))) rfl h20 ?_
      rintro r0 Hc ⟨rfl, rfl⟩
      refine AnyT.goK tl_ok hS.ops ?_
      intro KK VA hKK hVA
      conv => cbv
      rw [hVA]
      clear hKK hVA KK VA
      refine AnyT.call rfl rfl rfl rfl rfl Try.func13 rfl (by decide) [] (by simp) (by simp) (by (first | rfl | ((conv => cbv); (repeat' apply And.intro) <;> first | rfl | trivial | (first | rfl | omega | (simp (disch := omega) only [hS.glob, wraps, plain, Int.ofNat_eq_natCast]; first | done | rfl | omega | (simp; done) | (simp; omega)) | (simp (disch := omega) only [hS.glob, wraps, plain, Int.ofNat_eq_natCast, Vx.toN]; omega))))) rfl s1 ?_
      rintro r0 Hc ⟨rfl, rfl⟩
      refine AnyT.goK tl_ok hS.ops ?_
      intro KK VA hKK hVA
      conv => cbv
      rw [hKK]
      exact ⟨⟨rfl, rfl, rfl, rfl, rfl, trivial⟩, rfl⟩
  rintro s H ⟨hcov, rfl⟩
  refine V.to (s' := [(9, .bool true), (8, .rows 6 n (spc g)), (5, .ref [.int .i64 p, .int .i64 q, .int .i64 r]), (0, .rows 6 n (spc g)), (1, .int .i64 z)]) (H' := []) ?_ hcov rfl trivial (by rw [hC]; simp)
  clear hcov
  refine V.goF (by first | exact trivial | assumption) Try.func4 tl_ok mixed hS.ops [(6, .none)] 400 ?_
  intro VV VA W hVV hVA hW
  conv => cbv
  rw [hVV]
  clear hVV hVA VV VA hW W
  refine V.drawnK tl_ok mixed (.one 0 .none (.one 1 .none (.one 2 .none (.one 3 .none (.one 4 .none (.one 6 .none (.alt 5 (.one 7 .none (.one 8 .none (.one 9 .none (.one 10 .none (.one 11 .none (.one 12 .none (.one 13 .none .done))))))) (.alt 7 (.alt 5 (.one 8 .none (.one 9 .none (.one 10 .none (.one 11 .none (.one 12 .none (.one 13 .none .done)))))) (.alt 8 (.alt 5 (.one 9 .none (.one 10 .none (.one 11 .none (.one 12 .none (.one 13 .none .done))))) (.alt 9 (.alt 5 (.one 10 .none (.one 11 .none (.one 12 .none (.one 13 .none .done)))) (.alt 10 (.one 5 .none (.one 11 .none (.one 12 .none (.one 13 .none .done)))) .none)) .none)) (.alt 9 (.alt 5 (.one 8 .none (.one 10 .none (.one 11 .none (.one 12 .none (.one 13 .none .done))))) (.alt 8 (.alt 5 (.one 10 .none (.one 11 .none (.one 12 .none (.one 13 .none .done)))) (.alt 10 (.one 5 .none (.one 11 .none (.one 12 .none (.one 13 .none .done)))) .none)) (.alt 10 (.alt 5 (.one 8 .none (.one 11 .none (.one 12 .none (.one 13 .none .done)))) (.alt 8 (.one 5 .none (.one 11 .none (.one 12 .none (.one 13 .none .done)))) .none)) .none))) .none))) (.alt 9 (.alt 5 (.one 7 .none (.one 8 .none (.one 10 .none (.one 11 .none (.one 12 .none (.one 13 .none .done)))))) (.alt 7 (.alt 5 (.one 8 .none (.one 10 .none (.one 11 .none (.one 12 .none (.one 13 .none .done))))) (.alt 8 (.alt 5 (.one 10 .none (.one 11 .none (.one 12 .none (.one 13 .none .done)))) (.alt 10 (.one 5 .none (.one 11 .none (.one 12 .none (.one 13 .none .done)))) .none)) (.alt 10 (.alt 5 (.one 8 .none (.one 11 .none (.one 12 .none (.one 13 .none .done)))) (.alt 8 (.one 5 .none (.one 11 .none (.one 12 .none (.one 13 .none .done)))) .none)) .none))) (.alt 10 (.alt 5 (.one 7 .none (.one 8 .none (.one 11 .none (.one 12 .none (.one 13 .none .done))))) (.alt 7 (.alt 5 (.one 8 .none (.one 11 .none (.one 12 .none (.one 13 .none .done)))) (.alt 8 (.one 5 .none (.one 11 .none (.one 12 .none (.one 13 .none .done)))) .none)) .none)) .none))) .none))))))))) (fun s H => covers s [(10, .bool true), (9, .bool true), (8, .rows 6 n (spc g)), (5, .ref [.int .i64 p, .int .i64 q, .int .i64 r]), (0, .rows 6 n (spc g)), (1, .int .i64 z)] ∧ H = []) (by kernel_rfl) ?_ ?_
  · refine AnyT.goK tl_ok hS.ops ?_
    intro KK VA hKK hVA
    conv => cbv
    repeat' apply And.intro
    all_goals first | trivial | skip
    all_goals
      rw [hVA]
      clear hKK hVA KK VA
      refine AnyT.call rfl rfl rfl rfl rfl Try.func21 rfl (by decide) [] (by simp) (by simp) (by (first | rfl | ((conv => cbv); (repeat' apply And.intro) <;> first | rfl | trivial | (first | rfl | omega | (simp (disch := omega) only [hS.glob, wraps, plain, Int.ofNat_eq_natCast]; first | done | rfl | omega | (simp; done) | (simp; omega)) | (simp (disch := omega) only [hS.glob, wraps, plain, Int.ofNat_eq_natCast, Vx.toN]; omega))))) rfl h21 ?_
      rintro r0 Hc ⟨rfl, rfl⟩
      refine AnyT.goK tl_ok hS.ops ?_
      intro KK VA hKK hVA
      conv => cbv
      rw [hVA]
      clear hKK hVA KK VA
      refine AnyT.call rfl rfl rfl rfl rfl Try.func22 rfl (by decide) [] (by simp) (by simp) (by (first | rfl | ((conv => cbv); (repeat' apply And.intro) <;> first | rfl | trivial | (first | rfl | omega | (simp (disch := omega) only [hS.glob, wraps, plain, Int.ofNat_eq_natCast]; first | done | rfl | omega | (simp; done) | (simp; omega)) | (simp (disch := omega) only [hS.glob, wraps, plain, Int.ofNat_eq_natCast, Vx.toN]; omega))))) rfl h22 ?_
      rintro r0 Hc ⟨rfl, rfl⟩
      refine AnyT.goK tl_ok hS.ops ?_
      intro KK VA hKK hVA
      conv => cbv
      rw [hVA]
      clear hKK hVA KK VA
      refine AnyT.call rfl rfl rfl rfl rfl Try.func13 rfl (by decide) [] (by simp) (by simp) (by (first | rfl | ((conv => cbv); (repeat' apply And.intro) <;> first | rfl | trivial | (first | rfl | omega | (simp (disch := omega) only [hS.glob, wraps, plain, Int.ofNat_eq_natCast]; first | done | rfl | omega | (simp; done) | (simp; omega)) | (simp (disch := omega) only [hS.glob, wraps, plain, Int.ofNat_eq_natCast, Vx.toN]; omega))))) rfl s2 ?_
      rintro r0 Hc ⟨rfl, rfl⟩
      refine AnyT.goK tl_ok hS.ops ?_
      intro KK VA hKK hVA
      conv => cbv
      rw [hKK]
      exact ⟨⟨rfl, rfl, rfl, rfl, rfl, rfl, trivial⟩, rfl⟩
  rintro s H ⟨hcov, rfl⟩
  refine V.to (s' := [(10, .bool true), (9, .bool true), (8, .rows 6 n (spc g)), (5, .ref [.int .i64 p, .int .i64 q, .int .i64 r]), (0, .rows 6 n (spc g)), (1, .int .i64 z)]) (H' := []) ?_ hcov rfl trivial (by rw [hC]; simp)
  clear hcov
  refine V.goF (by first | exact trivial | assumption) Try.func4 tl_ok mixed hS.ops [] 400 ?_
  intro VV VA W hVV hVA hW
  conv => cbv
  rw [hVV]
  clear hVV hVA VV VA hW W
  refine V.call rfl rfl rfl rfl rfl Try.func13 rfl (by decide) [] (by simp) (by simp) (by (first | rfl | ((conv => cbv); (repeat' apply And.intro) <;> first | rfl | trivial | (first | rfl | omega | (simp (disch := omega) only [hS.glob, wraps, plain, Int.ofNat_eq_natCast]; first | done | rfl | omega | (simp; done) | (simp; omega)) | (simp (disch := omega) only [hS.glob, wraps, plain, Int.ofNat_eq_natCast, Vx.toN]; omega))))) rfl s3 ?_
  rintro r0 Hc ⟨rfl, rfl⟩
  refine V.goF (by first | exact trivial | assumption) Try.func4 tl_ok mixed hS.ops [] 400 ?_
  intro VV VA W hVV hVA hW
  conv => cbv
  rw [hVV]
  clear hVV hVA VV VA hW W
  refine V.call rfl rfl rfl rfl rfl Try.func8 rfl (by decide) [] (by simp) (by simp) (by (first | rfl | ((conv => cbv); (repeat' apply And.intro) <;> first | rfl | trivial | (first | rfl | omega | (simp (disch := omega) only [hS.glob, wraps, plain, Int.ofNat_eq_natCast]; first | done | rfl | omega | (simp; done) | (simp; omega)) | (simp (disch := omega) only [hS.glob, wraps, plain, Int.ofNat_eq_natCast, Vx.toN]; omega))))) rfl f8_ok ?_
  rintro r0 Hc ⟨rfl, rfl⟩
  refine V.goF (by first | exact trivial | assumption) Try.func4 tl_ok mixed hS.ops [] 400 ?_
  intro VV VA W hVV hVA hW
  conv => cbv
  trivial
end Go.Proofs.Ytandgpkibpggnaa

/- Plain laws of spans: lists that are right; styles by membership. -/
namespace Go.Proofs.Ytandgpkibpggnaa
open Go Vx
theorem mem_tab {α : Type} {n : Nat} {f : Nat → α} {x : α} : x ∈ tab n f ↔ ∃ j, j < n ∧ f j = x := by
  simp [tab]
structure RightT (L : List Sp) (z : Int) : Prop where
  len : L.length ≤ 40
  one : ∀ t ∈ L, okSp t ∧ t.to ≤ z
  two : L.Pairwise fun a b => a.to ≤ b.fr
theorem RightL.all {g : Nat → Sp} {n : Nat} {z : Int} (h : RightL g n z) : ∀ j k, j < k → k < n → (g j).to ≤ (g k).fr := by
  intro j k hjk hk
  obtain ⟨d, rfl⟩ : ∃ d, k = j + 1 + d := ⟨k - (j + 1), by omega⟩
  clear hjk
  induction d with
  | zero => exact h.two j (by omega)
  | succ d ih =>
    have h1 := ih (by omega)
    have h2 := h.two (j + 1 + d) (by omega)
    have h3 := (h.one (j + 1 + d) (by omega)).1.2.2.2.1
    have e : j + 1 + (d + 1) = j + 1 + d + 1 := by omega
    rw [e]
    omega
theorem RightT.fn {h : Nat → Sp} {m : Nat} {z : Int} (r : RightT (tab m h) z) : RightL h m z := by
  refine ⟨by have := r.len; rwa [tab_len] at this, fun j hj => r.one _ (mem_tab.2 ⟨j, hj, rfl⟩), fun j hj => ?_⟩
  have := List.pairwise_iff_getElem.1 r.two j (j + 1) (by rw [tab_len]; omega) (by rw [tab_len]; exact hj) (by omega)
  simpa [tab] using this
theorem RightT.gl {N : List Sp} {z : Int} (r : RightT N z) : RightL (gL N) N.length z := by
  have e := tab_gL N
  exact RightT.fn (by rw [e]; exact r)
theorem RightL.list {g : Nat → Sp} {n : Nat} {z : Int} (h : RightL g n z) : RightT (tab n g) z := by
  refine ⟨by rw [tab_len]; exact h.len, fun t ht => ?_, ?_⟩
  · obtain ⟨j, hj, rfl⟩ := mem_tab.1 ht
    exact h.one j hj
  · refine List.pairwise_iff_getElem.2 fun j k hj hk hjk => ?_
    rw [tab_len] at hj hk
    have := h.all j k hjk hk
    simpa [tab] using this
theorem mem_turn {tr : Sp → Sp} {kp : Sp → Prop} {n : Nat} {g : Nat → Sp} {t : Sp} : t ∈ turnU tr kp n g ↔ ∃ j, j < n ∧ kp (g j) ∧ t = tr (g j) := by
  induction n with
  | zero => simp [turnU, tab]
  | succ n ih =>
    by_cases hk : kp (g n)
    · rw [(turnU_succ tr kp n g).1 hk, List.mem_append, ih]
      constructor
      · rintro (⟨j, h1, h2⟩ | h1)
        · exact ⟨j, by omega, h2⟩
        · exact ⟨n, by omega, hk, by simpa using h1⟩
      · rintro ⟨j, h1, h2, h3⟩
        rcases Nat.lt_or_ge j n with h4 | h4
        · exact .inl ⟨j, h4, h2, h3⟩
        · obtain rfl : j = n := by omega
          exact .inr (by simp [h3])
    · rw [(turnU_succ tr kp n g).2 hk, ih]
      constructor
      · rintro ⟨j, h1, h2⟩; exact ⟨j, by omega, h2⟩
      · rintro ⟨j, h1, h2, h3⟩
        rcases Nat.lt_or_ge j n with h4 | h4
        · exact ⟨j, h4, h2, h3⟩
        · obtain rfl : j = n := by omega
          exact absurd h2 hk
theorem turn_right {tr : Sp → Sp} {kp : Sp → Prop} {n : Nat} {g : Nat → Sp} {z : Int} (hn : n ≤ 40) (h1 : ∀ j, j < n → kp (g j) → okSp (tr (g j)) ∧ (tr (g j)).to ≤ z) (h2 : ∀ j k, j < k → k < n → (tr (g j)).to ≤ (tr (g k)).fr) : RightT (turnU tr kp n g) z := by
  refine ⟨Nat.le_trans (turnU_len tr kp n g) hn, fun t ht => ?_, ?_⟩
  · obtain ⟨j, hj, hk, rfl⟩ := mem_turn.1 ht
    exact h1 j hj hk
  · have : ∀ i, i ≤ n → (turnU tr kp i g).Pairwise fun a b => a.to ≤ b.fr := by
      intro i
      induction i with
      | zero => intro _; simp [turnU, tab]
      | succ i ih =>
        intro hi
        by_cases hk : kp (g i)
        · rw [(turnU_succ tr kp i g).1 hk, List.pairwise_append]
          refine ⟨ih (by omega), by simp, fun a ha b hb => ?_⟩
          obtain ⟨j, hj, _, rfl⟩ := mem_turn.1 ha
          obtain rfl : b = tr (g i) := by simpa using hb
          exact h2 j i hj (by omega)
        · rw [(turnU_succ tr kp i g).2 hk]
          exact ih (by omega)
    exact this n (Nat.le_refl _)
/-- Styles by membership. -/
theorem sty_mem {g : Nat → Sp} {n : Nat} {z : Int} (h : RightL g n z) (x : Int) : (∀ t ∈ tab n g, inSp t x → styS g n x = bareS t) ∧ ((∀ t ∈ tab n g, ¬ inSp t x) → styS g n x = noSp) := by
  refine ⟨fun t ht hx => ?_, fun hno => ?_⟩
  · obtain ⟨j, hj, rfl⟩ := mem_tab.1 ht
    have e : atF g x 0 n = some j := atF_some n 0 j (Nat.zero_le _) (by omega) hx (fun i _ hi hi2 => by
      have h1 := h.all i j hi hj
      unfold inSp at hx hi2
      omega)
    unfold styS
    rw [e]
  · have e : atF g x 0 n = none := atF_none n 0 (fun j _ hj => hno _ (mem_tab.2 ⟨j, by omega, rfl⟩))
    unfold styS
    rw [e]
theorem styT {N : List Sp} {z : Int} (h : RightT N z) (x : Int) : (∀ t ∈ N, inSp t x → styS (gL N) N.length x = bareS t) ∧ ((∀ t ∈ N, ¬ inSp t x) → styS (gL N) N.length x = noSp) := by
  have := sty_mem h.gl x
  rwa [tab_gL] at this
/-! ### Scalars that come and go -/
theorem ins_right {g : Nat → Sp} {n : Nat} {z a k : Int} (h : RightL g n z) (ha : 0 ≤ a) (hk : 0 ≤ k) : RightT (insU a k n g) (z + k) := by
  unfold insU
  rw [if_neg (by omega)]
  refine turn_right h.len (fun j hj hkp => ?_) (fun j q hjq hq => ?_)
  · obtain ⟨⟨o1, o2, o3, o4, o5, o6, o7⟩, o8⟩ := h.one j hj
    obtain ⟨k1, k2⟩ := hkp
    simp only [insS, movS] at k1 k2 ⊢
    refine ⟨⟨o1, o2, ?_, k1, o5, fun hc => ⟨k2 hc, (o6 hc).2⟩, o7⟩, ?_⟩
    · simp only [insX]; split <;> omega
    · simp only [insX]; split <;> omega
  · have h1 := h.all j q hjq hq
    simp only [insS, movS, insX]
    split <;> split <;> omega
theorem del_right {g : Nat → Sp} {n : Nat} {z a k w : Int} (h : RightL g n z) (ha : 0 ≤ a) (hk : 0 ≤ k) (haz : a ≤ z) (hw : w = z - min k (z - a)) : RightT (delU a (a + k) n g) w := by
  unfold delU
  rw [if_neg (by omega)]
  refine turn_right h.len (fun j hj hkp => ?_) (fun j q hjq hq => ?_)
  · obtain ⟨⟨o1, o2, o3, o4, o5, o6, o7⟩, o8⟩ := h.one j hj
    obtain ⟨k1, k2⟩ := hkp
    simp only [movS] at k1 k2 ⊢
    refine ⟨⟨o1, o2, ?_, k1, o5, fun hc => ⟨k2 hc, (o6 hc).2⟩, o7⟩, ?_⟩
    · simp only [delX]; repeat' split
      all_goals omega
    · simp only [delX]; repeat' split
      all_goals omega
  · have h1 := h.all j q hjq hq
    simp only [movS, delX]
    repeat' split
    all_goals omega
/-- There and back. -/
theorem back_eq {g : Nat → Sp} {n : Nat} {z a k : Int} (h : RightL g n z) (ha : 0 ≤ a) (hk : 0 ≤ k) (N : List Sp) (hN : N = insU a k n g) :
    delU a (a + k) N.length (gL N) = turnU id (fun s => s.co = false ∨ a ≤ s.fr ∨ s.to ≤ a ∨ s.to - s.fr + k ≤ 4) n g := by
  have eN := tab_gL N
  unfold delU
  rw [if_neg (by omega)]
  have e1 : ∀ (tr : Sp → Sp) (kp : Sp → Prop), turnU tr kp N.length (gL N) = (open Classical in N.flatMap fun s => if kp s then [tr s] else []) := fun tr kp => by
    unfold turnU
    rw [eN]
  rw [e1]
  clear e1 eN
  have key : ∀ i, i ≤ n → (open Classical in (turnU (insS a k) (fun s => kpS (insS a k s)) i g).flatMap fun s => if kpS (movS (delX a (a + k)) (delX a (a + k)) s) then [movS (delX a (a + k)) (delX a (a + k)) s] else []) = turnU id (fun s => s.co = false ∨ a ≤ s.fr ∨ s.to ≤ a ∨ s.to - s.fr + k ≤ 4) i g := by
    intro i
    induction i with
    | zero => intro _; simp [turnU, tab]
    | succ i ih =>
      intro hi
      obtain ⟨⟨o1, o2, o3, o4, o5, o6, o7⟩, o8⟩ := h.one i (by omega)
      have hback : movS (delX a (a + k)) (delX a (a + k)) (insS a k (g i)) = g i := by
        have e2 : delX a (a + k) (insX a k (g i).fr) = (g i).fr := by
          simp only [delX, insX]; repeat' split
          all_goals omega
        have e3 : delX a (a + k) (insX (a + 1) k (g i).to) = (g i).to := by
          simp only [delX, insX]; repeat' split
          all_goals omega
        simp only [movS, insS, e2, e3]
      have hkp : kpS (g i) := ⟨o4, fun hc => (o6 hc).1⟩
      have hiff : kpS (insS a k (g i)) ↔ ((g i).co = false ∨ a ≤ (g i).fr ∨ (g i).to ≤ a ∨ (g i).to - (g i).fr + k ≤ 4) := by
        unfold kpS
        simp only [insS, movS]
        cases hc : (g i).co with
        | false =>
          simp only [insX]
          refine ⟨fun _ => .inl (by trivial), fun _ => ⟨?_, fun h => absurd h (by decide)⟩⟩
          repeat' split
          all_goals omega
        | true =>
          have := (o6 hc).1
          simp only [insX]
          constructor
          · rintro ⟨h1, h2⟩
            have h2 := h2 (by trivial)
            right
            clear o5 o6 o7
            split at h2 <;> split at h2 <;> omega
          · rintro (h1 | h1)
            · cases h1
            · refine ⟨?_, fun _ => ?_⟩
              · repeat' split
                all_goals omega
              · repeat' split
                all_goals omega
      by_cases hk2 : kpS (insS a k (g i))
      · rw [(turnU_succ (insS a k) (fun s => kpS (insS a k s)) i g).1 hk2, List.flatMap_append, ih (by omega), (turnU_succ id _ i g).1 (hiff.1 hk2)]
        congr 1
        simp only [List.flatMap_cons, List.flatMap_nil, List.append_nil]
        rw [if_pos (by rw [hback]; exact hkp), hback]
        rfl
      · rw [(turnU_succ (insS a k) (fun s => kpS (insS a k s)) i g).2 hk2, ih (by omega), (turnU_succ id _ i g).2 (fun hx => hk2 (hiff.2 hx))]
  have := key n (Nat.le_refl _)
  rw [hN]
  unfold insU
  rw [if_neg (by omega)]
  exact this
/-! ### The others -/
theorem del_sty {g : Nat → Sp} {n : Nat} {z a k i p : Int} (h : RightL g n z) (ha : 0 ≤ a) (hk : 0 ≤ k) (haz : a ≤ z) (hi : ¬ (a ≤ i ∧ i < a + k)) (hp : p = if a + k ≤ i then i - k else i) (N : List Sp) (hN : N = delU a (a + k) n g) : styS (gL N) N.length p = styS g n i := by
  have hr := del_right h ha hk haz rfl
  rw [← hN] at hr
  obtain ⟨m1, m2⟩ := styT hr p
  obtain ⟨q1, q2⟩ := sty_mem h i
  unfold delU at hN
  rw [if_neg (by omega)] at hN
  have hin : ∀ x, (x ≤ i ↔ delX a (a + k) x ≤ p) := fun x => by
    simp only [delX, hp]
    repeat' split
    all_goals omega
  have eqv : ∀ j, j < n → (inSp (g j) i ↔ inSp (movS (delX a (a + k)) (delX a (a + k)) (g j)) p) := fun j hj => by
    have h1 := hin (g j).fr
    have h2 := hin (g j).to
    unfold inSp
    simp only [movS]
    omega
  by_cases hx : ∃ j, j < n ∧ inSp (g j) i
  · obtain ⟨j, hj, hx⟩ := hx
    rw [q1 _ (mem_tab.2 ⟨j, hj, rfl⟩) hx]
    have hx2 := (eqv j hj).1 hx
    have o := (h.one j hj).1
    rw [m1 (movS (delX a (a + k)) (delX a (a + k)) (g j)) ?_ hx2]
    · rfl
    · rw [hN]
      refine mem_turn.2 ⟨j, hj, ⟨?_, fun hc => ?_⟩, rfl⟩
      · unfold inSp at hx2; omega
      · have o6 := (o.2.2.2.2.2.1 hc).1
        have o4 := o.2.2.2.1
        simp only [movS, delX]
        repeat' split
        all_goals omega
  · rw [q2 (fun t ht hx2 => by
      obtain ⟨j, hj, rfl⟩ := mem_tab.1 ht
      exact hx ⟨j, hj, hx2⟩), m2]
    intro t ht hx2
    rw [hN] at ht
    obtain ⟨j, hj, _, rfl⟩ := mem_turn.1 ht
    exact hx ⟨j, hj, (eqv j hj).2 hx2⟩
theorem ins_sty {g : Nat → Sp} {n : Nat} {z a k i p : Int} (h : RightL g n z) (ha : 0 ≤ a) (hk : 0 ≤ k) (hp : p = if a ≤ i then i + k else i) (N : List Sp) (hN : N = insU a k n g) : (styS g n i).co = true ∨ styS (gL N) N.length p = styS g n i := by
  have hr := ins_right h ha hk
  rw [← hN] at hr
  obtain ⟨m1, m2⟩ := styT hr p
  obtain ⟨q1, q2⟩ := sty_mem h i
  unfold insU at hN
  rw [if_neg (by omega)] at hN
  have eqv : ∀ j, j < n → (inSp (g j) i ↔ inSp (insS a k (g j)) p) := fun j hj => by
    unfold inSp
    simp only [insS, movS, insX, hp]
    repeat' split
    all_goals omega
  by_cases hx : ∃ j, j < n ∧ inSp (g j) i
  · obtain ⟨j, hj, hx⟩ := hx
    rw [q1 _ (mem_tab.2 ⟨j, hj, rfl⟩) hx]
    cases hc : (g j).co with
    | true => exact .inl hc
    | false =>
      right
      have hx2 := (eqv j hj).1 hx
      rw [m1 (insS a k (g j)) ?_ hx2]
      · rfl
      · rw [hN]
        refine mem_turn.2 ⟨j, hj, ⟨?_, fun hc2 => ?_⟩, rfl⟩
        · unfold inSp at hx2; omega
        · have : (insS a k (g j)).co = (g j).co := rfl
          rw [this, hc] at hc2
          cases hc2
  · right
    rw [q2 (fun t ht hx2 => by
      obtain ⟨j, hj, rfl⟩ := mem_tab.1 ht
      exact hx ⟨j, hj, hx2⟩), m2]
    intro t ht hx2
    rw [hN] at ht
    obtain ⟨j, hj, _, rfl⟩ := mem_turn.1 ht
    exact hx ⟨j, hj, (eqv j hj).2 hx2⟩
end Go.Proofs.Ytandgpkibpggnaa

/- The law SpanBack. -/
namespace Go.Proofs.Ytandgpkibpggnaa
open Go Vx
theorem turn_sz {tr : Sp → Sp} {kp : Sp → Prop} {n : Nat} {g : Nat → Sp} {z w : Int} (hsz : ∀ j, j < n → inSz (g j)) (htr : ∀ s : Sp, (tr s).ru = s.ru ∧ (tr s).sc = s.sc) (hw : w ≤ 9223372036854775807) (N : List Sp) (hN : N = turnU tr kp n g) (h : RightT N w) : ∀ j, j < N.length → inSz (gL N j) := by
  intro j hj
  have e := tab_gL N
  have ht : gL N j ∈ N := by
    have : gL N j ∈ tab N.length (gL N) := mem_tab.2 ⟨j, hj, rfl⟩
    rwa [e] at this
  obtain ⟨t, hte⟩ : ∃ t, t = gL N j := ⟨_, rfl⟩
  rw [← hte] at ht ⊢
  obtain ⟨⟨o1, o2, o3, o4, _⟩, o8⟩ := h.one _ ht
  rw [hN] at ht
  obtain ⟨q, hq, _, he⟩ := mem_turn.1 ht
  rw [he] at o3 o4 o8 ⊢
  obtain ⟨s1, s2, s3, s4⟩ := hsz q hq
  obtain ⟨t1, t2⟩ := htr (g q)
  exact ⟨by omega, by omega, by rw [t2]; exact s3, by rw [t1]; exact s4⟩
set_option maxHeartbeats 4000000 in
theorem f6_ok (n : Nat) (hn : n ≤ 10000000000000) (g : Nat → Sp) (hs : ∀ j, j < n → inW (g j)) (z p q : Int) : FSpec Try.prog 6 [.rows 6 n (spc g), .int .i64 z, .agg [.int .i64 p, .int .i64 q]] [] (fun r H' => r = .bool true ∧ H' = []) := by
  refine (show FSpec Try.prog 6 [.rows 6 n (spc g), .int .i64 z, .agg [.int .i64 p, .int .i64 q]] [] (fun r H' => r = .bool true) from ?_).weaken ?_
  case refine_2 =>
    rintro r H' rfl
    exact ⟨[], by cases H' <;> simp [heapCov], rfl, Nat.le_refl _, rfl, rfl⟩
  refine FSpec.of (fn := Try.f6) Try.func6 rfl rfl (by simp) fun C hC => ?_
  obtain ⟨iadd, isub, imul, iquo, irem, iband, ibor, ibxor, ibandn, ishl, ishr, iconv, ieq, ine, ilt, ile, igt, ige, bbeq, bbne, bnot, bband, sseq, ssne, sscat, sssub, sslen, sssz, ssbyte, toN, ofN, addN, subN, eqN, ltB, leN, imx, imn, inb, leb, sslt, ltN, fit, ne0, ge0, ssfit, minN, inR, bcol, bstr, isBy, hS⟩ := names
  refine V.goF (by first | exact trivial | assumption) Try.func6 tl_ok mixed hS.ops [] 3 ?_
  intro VV VA W hVV hVA hW
  conv => cbv
  rw [hVV]
  clear hVV hVA VV VA hW W
  refine V.freezePtr 5 rfl rfl rfl ?_
  obtain ⟨R, hR⟩ := bool_of (fitsL g n z)
  refine V.goF (by first | exact trivial | assumption) Try.func6 tl_ok mixed hS.ops [] 400 ?_
  intro VV VA W hVV hVA hW
  conv => cbv
  rw [hVV]
  clear hVV hVA VV VA hW W
  refine V.call rfl rfl rfl rfl rfl Try.func18 rfl (by decide) [] (by simp) (by simp) (by (first | rfl | ((conv => cbv); (repeat' apply And.intro) <;> first | rfl | trivial | (first | rfl | omega | (simp (disch := omega) only [hS.glob, wraps, plain, Int.ofNat_eq_natCast]; first | done | rfl | omega | (simp; done) | (simp; omega)) | (simp (disch := omega) only [hS.glob, wraps, plain, Int.ofNat_eq_natCast, Vx.toN]; omega))))) rfl (f18_ok n hn g hs z R hR) ?_
  rintro r0 Hc ⟨rfl, rfl⟩
  refine V.goF (by first | exact trivial | assumption) Try.func6 tl_ok mixed hS.ops [] 400 ?_
  intro VV VA W hVV hVA hW
  conv => cbv
  cases R
  case false =>
    conv => cbv
    rw [hVV]
    clear hVV hVA VV VA hW W
    refine V.call rfl rfl rfl rfl rfl Try.func8 rfl (by decide) [] (by simp) (by simp) (by (first | rfl | ((conv => cbv); (repeat' apply And.intro) <;> first | rfl | trivial | (first | rfl | omega | (simp (disch := omega) only [hS.glob, wraps, plain, Int.ofNat_eq_natCast]; first | done | rfl | omega | (simp; done) | (simp; omega)) | (simp (disch := omega) only [hS.glob, wraps, plain, Int.ofNat_eq_natCast, Vx.toN]; omega))))) rfl f8_ok ?_
    rintro r0 Hc ⟨rfl, rfl⟩
    refine V.goF (by first | exact trivial | assumption) Try.func6 tl_ok mixed hS.ops [] 400 ?_
    intro VV VA W hVV hVA hW
    conv => cbv
    trivial
  obtain ⟨c1, c2, c3, c4, hr⟩ := hR.1 rfl
  have hz : ∀ j, j < n → inSz (g j) := fun j hj => (hs j hj).sz (c4 j hj)
  have hmid : ∀ j, j < n → mid2 (g j).fr ∧ mid2 (g j).to := fun j hj => by
    have h4 := hr.one j hj
    have h5 := h4.1.2.2.1
    have h6 := h4.1.2.2.2.1
    have h7 := h4.2
    unfold mid2
    omega
  obtain ⟨a0, ha0⟩ : ∃ a0, a0 = iband .i64 p 1023 := ⟨_, rfl⟩
  obtain ⟨k, hk⟩ : ∃ k, k = iband .i64 q 63 := ⟨_, rfl⟩
  have hb1 : 0 ≤ a0 ∧ a0 ≤ 1023 := by rw [ha0]; simp only [hS.glob]; exact iband_le p 1023 (by decide)
  have hb2 : 0 ≤ k ∧ k ≤ 63 := by rw [hk]; simp only [hS.glob]; exact iband_le q 63 (by decide)
  obtain ⟨a, ha⟩ : ∃ a, a = if z < a0 then z else a0 := ⟨_, rfl⟩
  have hb3 : 0 ≤ a ∧ a ≤ z ∧ a ≤ 1023 := by rw [ha]; split <;> omega
  obtain ⟨N1, hN1⟩ : ∃ N, N = insU a k n g := ⟨_, rfl⟩
  have h19 := LstR.frozen (f19_ok n (by omega) g hmid a k (by omega) (by omega) N1 hN1)
  have r1 := ins_right hr hb3.1 hb2.1
  rw [← hN1] at r1
  have l1 : N1.length ≤ 40 := r1.len
  have hz1 : ∀ j, j < N1.length → inSz (gL N1 j) := turn_sz (z := z) (tr := insS a k) (kp := fun s => kpS (insS a k s)) hz (fun s => ⟨rfl, rfl⟩) (by omega : z + k ≤ 9223372036854775807) N1 (by rw [hN1]; unfold insU; rw [if_neg (by omega)]) r1
  have rg1 := r1.gl
  have hmid1 : ∀ j, j < N1.length → mid2 (gL N1 j).fr ∧ mid2 (gL N1 j).to := fun j hj => by
    have h4 := rg1.one j hj
    have h5 := h4.1.2.2.1
    have h6 := h4.1.2.2.2.1
    have h7 := h4.2
    unfold mid2
    omega
  obtain ⟨kp, hkp⟩ : ∃ kp : Sp → Prop, kp = (fun s => s.co = false ∨ a ≤ s.fr ∨ s.to ≤ a ∨ s.to - s.fr + k ≤ 4) := ⟨_, rfl⟩
  obtain ⟨N2, hN2⟩ : ∃ N, N = turnU id kp n g := ⟨_, rfl⟩
  have hb4 := back_eq hr hb3.1 hb2.1 N1 hN1
  rw [← hkp, ← hN2] at hb4
  obtain ⟨w, hw⟩ : ∃ w, w = z + k := ⟨_, rfl⟩
  rw [← hw] at rg1
  have h10 := f10_ok N1.length (by omega) (gL N1) hz1 w true ⟨fun _ => rg1, fun _ => rfl⟩
  obtain ⟨ak, hak⟩ : ∃ ak, ak = a + k := ⟨_, rfl⟩
  rw [← hak] at hb4
  have h21 := LstR.frozen (f21_ok N1.length (by omega) (gL N1) hmid1 a ak (by omega) N2 hb4.symm)
  obtain ⟨left, hleft⟩ : ∃ left, left = z - min k (z - a) := ⟨_, rfl⟩
  obtain ⟨N3, hN3⟩ : ∃ N, N = delU a ak n g := ⟨_, rfl⟩
  have h21b := LstR.frozen (f21_ok n (by omega) g hmid a ak (by omega) N3 hN3)
  have r3 := del_right hr hb3.1 hb2.1 hb3.2.1 hleft
  rw [← hak, ← hN3] at r3
  have hz3 : ∀ j, j < N3.length → inSz (gL N3 j) := turn_sz (z := z) (tr := movS (delX a ak) (delX a ak)) (kp := fun s => kpS (movS (delX a ak) (delX a ak) s)) hz (fun s => ⟨rfl, rfl⟩) (by omega : left ≤ 9223372036854775807) N3 (by rw [hN3]; unfold delU; rw [if_neg (by omega)]) r3
  have l3 : N3.length ≤ 40 := r3.len
  have h10b := f10_ok N3.length (by omega) (gL N3) hz3 left true ⟨fun _ => r3.gl, fun _ => rfl⟩
  have s2 := f13_ok N2.length N2.length (gL N2) (gL N2) true ⟨fun _ => ⟨rfl, fun _ _ => rfl⟩, fun _ => rfl⟩
  have l2 : N2.length ≤ n := by rw [hN2]; exact turnU_len _ _ _ _
  obtain ⟨m1, hm1⟩ : ∃ m, m = N1.length := ⟨_, rfl⟩
  obtain ⟨g1, hg1⟩ : ∃ m, m = gL N1 := ⟨_, rfl⟩
  obtain ⟨m2, hm2⟩ : ∃ m, m = N2.length := ⟨_, rfl⟩
  obtain ⟨g2, hg2⟩ : ∃ m, m = gL N2 := ⟨_, rfl⟩
  obtain ⟨m3, hm3⟩ : ∃ m, m = N3.length := ⟨_, rfl⟩
  obtain ⟨g3, hg3⟩ : ∃ m, m = gL N3 := ⟨_, rfl⟩
  rw [← hm1, ← hg1] at h19 h10 h21
  rw [← hm2, ← hg2] at h21 s2
  rw [← hm3, ← hg3] at h21b h10b
  have e2 : N2 = tab m2 g2 := by rw [hm2, hg2]; exact (tab_gL N2).symm
  clear hb4 r1 r3 rg1 hz1 hz3 hmid1 hm1 hg1 hm3 hg3 hm2 hg2
  conv => cbv
  repeat (refine ⟨by first | (rw [hW]; show ordOk _ _ _ = true; kernel_rfl) | (first | trivial | omega | (simp (disch := omega) only [hS.glob, wraps, plain, Int.ofNat_eq_natCast]; first | done | omega | trivial | (simp; done) | (simp; omega) | (constructor <;> omega)) | (simp (disch := omega) only [hS.glob, wraps, plain, Int.ofNat_eq_natCast, Vx.toN]; omega)), ?_⟩)
  simp only [← ha0, ← hk]
  cases h2 : igt a0 z <;> (conv => cbv)
  all_goals simp only [hS.glob, plain] at h2
  all_goals
    rw [hVV]
    clear hVV hVA VV VA hW W
    refine V.to (s' := [(33, .rows 6 n (spc g)), (34, .int .i64 a), (35, .int .i64 k), (8, .int .i64 a), (9, .int .i64 k), (0, .rows 6 n (spc g)), (1, .int .i64 z)]) (H' := []) ?_ (by
      refine ⟨rfl, sti ?_, rfl, sti ?_, rfl, rfl, rfl, trivial⟩
      · rw [ha]; split <;> omega
      · rw [ha]; split <;> omega) rfl trivial (by rw [hC]; simp)
    refine V.call rfl rfl rfl rfl rfl Try.func19 rfl (by decide) [] (by simp) (by simp) (by (first | rfl | ((conv => cbv); (repeat' apply And.intro) <;> first | rfl | trivial | (first | rfl | omega | (simp (disch := omega) only [hS.glob, wraps, plain, Int.ofNat_eq_natCast]; first | done | rfl | omega | (simp; done) | (simp; omega)) | (simp (disch := omega) only [hS.glob, wraps, plain, Int.ofNat_eq_natCast, Vx.toN]; omega))))) rfl h19 ?_
    rintro r0 Hc ⟨rfl, rfl⟩
    refine V.goF (by first | exact trivial | assumption) Try.func6 tl_ok mixed hS.ops [] 400 ?_
    intro VV VA W hVV hVA hW
    conv => cbv
    have e3 : iadd .i64 z k = w := by rw [hw]; (first | rfl | omega | (simp (disch := omega) only [hS.glob, wraps, plain, Int.ofNat_eq_natCast]; first | done | rfl | omega | (simp; done) | (simp; omega)) | (simp (disch := omega) only [hS.glob, wraps, plain, Int.ofNat_eq_natCast, Vx.toN]; omega))
    simp only [e3]
    rw [hVV]
    clear hVV hVA VV VA hW W
    refine V.call rfl rfl rfl rfl rfl Try.func10 rfl (by decide) [] (by simp) (by simp) (by (first | rfl | ((conv => cbv); (repeat' apply And.intro) <;> first | rfl | trivial | (first | rfl | omega | (simp (disch := omega) only [hS.glob, wraps, plain, Int.ofNat_eq_natCast]; first | done | rfl | omega | (simp; done) | (simp; omega)) | (simp (disch := omega) only [hS.glob, wraps, plain, Int.ofNat_eq_natCast, Vx.toN]; omega))))) rfl h10 ?_
    rintro r0 Hc ⟨rfl, rfl⟩
    refine V.goF (by first | exact trivial | assumption) Try.func6 tl_ok mixed hS.ops [] 400 ?_
    intro VV VA W hVV hVA hW
    conv => cbv
    have e4 : iadd .i64 a k = ak := by rw [hak]; (first | rfl | omega | (simp (disch := omega) only [hS.glob, wraps, plain, Int.ofNat_eq_natCast]; first | done | rfl | omega | (simp; done) | (simp; omega)) | (simp (disch := omega) only [hS.glob, wraps, plain, Int.ofNat_eq_natCast, Vx.toN]; omega))
    simp only [e4]
    rw [hVV]
    clear hVV hVA VV VA hW W
    refine V.call rfl rfl rfl rfl rfl Try.func21 rfl (by decide) [] (by simp) (by simp) (by (first | rfl | ((conv => cbv); (repeat' apply And.intro) <;> first | rfl | trivial | (first | rfl | omega | (simp (disch := omega) only [hS.glob, wraps, plain, Int.ofNat_eq_natCast]; first | done | rfl | omega | (simp; done) | (simp; omega)) | (simp (disch := omega) only [hS.glob, wraps, plain, Int.ofNat_eq_natCast, Vx.toN]; omega))))) rfl h21 ?_
    rintro r0 Hc ⟨rfl, rfl⟩
    refine V.goF (by first | exact trivial | assumption) Try.func6 tl_ok mixed hS.ops [] 400 ?_
    intro VV VA W hVV hVA hW
    conv => cbv
    rw [hVV]
    clear hVV hVA VV VA hW W
    refine V.phantom 12 27 6 (spc (fun _ => noSp)) rfl ?_
    refine V.to (s' := [(13, .int .i64 (ofN 0)), (12, .sl 0 0 0), (11, .rows 6 m2 (spc g2)), (8, .int .i64 a), (9, .int .i64 k), (10, .rows 6 m1 (spc g1)), (0, .rows 6 n (spc g)), (1, .int .i64 z)]) (H' := [some ⟨27, 6, .arr 0 (spc (fun _ => noSp))⟩]) ?_ (by (repeat' first | exact trivial | rfl | (refine And.intro ?_ ?_) | (refine sti ?_; (first | rfl | omega | (simp (disch := omega) only [hS.glob, wraps, plain, Int.ofNat_eq_natCast]; first | done | rfl | omega | (simp; done) | (simp; omega)) | (simp (disch := omega) only [hS.glob, wraps, plain, Int.ofNat_eq_natCast, Vx.toN]; omega))) | (refine slq ?_ ?_ ?_ <;> (first | rfl | omega | (simp (disch := omega) only [hS.glob, wraps, plain, Int.ofNat_eq_natCast]; first | done | rfl | omega | (simp; done) | (simp; omega)) | (simp (disch := omega) only [hS.glob, wraps, plain, Int.ofNat_eq_natCast, Vx.toN]; omega))) | (refine ptq ?_ ?_ ?_ <;> (first | rfl | omega | (simp (disch := omega) only [hS.glob, wraps, plain, Int.ofNat_eq_natCast]; first | done | rfl | omega | (simp; done) | (simp; omega)) | (simp (disch := omega) only [hS.glob, wraps, plain, Int.ofNat_eq_natCast, Vx.toN]; omega))) | (refine blq ?_; (first | rfl | omega | (simp (disch := omega) only [hS.glob, wraps, plain, Int.ofNat_eq_natCast]; first | done | rfl | omega | (simp; done) | (simp; omega)) | (simp (disch := omega) only [hS.glob, wraps, plain, Int.ofNat_eq_natCast, Vx.toN]; omega))))) rfl (by (repeat' first | exact trivial | rfl | exact Nat.le_refl _ | exact (fun _ _ => rfl) | (refine And.intro ?_ ?_) | (simp only [hS.glob, plain]; first | done | omega))) (by rw [hC]; simp)
    refine V.loop (γ := Nat × Nat × (Nat → Sp)) (fun p => p.1 ≤ n ∧ p.2.1 ≤ p.1 ∧ turnU id kp p.1 g = tab p.2.1 p.2.2) (fun p => [(13, .int .i64 (ofN p.1)), (12, .sl 0 0 p.2.1), (11, .rows 6 m2 (spc g2)), (8, .int .i64 a), (9, .int .i64 k), (10, .rows 6 m1 (spc g1)), (0, .rows 6 n (spc g)), (1, .int .i64 z)]) (fun p => [some ⟨27, 6, .arr p.2.1 (spc p.2.2)⟩]) (fun p => n - p.1) ?_ (0, 0, fun _ => noSp) ⟨Nat.zero_le _, Nat.le_refl _, rfl⟩
    rintro ⟨i, mm, h⟩ ⟨hi, hm1, hu⟩ hback
    dsimp only at hi hm1 hu hback ⊢
    refine V.goF (by first | exact trivial | assumption) Try.func6 tl_ok mixed hS.ops [] 400 ?_
    intro VV VA W hVV hVA hW
    conv => cbv
    cases h3 : ilt (ofN i) (ofN n)
    · conv => cbv
      simp (disch := first | omega | (simp only [hS.glob, wraps, plain, Int.ofNat_eq_natCast]; omega)) only [hS.glob, wraps, plain, Int.ofNat_eq_natCast] at h3
      obtain rfl : n = i := by omega
      have hN2b : tab m2 g2 = tab mm h := by rw [← e2, hN2, hu]
      obtain rfl : m2 = mm := by
        have := congrArg List.length hN2b
        rw [tab_len, tab_len] at this
        exact this
      have hgh := tab_inj hN2b
      have e4 : iadd .i64 a k = ak := by rw [hak]; (first | rfl | omega | (simp (disch := omega) only [hS.glob, wraps, plain, Int.ofNat_eq_natCast]; first | done | rfl | omega | (simp; done) | (simp; omega)) | (simp (disch := omega) only [hS.glob, wraps, plain, Int.ofNat_eq_natCast, Vx.toN]; omega))
      simp only [e4]
      rw [hVV]
      clear hVV hVA VV VA hW W
      refine V.freeze0 12 0 m2 (by rfl) (by rfl) (by rfl) (by first | decide | omega | exact (Nat.succ_pos _)) (by rfl) (by rfl) (by first | exact Nat.le_refl _ | decide | omega | (simp only [Cont.n]; omega)) ?_
      refine V.sub 12 (y := .rows 6 m2 (spc g2)) (Sub.rows fun j hj => ?_) ?_
      · simp only [spc, Cont.f, hgh j hj]
        exact Subs.refl _
      refine V.to (s' := [(88, .rows 6 n (spc g)), (89, .int .i64 a), (92, .int .i64 ak), (12, .rows 6 m2 (spc g2)), (11, .rows 6 m2 (spc g2)), (8, .int .i64 a), (9, .int .i64 k), (10, .rows 6 m1 (spc g1)), (0, .rows 6 n (spc g)), (1, .int .i64 z)]) (H' := []) ?_ (by (repeat' first | exact trivial | rfl | (refine And.intro ?_ ?_) | (refine sti ?_; (first | rfl | omega | (simp (disch := omega) only [hS.glob, wraps, plain, Int.ofNat_eq_natCast]; first | done | rfl | omega | (simp; done) | (simp; omega)) | (simp (disch := omega) only [hS.glob, wraps, plain, Int.ofNat_eq_natCast, Vx.toN]; omega))) | (refine slq ?_ ?_ ?_ <;> (first | rfl | omega | (simp (disch := omega) only [hS.glob, wraps, plain, Int.ofNat_eq_natCast]; first | done | rfl | omega | (simp; done) | (simp; omega)) | (simp (disch := omega) only [hS.glob, wraps, plain, Int.ofNat_eq_natCast, Vx.toN]; omega))) | (refine ptq ?_ ?_ ?_ <;> (first | rfl | omega | (simp (disch := omega) only [hS.glob, wraps, plain, Int.ofNat_eq_natCast]; first | done | rfl | omega | (simp; done) | (simp; omega)) | (simp (disch := omega) only [hS.glob, wraps, plain, Int.ofNat_eq_natCast, Vx.toN]; omega))) | (refine blq ?_; (first | rfl | omega | (simp (disch := omega) only [hS.glob, wraps, plain, Int.ofNat_eq_natCast]; first | done | rfl | omega | (simp; done) | (simp; omega)) | (simp (disch := omega) only [hS.glob, wraps, plain, Int.ofNat_eq_natCast, Vx.toN]; omega))))) rfl trivial (by rw [hC]; simp)
      refine V.call rfl rfl rfl rfl rfl Try.func21 rfl (by decide) [] (by simp) (by simp) (by (first | rfl | ((conv => cbv); (repeat' apply And.intro) <;> first | rfl | trivial | (first | rfl | omega | (simp (disch := omega) only [hS.glob, wraps, plain, Int.ofNat_eq_natCast]; first | done | rfl | omega | (simp; done) | (simp; omega)) | (simp (disch := omega) only [hS.glob, wraps, plain, Int.ofNat_eq_natCast, Vx.toN]; omega))))) rfl h21b ?_
      rintro r0 Hc ⟨rfl, rfl⟩
      refine V.goF (by first | exact trivial | assumption) Try.func6 tl_ok mixed hS.ops [] 400 ?_
      intro VV VA W hVV hVA hW
      conv => cbv
      have e5 : isub .i64 z (imn k (isub .i64 z a)) = left := by
        have q1 : isub .i64 z a = z - a := by (first | rfl | omega | (simp (disch := omega) only [hS.glob, wraps, plain, Int.ofNat_eq_natCast]; first | done | rfl | omega | (simp; done) | (simp; omega)) | (simp (disch := omega) only [hS.glob, wraps, plain, Int.ofNat_eq_natCast, Vx.toN]; omega))
        have q2 : imn k (z - a) = min k (z - a) := by simp only [hS.glob, Vx.imn]; split <;> omega
        rw [q1, q2, hleft]
        (first | rfl | omega | (simp (disch := omega) only [hS.glob, wraps, plain, Int.ofNat_eq_natCast]; first | done | rfl | omega | (simp; done) | (simp; omega)) | (simp (disch := omega) only [hS.glob, wraps, plain, Int.ofNat_eq_natCast, Vx.toN]; omega))
      simp only [e5]
      rw [hVV]
      clear hVV hVA VV VA hW W
      refine V.call rfl rfl rfl rfl rfl Try.func8 rfl (by decide) [] (by simp) (by simp) (by (first | rfl | ((conv => cbv); (repeat' apply And.intro) <;> first | rfl | trivial | (first | rfl | omega | (simp (disch := omega) only [hS.glob, wraps, plain, Int.ofNat_eq_natCast]; first | done | rfl | omega | (simp; done) | (simp; omega)) | (simp (disch := omega) only [hS.glob, wraps, plain, Int.ofNat_eq_natCast, Vx.toN]; omega))))) rfl f8_ok ?_
      rintro r0 Hc ⟨rfl, rfl⟩
      refine V.goF (by first | exact trivial | assumption) Try.func6 tl_ok mixed hS.ops [] 400 ?_
      intro VV VA W hVV hVA hW
      conv => cbv
      rw [hVV]
      clear hVV hVA VV VA hW W
      refine V.call rfl rfl rfl rfl rfl Try.func13 rfl (by decide) [] (by simp) (by simp) (by (first | rfl | ((conv => cbv); (repeat' apply And.intro) <;> first | rfl | trivial | (first | rfl | omega | (simp (disch := omega) only [hS.glob, wraps, plain, Int.ofNat_eq_natCast]; first | done | rfl | omega | (simp; done) | (simp; omega)) | (simp (disch := omega) only [hS.glob, wraps, plain, Int.ofNat_eq_natCast, Vx.toN]; omega))))) rfl s2 ?_
      rintro r0 Hc ⟨rfl, rfl⟩
      refine V.goF (by first | exact trivial | assumption) Try.func6 tl_ok mixed hS.ops [] 400 ?_
      intro VV VA W hVV hVA hW
      conv => cbv
      rw [hVV]
      clear hVV hVA VV VA hW W
      refine V.call rfl rfl rfl rfl rfl Try.func10 rfl (by decide) [] (by simp) (by simp) (by (first | rfl | ((conv => cbv); (repeat' apply And.intro) <;> first | rfl | trivial | (first | rfl | omega | (simp (disch := omega) only [hS.glob, wraps, plain, Int.ofNat_eq_natCast]; first | done | rfl | omega | (simp; done) | (simp; omega)) | (simp (disch := omega) only [hS.glob, wraps, plain, Int.ofNat_eq_natCast, Vx.toN]; omega))))) rfl h10b ?_
      rintro r0 Hc ⟨rfl, rfl⟩
      refine V.goF (by first | exact trivial | assumption) Try.func6 tl_ok mixed hS.ops [] 400 ?_
      intro VV VA W hVV hVA hW
      conv => cbv
      trivial
    conv => cbv
    simp (disch := first | omega | (simp only [hS.glob, wraps, plain, Int.ofNat_eq_natCast]; omega)) only [hS.glob, wraps, plain, Int.ofNat_eq_natCast] at h3
    repeat (refine ⟨by first | (rw [hW]; show ordOk _ _ _ = true; kernel_rfl) | (first | trivial | omega | (simp (disch := omega) only [hS.glob, wraps, plain, Int.ofNat_eq_natCast]; first | done | omega | trivial | (simp; done) | (simp; omega) | (constructor <;> omega)) | (simp (disch := omega) only [hS.glob, wraps, plain, Int.ofNat_eq_natCast, Vx.toN]; omega)), ?_⟩)
    simp only [hS.tidy]
    obtain ⟨t1, t2⟩ := turnU_succ id kp i g
    have oi := (hr.one i (by omega)).1
    have oz := (hr.one i (by omega)).2
    have o3 := oi.2.2.1
    have o4 := oi.2.2.2.1
    clear oi
    rcases hgi : g i with ⟨ea, eb, ep, ed, eu, ex⟩
    rw [hgi] at t1 t2 o3 o4 oz
    dsimp only [id] at t1 t2 o3 o4 oz ⊢
    rw [hu] at t1 t2
    have hk2 : kp (⟨ea, eb, ep, ed, eu, ex⟩ : Sp) ↔ (ed = false ∨ a ≤ ea ∨ eb ≤ a ∨ eb - ea + k ≤ 4) := by rw [hkp]
    rw [hk2] at t1 t2
    have key : (ed = false ∨ a ≤ ea ∨ eb ≤ a ∨ eb - ea + k ≤ 4) → ∃ h' : Nat → Sp, (∀ j, j < mm → h' j = h j) ∧ h' mm = (⟨ea, eb, ep, ed, eu, ex⟩ : Sp) ∧ turnU id kp (i + 1) g = tab (mm + 1) h' := fun h5 => by
      obtain ⟨h', e7, e8⟩ := snocF h mm (⟨ea, eb, ep, ed, eu, ex⟩ : Sp)
      exact ⟨h', e7, e8, by rw [t1 h5]; exact (tab_snoc rfl e7 e8).symm⟩
    clear t1 hk2 hgi
    cases ed
    · conv => cbv
      repeat (refine ⟨by first | (rw [hW]; show ordOk _ _ _ = true; kernel_rfl) | (first | trivial | omega | (simp (disch := omega) only [hS.glob, wraps, plain, Int.ofNat_eq_natCast]; first | done | omega | trivial | (simp; done) | (simp; omega) | (constructor <;> omega)) | (simp (disch := omega) only [hS.glob, wraps, plain, Int.ofNat_eq_natCast, Vx.toN]; omega)), ?_⟩)
      rw [hVV]
      clear hVV hVA VV VA hW W
      refine V.pick [3] (by decide) (by rw [hC]; exact begins_of rfl) (by rfl) (by rfl) ?_
      obtain ⟨h', e7, e8, e9⟩ := key (.inl rfl)
      refine V.to (hback (i + 1, mm + 1, h') ⟨by simp only; omega, by simp only; omega, e9⟩ (by simp only; omega)) (by (repeat' first | exact trivial | rfl | (refine And.intro ?_ ?_) | (refine sti ?_; (first | rfl | omega | (simp (disch := omega) only [hS.glob, wraps, plain, Int.ofNat_eq_natCast]; first | done | rfl | omega | (simp; done) | (simp; omega)) | (simp (disch := omega) only [hS.glob, wraps, plain, Int.ofNat_eq_natCast, Vx.toN]; omega))) | (refine slq ?_ ?_ ?_ <;> (first | rfl | omega | (simp (disch := omega) only [hS.glob, wraps, plain, Int.ofNat_eq_natCast]; first | done | rfl | omega | (simp; done) | (simp; omega)) | (simp (disch := omega) only [hS.glob, wraps, plain, Int.ofNat_eq_natCast, Vx.toN]; omega))) | (refine ptq ?_ ?_ ?_ <;> (first | rfl | omega | (simp (disch := omega) only [hS.glob, wraps, plain, Int.ofNat_eq_natCast]; first | done | rfl | omega | (simp; done) | (simp; omega)) | (simp (disch := omega) only [hS.glob, wraps, plain, Int.ofNat_eq_natCast, Vx.toN]; omega))) | (refine blq ?_; (first | rfl | omega | (simp (disch := omega) only [hS.glob, wraps, plain, Int.ofNat_eq_natCast]; first | done | rfl | omega | (simp; done) | (simp; omega)) | (simp (disch := omega) only [hS.glob, wraps, plain, Int.ofNat_eq_natCast, Vx.toN]; omega))))) rfl ⟨⟨rfl, rfl, ⟨by show mm + 1 ≤ addN mm 1; (first | trivial | omega | (simp (disch := omega) only [hS.glob, wraps, plain, Int.ofNat_eq_natCast]; first | done | omega | trivial | (simp; done) | (simp; omega) | (constructor <;> omega)) | (simp (disch := omega) only [hS.glob, wraps, plain, Int.ofNat_eq_natCast, Vx.toN]; omega)), fun j hj => leafR (by simp [hS.glob]) (by simp [hS.glob]) _ (spc h) (spc h') mm (fun j hj => by simp only [spc, e7 j hj]) (by simp only [spc, e8]) j hj⟩, rfl⟩, trivial⟩ (by rw [hC]; simp)
    · conv => cbv
      cases h4 : ile a ea
      case true =>
        conv => cbv
        simp (disch := first | omega | (simp only [hS.glob, wraps, plain, Int.ofNat_eq_natCast]; omega)) only [hS.glob, wraps, plain, Int.ofNat_eq_natCast] at h4
        repeat (refine ⟨by first | (rw [hW]; show ordOk _ _ _ = true; kernel_rfl) | (first | trivial | omega | (simp (disch := omega) only [hS.glob, wraps, plain, Int.ofNat_eq_natCast]; first | done | omega | trivial | (simp; done) | (simp; omega) | (constructor <;> omega)) | (simp (disch := omega) only [hS.glob, wraps, plain, Int.ofNat_eq_natCast, Vx.toN]; omega)), ?_⟩)
        rw [hVV]
        clear hVV hVA VV VA hW W
        refine V.pick [3] (by decide) (by rw [hC]; exact begins_of rfl) (by rfl) (by rfl) ?_
        obtain ⟨h', e7, e8, e9⟩ := key (.inr (.inl h4))
        refine V.to (hback (i + 1, mm + 1, h') ⟨by simp only; omega, by simp only; omega, e9⟩ (by simp only; omega)) (by (repeat' first | exact trivial | rfl | (refine And.intro ?_ ?_) | (refine sti ?_; (first | rfl | omega | (simp (disch := omega) only [hS.glob, wraps, plain, Int.ofNat_eq_natCast]; first | done | rfl | omega | (simp; done) | (simp; omega)) | (simp (disch := omega) only [hS.glob, wraps, plain, Int.ofNat_eq_natCast, Vx.toN]; omega))) | (refine slq ?_ ?_ ?_ <;> (first | rfl | omega | (simp (disch := omega) only [hS.glob, wraps, plain, Int.ofNat_eq_natCast]; first | done | rfl | omega | (simp; done) | (simp; omega)) | (simp (disch := omega) only [hS.glob, wraps, plain, Int.ofNat_eq_natCast, Vx.toN]; omega))) | (refine ptq ?_ ?_ ?_ <;> (first | rfl | omega | (simp (disch := omega) only [hS.glob, wraps, plain, Int.ofNat_eq_natCast]; first | done | rfl | omega | (simp; done) | (simp; omega)) | (simp (disch := omega) only [hS.glob, wraps, plain, Int.ofNat_eq_natCast, Vx.toN]; omega))) | (refine blq ?_; (first | rfl | omega | (simp (disch := omega) only [hS.glob, wraps, plain, Int.ofNat_eq_natCast]; first | done | rfl | omega | (simp; done) | (simp; omega)) | (simp (disch := omega) only [hS.glob, wraps, plain, Int.ofNat_eq_natCast, Vx.toN]; omega))))) rfl ⟨⟨rfl, rfl, ⟨by show mm + 1 ≤ addN mm 1; (first | trivial | omega | (simp (disch := omega) only [hS.glob, wraps, plain, Int.ofNat_eq_natCast]; first | done | omega | trivial | (simp; done) | (simp; omega) | (constructor <;> omega)) | (simp (disch := omega) only [hS.glob, wraps, plain, Int.ofNat_eq_natCast, Vx.toN]; omega)), fun j hj => leafR (by simp [hS.glob]) (by simp [hS.glob]) _ (spc h) (spc h') mm (fun j hj => by simp only [spc, e7 j hj]) (by simp only [spc, e8]) j hj⟩, rfl⟩, trivial⟩ (by rw [hC]; simp)
      conv => cbv
      simp (disch := first | omega | (simp only [hS.glob, wraps, plain, Int.ofNat_eq_natCast]; omega)) only [hS.glob, wraps, plain, Int.ofNat_eq_natCast] at h4
      cases h5 : ige a eb
      case true =>
        conv => cbv
        simp (disch := first | omega | (simp only [hS.glob, wraps, plain, Int.ofNat_eq_natCast]; omega)) only [hS.glob, wraps, plain, Int.ofNat_eq_natCast] at h5
        repeat (refine ⟨by first | (rw [hW]; show ordOk _ _ _ = true; kernel_rfl) | (first | trivial | omega | (simp (disch := omega) only [hS.glob, wraps, plain, Int.ofNat_eq_natCast]; first | done | omega | trivial | (simp; done) | (simp; omega) | (constructor <;> omega)) | (simp (disch := omega) only [hS.glob, wraps, plain, Int.ofNat_eq_natCast, Vx.toN]; omega)), ?_⟩)
        rw [hVV]
        clear hVV hVA VV VA hW W
        refine V.pick [3] (by decide) (by rw [hC]; exact begins_of rfl) (by rfl) (by rfl) ?_
        obtain ⟨h', e7, e8, e9⟩ := key (.inr (.inr (.inl h5)))
        refine V.to (hback (i + 1, mm + 1, h') ⟨by simp only; omega, by simp only; omega, e9⟩ (by simp only; omega)) (by (repeat' first | exact trivial | rfl | (refine And.intro ?_ ?_) | (refine sti ?_; (first | rfl | omega | (simp (disch := omega) only [hS.glob, wraps, plain, Int.ofNat_eq_natCast]; first | done | rfl | omega | (simp; done) | (simp; omega)) | (simp (disch := omega) only [hS.glob, wraps, plain, Int.ofNat_eq_natCast, Vx.toN]; omega))) | (refine slq ?_ ?_ ?_ <;> (first | rfl | omega | (simp (disch := omega) only [hS.glob, wraps, plain, Int.ofNat_eq_natCast]; first | done | rfl | omega | (simp; done) | (simp; omega)) | (simp (disch := omega) only [hS.glob, wraps, plain, Int.ofNat_eq_natCast, Vx.toN]; omega))) | (refine ptq ?_ ?_ ?_ <;> (first | rfl | omega | (simp (disch := omega) only [hS.glob, wraps, plain, Int.ofNat_eq_natCast]; first | done | rfl | omega | (simp; done) | (simp; omega)) | (simp (disch := omega) only [hS.glob, wraps, plain, Int.ofNat_eq_natCast, Vx.toN]; omega))) | (refine blq ?_; (first | rfl | omega | (simp (disch := omega) only [hS.glob, wraps, plain, Int.ofNat_eq_natCast]; first | done | rfl | omega | (simp; done) | (simp; omega)) | (simp (disch := omega) only [hS.glob, wraps, plain, Int.ofNat_eq_natCast, Vx.toN]; omega))))) rfl ⟨⟨rfl, rfl, ⟨by show mm + 1 ≤ addN mm 1; (first | trivial | omega | (simp (disch := omega) only [hS.glob, wraps, plain, Int.ofNat_eq_natCast]; first | done | omega | trivial | (simp; done) | (simp; omega) | (constructor <;> omega)) | (simp (disch := omega) only [hS.glob, wraps, plain, Int.ofNat_eq_natCast, Vx.toN]; omega)), fun j hj => leafR (by simp [hS.glob]) (by simp [hS.glob]) _ (spc h) (spc h') mm (fun j hj => by simp only [spc, e7 j hj]) (by simp only [spc, e8]) j hj⟩, rfl⟩, trivial⟩ (by rw [hC]; simp)
      conv => cbv
      simp (disch := first | omega | (simp only [hS.glob, wraps, plain, Int.ofNat_eq_natCast]; omega)) only [hS.glob, wraps, plain, Int.ofNat_eq_natCast] at h5
      have e5 : isub .i64 eb ea = eb - ea := by (first | rfl | omega | (simp (disch := omega) only [hS.glob, wraps, plain, Int.ofNat_eq_natCast]; first | done | rfl | omega | (simp; done) | (simp; omega)) | (simp (disch := omega) only [hS.glob, wraps, plain, Int.ofNat_eq_natCast, Vx.toN]; omega))
      simp only [e5]
      obtain ⟨y, hy⟩ : ∃ y, y = eb - ea := ⟨_, rfl⟩
      rw [← hy]
      have e6 : iadd .i64 y k = y + k := by (first | rfl | omega | (simp (disch := omega) only [hS.glob, wraps, plain, Int.ofNat_eq_natCast]; first | done | rfl | omega | (simp; done) | (simp; omega)) | (simp (disch := omega) only [hS.glob, wraps, plain, Int.ofNat_eq_natCast, Vx.toN]; omega))
      simp only [e6]
      obtain ⟨y2, hy2⟩ : ∃ y2, y2 = y + k := ⟨_, rfl⟩
      rw [← hy2]
      cases h6 : ile y2 4
      · conv => cbv
        simp (disch := first | omega | (simp only [hS.glob, wraps, plain, Int.ofNat_eq_natCast]; omega)) only [hS.glob, wraps, plain, Int.ofNat_eq_natCast] at h6
        repeat (refine ⟨by first | (rw [hW]; show ordOk _ _ _ = true; kernel_rfl) | (first | trivial | omega | (simp (disch := omega) only [hS.glob, wraps, plain, Int.ofNat_eq_natCast]; first | done | omega | trivial | (simp; done) | (simp; omega) | (constructor <;> omega)) | (simp (disch := omega) only [hS.glob, wraps, plain, Int.ofNat_eq_natCast, Vx.toN]; omega)), ?_⟩)
        rw [hVV]
        clear hVV hVA VV VA hW W
        exact V.to (hback (i + 1, mm, h) ⟨by simp only; omega, by simp only; omega, by simp only; exact t2 (fun h7 => by
          rcases h7 with h7 | h7 | h7 | h7
          · cases h7
          · omega
          · omega
          · omega)⟩ (by simp only; omega)) (by (repeat' first | exact trivial | rfl | (refine And.intro ?_ ?_) | (refine sti ?_; (first | rfl | omega | (simp (disch := omega) only [hS.glob, wraps, plain, Int.ofNat_eq_natCast]; first | done | rfl | omega | (simp; done) | (simp; omega)) | (simp (disch := omega) only [hS.glob, wraps, plain, Int.ofNat_eq_natCast, Vx.toN]; omega))) | (refine slq ?_ ?_ ?_ <;> (first | rfl | omega | (simp (disch := omega) only [hS.glob, wraps, plain, Int.ofNat_eq_natCast]; first | done | rfl | omega | (simp; done) | (simp; omega)) | (simp (disch := omega) only [hS.glob, wraps, plain, Int.ofNat_eq_natCast, Vx.toN]; omega))) | (refine ptq ?_ ?_ ?_ <;> (first | rfl | omega | (simp (disch := omega) only [hS.glob, wraps, plain, Int.ofNat_eq_natCast]; first | done | rfl | omega | (simp; done) | (simp; omega)) | (simp (disch := omega) only [hS.glob, wraps, plain, Int.ofNat_eq_natCast, Vx.toN]; omega))) | (refine blq ?_; (first | rfl | omega | (simp (disch := omega) only [hS.glob, wraps, plain, Int.ofNat_eq_natCast]; first | done | rfl | omega | (simp; done) | (simp; omega)) | (simp (disch := omega) only [hS.glob, wraps, plain, Int.ofNat_eq_natCast, Vx.toN]; omega))))) rfl ⟨⟨rfl, rfl, ⟨Nat.le_refl _, fun _ _ => rfl⟩, rfl⟩, trivial⟩ (by rw [hC]; simp)
      · conv => cbv
        simp (disch := first | omega | (simp only [hS.glob, wraps, plain, Int.ofNat_eq_natCast]; omega)) only [hS.glob, wraps, plain, Int.ofNat_eq_natCast] at h6
        repeat (refine ⟨by first | (rw [hW]; show ordOk _ _ _ = true; kernel_rfl) | (first | trivial | omega | (simp (disch := omega) only [hS.glob, wraps, plain, Int.ofNat_eq_natCast]; first | done | omega | trivial | (simp; done) | (simp; omega) | (constructor <;> omega)) | (simp (disch := omega) only [hS.glob, wraps, plain, Int.ofNat_eq_natCast, Vx.toN]; omega)), ?_⟩)
        rw [hVV]
        clear hVV hVA VV VA hW W
        refine V.pick [3] (by decide) (by rw [hC]; exact begins_of rfl) (by rfl) (by rfl) ?_
        obtain ⟨h', e7, e8, e9⟩ := key (.inr (.inr (.inr (by omega))))
        refine V.to (hback (i + 1, mm + 1, h') ⟨by simp only; omega, by simp only; omega, e9⟩ (by simp only; omega)) (by (repeat' first | exact trivial | rfl | (refine And.intro ?_ ?_) | (refine sti ?_; (first | rfl | omega | (simp (disch := omega) only [hS.glob, wraps, plain, Int.ofNat_eq_natCast]; first | done | rfl | omega | (simp; done) | (simp; omega)) | (simp (disch := omega) only [hS.glob, wraps, plain, Int.ofNat_eq_natCast, Vx.toN]; omega))) | (refine slq ?_ ?_ ?_ <;> (first | rfl | omega | (simp (disch := omega) only [hS.glob, wraps, plain, Int.ofNat_eq_natCast]; first | done | rfl | omega | (simp; done) | (simp; omega)) | (simp (disch := omega) only [hS.glob, wraps, plain, Int.ofNat_eq_natCast, Vx.toN]; omega))) | (refine ptq ?_ ?_ ?_ <;> (first | rfl | omega | (simp (disch := omega) only [hS.glob, wraps, plain, Int.ofNat_eq_natCast]; first | done | rfl | omega | (simp; done) | (simp; omega)) | (simp (disch := omega) only [hS.glob, wraps, plain, Int.ofNat_eq_natCast, Vx.toN]; omega))) | (refine blq ?_; (first | rfl | omega | (simp (disch := omega) only [hS.glob, wraps, plain, Int.ofNat_eq_natCast]; first | done | rfl | omega | (simp; done) | (simp; omega)) | (simp (disch := omega) only [hS.glob, wraps, plain, Int.ofNat_eq_natCast, Vx.toN]; omega))))) rfl ⟨⟨rfl, rfl, ⟨by show mm + 1 ≤ addN mm 1; (first | trivial | omega | (simp (disch := omega) only [hS.glob, wraps, plain, Int.ofNat_eq_natCast]; first | done | omega | trivial | (simp; done) | (simp; omega) | (constructor <;> omega)) | (simp (disch := omega) only [hS.glob, wraps, plain, Int.ofNat_eq_natCast, Vx.toN]; omega)), fun j hj => leafR (by simp [hS.glob]) (by simp [hS.glob]) _ (spc h) (spc h') mm (fun j hj => by simp only [spc, e7 j hj]) (by simp only [spc, e8]) j hj⟩, rfl⟩, trivial⟩ (by rw [hC]; simp)
end Go.Proofs.Ytandgpkibpggnaa

/- The law SpanOthers. -/
namespace Go.Proofs.Ytandgpkibpggnaa
open Go Vx
set_option maxHeartbeats 4000000 in
theorem f7_ok (n : Nat) (hn : n ≤ 10000000000000) (g : Nat → Sp) (hs : ∀ j, j < n → inW (g j)) (z p q r : Int) : FSpec Try.prog 7 [.rows 6 n (spc g), .int .i64 z, .agg [.int .i64 p, .int .i64 q, .int .i64 r]] [] (fun r H' => r = .bool true ∧ H' = []) := by
  refine (show FSpec Try.prog 7 [.rows 6 n (spc g), .int .i64 z, .agg [.int .i64 p, .int .i64 q, .int .i64 r]] [] (fun r H' => r = .bool true) from ?_).weaken ?_
  case refine_2 =>
    rintro r H' rfl
    exact ⟨[], by cases H' <;> simp [heapCov], rfl, Nat.le_refl _, rfl, rfl⟩
  refine FSpec.of (fn := Try.f7) Try.func7 rfl rfl (by simp) fun C hC => ?_
  obtain ⟨iadd, isub, imul, iquo, irem, iband, ibor, ibxor, ibandn, ishl, ishr, iconv, ieq, ine, ilt, ile, igt, ige, bbeq, bbne, bnot, bband, sseq, ssne, sscat, sssub, sslen, sssz, ssbyte, toN, ofN, addN, subN, eqN, ltB, leN, imx, imn, inb, leb, sslt, ltN, fit, ne0, ge0, ssfit, minN, inR, bcol, bstr, isBy, hS⟩ := names
  refine V.goF (by first | exact trivial | assumption) Try.func7 tl_ok mixed hS.ops [] 3 ?_
  intro VV VA W hVV hVA hW
  conv => cbv
  rw [hVV]
  clear hVV hVA VV VA hW W
  refine V.freezePtr 5 rfl rfl rfl ?_
  obtain ⟨R, hR⟩ := bool_of (fitsL g n z)
  refine V.goF (by first | exact trivial | assumption) Try.func7 tl_ok mixed hS.ops [] 400 ?_
  intro VV VA W hVV hVA hW
  conv => cbv
  rw [hVV]
  clear hVV hVA VV VA hW W
  refine V.call rfl rfl rfl rfl rfl Try.func18 rfl (by decide) [] (by simp) (by simp) (by (first | rfl | ((conv => cbv); (repeat' apply And.intro) <;> first | rfl | trivial | (first | rfl | omega | (simp (disch := omega) only [hS.glob, wraps, plain, Int.ofNat_eq_natCast]; first | done | rfl | omega | (simp; done) | (simp; omega)) | (simp (disch := omega) only [hS.glob, wraps, plain, Int.ofNat_eq_natCast, Vx.toN]; omega))))) rfl (f18_ok n hn g hs z R hR) ?_
  rintro r0 Hc ⟨rfl, rfl⟩
  refine V.goF (by first | exact trivial | assumption) Try.func7 tl_ok mixed hS.ops [] 400 ?_
  intro VV VA W hVV hVA hW
  conv => cbv
  cases R
  case false =>
    conv => cbv
    rw [hVV]
    clear hVV hVA VV VA hW W
    refine V.call rfl rfl rfl rfl rfl Try.func8 rfl (by decide) [] (by simp) (by simp) (by (first | rfl | ((conv => cbv); (repeat' apply And.intro) <;> first | rfl | trivial | (first | rfl | omega | (simp (disch := omega) only [hS.glob, wraps, plain, Int.ofNat_eq_natCast]; first | done | rfl | omega | (simp; done) | (simp; omega)) | (simp (disch := omega) only [hS.glob, wraps, plain, Int.ofNat_eq_natCast, Vx.toN]; omega))))) rfl f8_ok ?_
    rintro r0 Hc ⟨rfl, rfl⟩
    refine V.goF (by first | exact trivial | assumption) Try.func7 tl_ok mixed hS.ops [] 400 ?_
    intro VV VA W hVV hVA hW
    conv => cbv
    trivial
  obtain ⟨c1, c2, c3, c4, hr⟩ := hR.1 rfl
  have hz : ∀ j, j < n → inSz (g j) := fun j hj => (hs j hj).sz (c4 j hj)
  have ho := hr.ord hz
  have hmid : ∀ j, j < n → mid2 (g j).fr ∧ mid2 (g j).to := fun j hj => by
    have h4 := hr.one j hj
    have h5 := h4.1.2.2.1
    have h6 := h4.1.2.2.2.1
    have h7 := h4.2
    unfold mid2
    omega
  conv => cbv
  cases h1 : ieq z 0
  case true =>
    conv => cbv
    rw [hVV]
    clear hVV hVA VV VA hW W
    refine V.call rfl rfl rfl rfl rfl Try.func8 rfl (by decide) [] (by simp) (by simp) (by (first | rfl | ((conv => cbv); (repeat' apply And.intro) <;> first | rfl | trivial | (first | rfl | omega | (simp (disch := omega) only [hS.glob, wraps, plain, Int.ofNat_eq_natCast]; first | done | rfl | omega | (simp; done) | (simp; omega)) | (simp (disch := omega) only [hS.glob, wraps, plain, Int.ofNat_eq_natCast, Vx.toN]; omega))))) rfl f8_ok ?_
    rintro r0 Hc ⟨rfl, rfl⟩
    refine V.goF (by first | exact trivial | assumption) Try.func7 tl_ok mixed hS.ops [] 400 ?_
    intro VV VA W hVV hVA hW
    conv => cbv
    trivial
  obtain ⟨i, hi⟩ : ∃ a0, a0 = iband .i64 p 1023 := ⟨_, rfl⟩
  obtain ⟨fr, hfr⟩ : ∃ a0, a0 = iband .i64 q 1023 := ⟨_, rfl⟩
  obtain ⟨k, hk⟩ : ∃ k, k = iband .i64 r 63 := ⟨_, rfl⟩
  have hb0 : 0 ≤ i ∧ i ≤ 1023 := by rw [hi]; simp only [hS.glob]; exact iband_le p 1023 (by decide)
  have hb1 : 0 ≤ fr ∧ fr ≤ 1023 := by rw [hfr]; simp only [hS.glob]; exact iband_le q 1023 (by decide)
  have hb2 : 0 ≤ k ∧ k ≤ 63 := by rw [hk]; simp only [hS.glob]; exact iband_le r 63 (by decide)
  conv => cbv
  repeat (refine ⟨by first | (rw [hW]; show ordOk _ _ _ = true; kernel_rfl) | (first | trivial | omega | (simp (disch := omega) only [hS.glob, wraps, plain, Int.ofNat_eq_natCast]; first | done | omega | trivial | (simp; done) | (simp; omega) | (constructor <;> omega)) | (simp (disch := omega) only [hS.glob, wraps, plain, Int.ofNat_eq_natCast, Vx.toN]; omega)), ?_⟩)
  simp only [← hi, ← hfr, ← hk]
  cases h2 : ige i z
  case true =>
    conv => cbv
    rw [hVV]
    clear hVV hVA VV VA hW W
    refine V.call rfl rfl rfl rfl rfl Try.func8 rfl (by decide) [] (by simp) (by simp) (by (first | rfl | ((conv => cbv); (repeat' apply And.intro) <;> first | rfl | trivial | (first | rfl | omega | (simp (disch := omega) only [hS.glob, wraps, plain, Int.ofNat_eq_natCast]; first | done | rfl | omega | (simp; done) | (simp; omega)) | (simp (disch := omega) only [hS.glob, wraps, plain, Int.ofNat_eq_natCast, Vx.toN]; omega))))) rfl f8_ok ?_
    rintro r0 Hc ⟨rfl, rfl⟩
    refine V.goF (by first | exact trivial | assumption) Try.func7 tl_ok mixed hS.ops [] 400 ?_
    intro VV VA W hVV hVA hW
    conv => cbv
    trivial
  conv => cbv
  cases h3 : igt fr z
  case true =>
    conv => cbv
    rw [hVV]
    clear hVV hVA VV VA hW W
    refine V.call rfl rfl rfl rfl rfl Try.func8 rfl (by decide) [] (by simp) (by simp) (by (first | rfl | ((conv => cbv); (repeat' apply And.intro) <;> first | rfl | trivial | (first | rfl | omega | (simp (disch := omega) only [hS.glob, wraps, plain, Int.ofNat_eq_natCast]; first | done | rfl | omega | (simp; done) | (simp; omega)) | (simp (disch := omega) only [hS.glob, wraps, plain, Int.ofNat_eq_natCast, Vx.toN]; omega))))) rfl f8_ok ?_
    rintro r0 Hc ⟨rfl, rfl⟩
    refine V.goF (by first | exact trivial | assumption) Try.func7 tl_ok mixed hS.ops [] 400 ?_
    intro VV VA W hVV hVA hW
    conv => cbv
    trivial
  conv => cbv
  simp (disch := first | omega | (simp only [hS.glob, wraps, plain, Int.ofNat_eq_natCast]; omega)) only [hS.glob, wraps, plain, Int.ofNat_eq_natCast] at h2 h3
  obtain ⟨fk, hfk⟩ : ∃ fk, fk = fr + k := ⟨_, rfl⟩
  have e1 : iadd .i64 fr k = fk := by rw [hfk]; (first | rfl | omega | (simp (disch := omega) only [hS.glob, wraps, plain, Int.ofNat_eq_natCast]; first | done | rfl | omega | (simp; done) | (simp; omega)) | (simp (disch := omega) only [hS.glob, wraps, plain, Int.ofNat_eq_natCast, Vx.toN]; omega))
  obtain ⟨gone, hgone⟩ := bool_of (fr ≤ i ∧ i < fk)
  obtain ⟨pl, hpl⟩ : ∃ pl, pl = if fr + k ≤ i then i - k else i := ⟨_, rfl⟩
  obtain ⟨aft, haft⟩ : ∃ aft, aft = if fr ≤ i then i + k else i := ⟨_, rfl⟩
  obtain ⟨N1, hN1⟩ : ∃ N, N = insU fr k n g := ⟨_, rfl⟩
  obtain ⟨N2, hN2⟩ : ∃ N, N = delU fr fk n g := ⟨_, rfl⟩
  have h19 := LstR.frozen (f19_ok n (by omega) g hmid fr k (by omega) (by omega) N1 hN1)
  have h21 := LstR.frozen (f21_ok n (by omega) g hmid fr fk (by omega) N2 hN2)
  have r1 := ins_right hr hb1.1 hb2.1
  rw [← hN1] at r1
  have r2 := del_right hr hb1.1 hb2.1 h3 rfl
  rw [← hfk, ← hN2] at r2
  have l1 := r1.len
  have l2 := r2.len
  have hz1 : ∀ j, j < N1.length → inSz (gL N1 j) := turn_sz (z := z) (tr := insS fr k) (kp := fun s => kpS (insS fr k s)) hz (fun s => ⟨rfl, rfl⟩) (by omega : z + k ≤ 9223372036854775807) N1 (by rw [hN1]; unfold insU; rw [if_neg (by omega)]) r1
  have hz2 : ∀ j, j < N2.length → inSz (gL N2 j) := turn_sz (z := z) (tr := movS (delX fr fk) (delX fr fk)) (kp := fun s => kpS (movS (delX fr fk) (delX fr fk) s)) hz (fun s => ⟨rfl, rfl⟩) (by omega : z - min k (z - fr) ≤ 9223372036854775807) N2 (by rw [hN2]; unfold delU; rw [if_neg (by omega)]) r2
  have o1 := r1.gl.ord hz1
  have o2 := r2.gl.ord hz2
  have y1 : gone = false → styS (gL N2) N2.length pl = styS g n i := fun h => del_sty hr hb1.1 hb2.1 h3 (fun h0 => by
    have := hgone.2 (by omega)
    rw [h] at this
    cases this) hpl N2 (by rw [hN2, hfk])
  have y2 := ins_sty hr hb1.1 hb2.1 haft N1 hN1
  obtain ⟨s, hs1⟩ : ∃ s, s = styS g n i := ⟨_, rfl⟩
  rw [← hs1] at y1 y2
  have h16 := f16_ok n (by omega) g ho i s hs1
  have h16b : gone = false → FSpec Try.prog 16 [.rows 6 N2.length (spc (gL N2)), .int .i64 pl] [] (fun r H' => r = .agg [.int .i64 s.fr, .int .i64 s.to, .int .i64 s.po, .bool s.co, .str s.ru, .int .u64 s.sc] ∧ H' = []) := fun h => f16_ok N2.length (by omega) (gL N2) o2 pl s (y1 h).symm
  obtain ⟨s2, hs2⟩ : ∃ s, s = styS (gL N1) N1.length aft := ⟨_, rfl⟩
  rw [← hs2] at y2
  have h16c := f16_ok N1.length (by omega) (gL N1) o1 aft s2 hs2
  obtain ⟨m1, hm1⟩ : ∃ m, m = N1.length := ⟨_, rfl⟩
  obtain ⟨g1, hg1⟩ : ∃ m, m = gL N1 := ⟨_, rfl⟩
  obtain ⟨m2, hm2⟩ : ∃ m, m = N2.length := ⟨_, rfl⟩
  obtain ⟨g2, hg2⟩ : ∃ m, m = gL N2 := ⟨_, rfl⟩
  rw [← hm1, ← hg1] at h19 h16c
  rw [← hm2, ← hg2] at h21 h16b
  clear hs1 hs2 y1 o1 o2 hz1 hz2 r1 r2 hm1 hg1 hm2 hg2 hN1 hN2
  rcases s with ⟨a1, b1, p1, d1, u1, x1⟩
  rcases s2 with ⟨a2, b2, p2, d2, u2, x2⟩
  dsimp only at h16 h16b h16c y2
  simp only [e1]
  rw [hVV]
  clear hVV hVA VV VA hW W
  refine V.call rfl rfl rfl rfl rfl Try.func21 rfl (by decide) [] (by simp) (by simp) (by (first | rfl | ((conv => cbv); (repeat' apply And.intro) <;> first | rfl | trivial | (first | rfl | omega | (simp (disch := omega) only [hS.glob, wraps, plain, Int.ofNat_eq_natCast]; first | done | rfl | omega | (simp; done) | (simp; omega)) | (simp (disch := omega) only [hS.glob, wraps, plain, Int.ofNat_eq_natCast, Vx.toN]; omega))))) rfl h21 ?_
  rintro r0 Hc ⟨rfl, rfl⟩
  refine V.goF (by first | exact trivial | assumption) Try.func7 tl_ok mixed hS.ops [] 400 ?_
  intro VV VA W hVV hVA hW
  conv => cbv
  rw [hVV]
  clear hVV hVA VV VA hW W
  refine V.call rfl rfl rfl rfl rfl Try.func19 rfl (by decide) [] (by simp) (by simp) (by (first | rfl | ((conv => cbv); (repeat' apply And.intro) <;> first | rfl | trivial | (first | rfl | omega | (simp (disch := omega) only [hS.glob, wraps, plain, Int.ofNat_eq_natCast]; first | done | rfl | omega | (simp; done) | (simp; omega)) | (simp (disch := omega) only [hS.glob, wraps, plain, Int.ofNat_eq_natCast, Vx.toN]; omega))))) rfl h19 ?_
  rintro r0 Hc ⟨rfl, rfl⟩
  refine V.goF (by first | exact trivial | assumption) Try.func7 tl_ok mixed hS.ops [] 400 ?_
  intro VV VA W hVV hVA hW
  conv => cbv
  rw [hVV]
  clear hVV hVA VV VA hW W
  refine V.call rfl rfl rfl rfl rfl Try.func16 rfl (by decide) [] (by simp) (by simp) (by (first | rfl | ((conv => cbv); (repeat' apply And.intro) <;> first | rfl | trivial | (first | rfl | omega | (simp (disch := omega) only [hS.glob, wraps, plain, Int.ofNat_eq_natCast]; first | done | rfl | omega | (simp; done) | (simp; omega)) | (simp (disch := omega) only [hS.glob, wraps, plain, Int.ofNat_eq_natCast, Vx.toN]; omega))))) rfl h16 ?_
  rintro r0 Hc ⟨rfl, rfl⟩
  refine V.goF (by first | exact trivial | assumption) Try.func7 tl_ok mixed hS.ops [(19, .none)] 400 ?_
  intro VV VA W hVV hVA hW
  conv => cbv
  simp only [e1]
  have G0 : ¬ (fr ≤ i ∧ i < fk) → gone = false := fun h => by
    cases gone
    · rfl
    · exact absurd (hgone.1 rfl) h
  have G1 : (fr ≤ i ∧ i < fk) → gone = true := fun h => hgone.2 h
  have P1 : isub .i64 i k = i - k := by (first | rfl | omega | (simp (disch := omega) only [hS.glob, wraps, plain, Int.ofNat_eq_natCast]; first | done | rfl | omega | (simp; done) | (simp; omega)) | (simp (disch := omega) only [hS.glob, wraps, plain, Int.ofNat_eq_natCast, Vx.toN]; omega))
  have P2 : iadd .i64 i k = i + k := by (first | rfl | omega | (simp (disch := omega) only [hS.glob, wraps, plain, Int.ofNat_eq_natCast]; first | done | rfl | omega | (simp; done) | (simp; omega)) | (simp (disch := omega) only [hS.glob, wraps, plain, Int.ofNat_eq_natCast, Vx.toN]; omega))
  have eA : bband (ieq a1 a1) (bband (ieq b1 b1) (bband (ieq p1 p1) (bband (bbeq d1 d1) (bband (sseq u1 u1) (bband (ieq x1 x1) true))))) = true := by
    have key := (sp_all (⟨a1, b1, p1, d1, u1, x1⟩ : Sp) (⟨a1, b1, p1, d1, u1, x1⟩ : Sp)).2 rfl
    simp only [hS.glob]
    exact key
  have eB : d1 = false → bband (ieq a2 a1) (bband (ieq b2 b1) (bband (ieq p2 p1) (bband (bbeq d2 d1) (bband (sseq u2 u1) (bband (ieq x2 x1) true))))) = true := fun hd => by
    have h0 : (⟨a2, b2, p2, d2, u2, x2⟩ : Sp) = (⟨a1, b1, p1, d1, u1, x1⟩ : Sp) := by
      rcases y2 with y2 | y2
      · rw [hd] at y2; cases y2
      · exact y2
    have key := (sp_all (⟨a2, b2, p2, d2, u2, x2⟩ : Sp) (⟨a1, b1, p1, d1, u1, x1⟩ : Sp)).2 h0
    simp only [hS.glob]
    exact key
  cases h5 : ige i fk <;> (conv => cbv) <;> (try (simp only [e1]; (conv => cbv))) <;> cases h6 : ige i fr <;> (conv => cbv) <;> (try (simp only [e1]; (conv => cbv))) <;> cases h7 : ilt i fk <;> (conv => cbv) <;> (try (simp only [h6, h7, e1]; (conv => cbv)))
  all_goals try simp only [e1] at h5 h6 h7
  all_goals try simp only [e1] at h7
  all_goals simp only [hS.glob, plain] at h5 h6 h7
  all_goals try (exfalso; omega)
  all_goals
    rw [hVV]
    clear hVV hVA VV VA hW W
    refine V.pick [1] (by decide) (by rw [hC]; exact begins_of rfl) (by rfl) (by rfl) ?_
    refine V.to (s' := [(16, .int .i64 aft), (15, .bool gone), (14, .int .i64 pl), (13, .ptr 0 0 0), (12, .rows 6 m1 (spc g1)), (11, .rows 6 m2 (spc g2))]) (H' := [some ⟨27, 6, .lit [[.int .i64 a1, .int .i64 b1, .int .i64 p1, .bool d1, .str u1, .int .u64 x1]]⟩]) ?_ (by
      refine ⟨sti ?_, blq ?_, sti ?_, rfl, rfl, rfl, trivial⟩
      · try simp only [P2]
        rw [haft]; split <;> omega
      · by_cases hq : fr ≤ i ∧ i < fk
        · first | exact (G1 hq).symm | (exfalso; omega)
        · first | exact (G0 hq).symm | (exfalso; omega)
      · try simp only [P1]
        rw [hpl]; split <;> omega) rfl (by (repeat' first | exact trivial | rfl | exact Nat.le_refl _ | exact (fun _ _ => rfl) | (refine And.intro ?_ ?_) | (simp only [hS.glob, plain]; first | done | omega))) (by rw [hC]; simp)
    cases gone <;> cases d1
    all_goals
      refine V.drawnK tl_ok mixed (.one 0 .none (.one 1 .none (.one 2 .none (.one 3 .none (.one 4 .none (.one 5 .none (.alt 6 (.one 7 .none (.one 8 .none (.one 9 .none (.one 10 .none (.one 11 .none (.one 12 .none (.one 13 .none (.one 14 .none (.one 15 .none (.one 16 .none (.alt 17 (.one 18 .none (.one 19 .none (.one 20 .none (.one 21 .none (.one 22 .none .done))))) (.alt 18 (.one 17 .none (.one 19 .none (.one 20 .none (.one 21 .none (.one 22 .none .done))))) .none)))))))))))) (.alt 7 (.one 6 .none (.one 8 .none (.one 9 .none (.one 10 .none (.one 11 .none (.one 12 .none (.one 13 .none (.one 14 .none (.one 15 .none (.one 16 .none (.alt 17 (.one 18 .none (.one 19 .none (.one 20 .none (.one 21 .none (.one 22 .none .done))))) (.alt 18 (.one 17 .none (.one 19 .none (.one 20 .none (.one 21 .none (.one 22 .none .done))))) .none)))))))))))) .none)))))))) (fun s H => covers s [(6, .bool true)] ∧ ∃ d1, H = [some ⟨27, 6, .lit [[.int .i64 a1, .int .i64 b1, .int .i64 p1, .bool d1, .str u1, .int .u64 x1]]⟩]) (by as_aux_lemma => kernel_rfl) ?_ ?_
      · refine AnyT.goK tl_ok hS.ops ?_
        intro KK VA hKK hVA
        conv => cbv
        repeat' first
          | trivial
          | apply And.intro
          | (rw [hKK]; exact ⟨⟨rfl, trivial⟩, _, rfl⟩)
          | (rw [hVA]; clear hKK hVA KK VA; refine AnyT.call rfl rfl rfl rfl rfl Try.func8 rfl (by decide) [] (by simp) (by simp) (by rfl) rfl f8_ok ?_; rintro r0 Hc ⟨rfl, rfl⟩; refine AnyT.goK tl_ok hS.ops ?_; intro KK VA hKK hVA; conv => cbv)
          | (rw [hVA]; clear hKK hVA KK VA; refine AnyT.call rfl rfl rfl rfl rfl Try.func16 rfl (by decide) [] (by simp) (by simp) (by rfl) rfl (h16b rfl) ?_; rintro r0 Hc ⟨rfl, rfl⟩; refine AnyT.goK tl_ok hS.ops ?_; intro KK VA hKK hVA; conv => cbv)
          | (rw [hVA]; clear hKK hVA KK VA; refine AnyT.call rfl rfl rfl rfl rfl Try.func16 rfl (by decide) [] (by simp) (by simp) (by rfl) rfl h16c ?_; rintro r0 Hc ⟨rfl, rfl⟩; refine AnyT.goK tl_ok hS.ops ?_; intro KK VA hKK hVA; conv => cbv)
          | (simp only [eA]; conv => cbv)
          | (simp only [eB rfl]; conv => cbv)
        all_goals done
      rintro s H ⟨hcov, d1, rfl⟩
      refine V.to (s' := [(6, .bool true)]) (H' := [some ⟨27, 6, .lit [[.int .i64 a1, .int .i64 b1, .int .i64 p1, .bool d1, .str u1, .int .u64 x1]]⟩]) ?_ hcov rfl (by (repeat' first | exact trivial | rfl | exact Nat.le_refl _ | exact (fun _ _ => rfl) | (refine And.intro ?_ ?_) | (simp only [hS.glob, plain]; first | done | omega))) (by rw [hC]; simp)
      refine V.goF (by first | exact trivial | assumption) Try.func7 tl_ok mixed hS.ops [] 400 ?_
      intro VV VA W hVV hVA hW
      conv => cbv
      trivial
end Go.Proofs.Ytandgpkibpggnaa
