/- Contracts of functions by an evaluator of the model: its part T8. -/
import Derived.Test.YtandgpkibpggnaaT7
import Derived.Test.YtandgpkibpggnaaV3
import Derived.Test.YtandgpkibpggnaaT6
set_option linter.all false
/- A question whose answer is fixed: the plain part. -/
namespace Go.Proofs.Ytandgpkibpggnaa
open Go Vx
/-- A list as a function. -/
def gL (N : List Sp) (j : Nat) : Sp := N.getD j noSp
theorem tab_gL (N : List Sp) : tab N.length (gL N) = N := tab_of N noSp
theorem LstR.frozen {f : Nat} {args : List AV} {N : List Sp} (h : FSpec Try.prog f args [] (LstR N)) : FSpec Try.prog f args [] (fun r H' => r = .rows 6 N.length (spc (gL N)) ∧ H' = []) := by
  refine FSpec.freeze (e := 27) (by decide) (FSpec.weaken h ?_)
  rintro r H' ⟨m, h, h1, rfl, rfl⟩
  have hm : m = N.length := by rw [h1, tab_len]
  subst hm
  refine ⟨[some ⟨27, 6, .arr N.length (spc (gL N))⟩], ⟨⟨rfl, rfl, ⟨Nat.le_refl _, fun i hi => ?_⟩, rfl⟩, trivial⟩, rfl, Nat.zero_le _, rfl, rfl⟩
  have e : gL N i = h i := by
    have h2 := tab_gL N
    have h3 := tab_inj (h2.trans h1) i hi
    exact h3
  simp only [spc, e]
def s0 : Sp := ⟨2, 5, 1, false, ⟨#[]⟩, 0⟩
def s1 : Sp := ⟨5, 9, 1, false, ⟨#[]⟩, 0⟩
def s2 : Sp := ⟨9, 12, 0, false, ⟨#[]⟩, 0⟩
theorem al_norm : normU 3 (gL [s0, s1, s2]) = [⟨2, 9, 1, false, ⟨#[]⟩, 0⟩] := by
  have e : tab 3 (gL [s0, s1, s2]) = [s0, s1, s2] := tab_gL _
  unfold normU
  rw [e]
  have z : (⟨#[]⟩ : ByteArray).size = 0 := rfl
  simp [nstep, bareS, noSp, joinS, s0, s1, s2, z]
theorem al_ins : insU 3 4 1 (gL [⟨2, 9, 1, false, ⟨#[]⟩, 0⟩]) = [⟨2, 13, 1, false, ⟨#[]⟩, 0⟩] := by
  have e : tab 1 (gL [⟨2, 9, 1, false, ⟨#[]⟩, 0⟩]) = [⟨2, 9, 1, false, ⟨#[]⟩, 0⟩] := tab_gL _
  unfold insU turnU
  rw [e]
  simp [insS, movS, kpS, insX]
theorem al_del : delU 0 4 1 (gL [⟨2, 9, 1, false, ⟨#[]⟩, 0⟩]) = [⟨0, 5, 1, false, ⟨#[]⟩, 0⟩] := by
  have e : tab 1 (gL [⟨2, 9, 1, false, ⟨#[]⟩, 0⟩]) = [⟨2, 9, 1, false, ⟨#[]⟩, 0⟩] := tab_gL _
  unfold delU turnU
  rw [e]
  simp [movS, kpS, delX]
theorem al_ok (s : Sp) (h : s = s0 ∨ s = s1 ∨ s = s2) : okSp s ∧ inSz s := by
  have z : (⟨#[]⟩ : ByteArray).size = 0 := rfl
  rcases h with rfl | rfl | rfl
  all_goals
    refine ⟨⟨by decide, by decide, by decide, by decide, .inl rfl, fun h => absurd h (by decide), okRu_empty _ rfl⟩, ?_⟩
    unfold inSz
    simp [s0, s1, s2, z]
theorem al_right : RightL (gL [s0, s1, s2]) 3 12 ∧ ¬ RightL (gL [s0, s1, s2]) 3 11 := by
  constructor
  · refine ⟨by decide, fun j hj => ?_, fun j hj => ?_⟩
    · rcases (by omega : j = 0 ∨ j = 1 ∨ j = 2) with rfl | rfl | rfl
      · exact ⟨(al_ok s0 (.inl rfl)).1, by decide⟩
      · exact ⟨(al_ok s1 (.inr (.inl rfl))).1, by decide⟩
      · exact ⟨(al_ok s2 (.inr (.inr rfl))).1, by decide⟩
    · rcases (by omega : j = 0 ∨ j = 1) with rfl | rfl <;> decide
  · intro h
    have := (h.one 2 (by decide)).2
    revert this
    decide
theorem al_sty : styS (gL [s0, s1, s2]) 3 6 = ⟨0, 0, 1, false, ⟨#[]⟩, 0⟩ := by
  have e : atF (gL [s0, s1, s2]) 6 0 3 = some 1 := atF_some 3 0 1 (by decide) (by decide) (by unfold inSp; decide) (fun j h1 h2 => by
    obtain rfl : j = 0 := by omega
    unfold inSp
    decide)
  unfold styS
  rw [e]
  rfl
end Go.Proofs.Ytandgpkibpggnaa

/- A question whose answer is fixed: the walk. -/
namespace Go.Proofs.Ytandgpkibpggnaa
open Go Vx
theorem f8_ok : FSpec Try.prog 8 [] [] (fun r H' => r = .bool true ∧ H' = []) := by
  refine (show FSpec Try.prog 8 [] [] (fun r H' => r = .bool true) from ?_).weaken ?_
  case refine_2 =>
    rintro r H' rfl
    exact ⟨[], by cases H' <;> simp [heapCov], rfl, Nat.le_refl _, rfl, rfl⟩
  obtain ⟨g, hg⟩ : ∃ g, g = gL [s0, s1, s2] := ⟨_, rfl⟩
  obtain ⟨g1, hg1⟩ : ∃ g, g = gL [⟨2, 9, 1, false, ⟨#[]⟩, 0⟩] := ⟨_, rfl⟩
  obtain ⟨g2, hg2⟩ : ∃ g, g = gL [⟨2, 13, 1, false, ⟨#[]⟩, 0⟩] := ⟨_, rfl⟩
  obtain ⟨g3, hg3⟩ : ∃ g, g = gL [⟨0, 5, 1, false, ⟨#[]⟩, 0⟩] := ⟨_, rfl⟩
  have hin : ∀ j, j < 3 → inSz (g j) := fun j hj => by
    rw [hg]
    rcases (by omega : j = 0 ∨ j = 1 ∨ j = 2) with rfl | rfl | rfl
    · exact (al_ok s0 (.inl rfl)).2
    · exact (al_ok s1 (.inr (.inl rfl))).2
    · exact (al_ok s2 (.inr (.inr rfl))).2
  have h14 : FSpec Try.prog 14 [.rows 6 3 (spc g)] [] (fun r H' => r = .rows 6 1 (spc g1) ∧ H' = []) := by
    have := LstR.frozen (N := [⟨2, 9, 1, false, ⟨#[]⟩, 0⟩]) (f14_ok 3 (by decide) g _ (by rw [hg]; exact al_norm.symm))
    rw [hg1]; exact this
  have hm1 : ∀ j, j < 1 → mid2 (g1 j).fr ∧ mid2 (g1 j).to := fun j hj => by
    obtain rfl : j = 0 := by omega
    rw [hg1]
    unfold mid2
    decide
  have h19 : FSpec Try.prog 19 [.rows 6 1 (spc g1), .int .i64 3, .int .i64 4] [] (fun r H' => r = .rows 6 1 (spc g2) ∧ H' = []) := by
    have := LstR.frozen (N := [⟨2, 13, 1, false, ⟨#[]⟩, 0⟩]) (f19_ok 1 (by decide) g1 hm1 3 4 (by decide) (by decide) _ (by rw [hg1]; exact al_ins.symm))
    rw [hg2]; exact this
  have h21 : FSpec Try.prog 21 [.rows 6 1 (spc g1), .int .i64 0, .int .i64 4] [] (fun r H' => r = .rows 6 1 (spc g3) ∧ H' = []) := by
    have := LstR.frozen (N := [⟨0, 5, 1, false, ⟨#[]⟩, 0⟩]) (f21_ok 1 (by decide) g1 hm1 0 4 (by decide) _ (by rw [hg1]; exact al_del.symm))
    rw [hg3]; exact this
  have hr1 := f10_ok 3 (by decide) g hin 12 true (by rw [hg]; exact ⟨fun _ => al_right.1, fun _ => rfl⟩)
  have hr2 := f10_ok 3 (by decide) g hin 11 false (by rw [hg]; exact ⟨fun h => (by cases h), fun h => absurd h al_right.2⟩)
  have ho : Ord g 3 := by rw [hg]; exact al_right.1.ord (by rw [← hg]; exact hin)
  have h16 := f16_ok 3 (by decide) g ho 6 ⟨0, 0, 1, false, ⟨#[]⟩, 0⟩ (by rw [hg]; exact al_sty.symm)
  have v1 : (g1 0).to = 9 := by rw [hg1]; rfl
  have v2 : (g2 0).to = 13 := by rw [hg2]; rfl
  have v3 : (g3 0).fr = 0 := by rw [hg3]; rfl
  have v4 : (g3 0).to = 5 := by rw [hg3]; rfl
  refine FSpec.of (fn := Try.f8) Try.func8 rfl rfl (by simp) fun C hC => ?_
  obtain ⟨iadd, isub, imul, iquo, irem, iband, ibor, ibxor, ibandn, ishl, ishr, iconv, ieq, ine, ilt, ile, igt, ige, bbeq, bbne, bnot, bband, sseq, ssne, sscat, sssub, sslen, sssz, ssbyte, toN, ofN, addN, subN, eqN, ltB, leN, imx, imn, inb, leb, sslt, ltN, fit, ne0, ge0, ssfit, minN, inR, bcol, bstr, isBy, hS⟩ := names
  refine V.goF (by first | exact trivial | assumption) Try.func8 tl_ok mixed hS.ops [] 10 ?_
  intro VV VA W hVV hVA hW
  conv => cbv
  rw [hVV]
  clear hVV hVA VV VA hW W
  refine V.freeze0 8 0 3 (by rfl) (by rfl) (by rfl) (by first | decide | omega | exact (Nat.succ_pos _)) (by rfl) (by rfl) (by first | exact Nat.le_refl _ | decide | omega | (simp only [Cont.n]; omega)) ?_
  refine V.sub 8 (y := .rows 6 3 (spc g)) (Sub.rows fun i hi => ?_) ?_
  · rw [hg]
    rcases (by omega : i = 0 ∨ i = 1 ∨ i = 2) with rfl | rfl | rfl
    · exact Subs.refl _
    · exact Subs.refl _
    · exact Subs.refl _
  refine V.goF (by first | exact trivial | assumption) Try.func8 tl_ok mixed hS.ops [] 400 ?_
  intro VV VA W hVV hVA hW
  conv => cbv
  rw [hVV]
  clear hVV hVA VV VA hW W
  refine V.call rfl rfl rfl rfl rfl Try.func14 rfl (by decide) [] (by simp) (by simp) (by (first | rfl | ((conv => cbv); (repeat' apply And.intro) <;> first | rfl | trivial | (first | rfl | omega | (simp (disch := omega) only [hS.glob, wraps, plain, Int.ofNat_eq_natCast]; first | done | rfl | omega | (simp; done) | (simp; omega)) | (simp (disch := omega) only [hS.glob, wraps, plain, Int.ofNat_eq_natCast, Vx.toN]; omega))))) rfl h14 ?_
  rintro r Hc ⟨rfl, rfl⟩
  refine V.goF (by first | exact trivial | assumption) Try.func8 tl_ok mixed hS.ops [] 400 ?_
  intro VV VA W hVV hVA hW
  conv => cbv
  rw [hVV]
  clear hVV hVA VV VA hW W
  refine V.call rfl rfl rfl rfl rfl Try.func19 rfl (by decide) [] (by simp) (by simp) (by (first | rfl | ((conv => cbv); (repeat' apply And.intro) <;> first | rfl | trivial | (first | rfl | omega | (simp (disch := omega) only [hS.glob, wraps, plain, Int.ofNat_eq_natCast]; first | done | rfl | omega | (simp; done) | (simp; omega)) | (simp (disch := omega) only [hS.glob, wraps, plain, Int.ofNat_eq_natCast, Vx.toN]; omega))))) rfl h19 ?_
  rintro r Hc ⟨rfl, rfl⟩
  refine V.goF (by first | exact trivial | assumption) Try.func8 tl_ok mixed hS.ops [] 400 ?_
  intro VV VA W hVV hVA hW
  conv => cbv
  rw [hVV]
  clear hVV hVA VV VA hW W
  refine V.call rfl rfl rfl rfl rfl Try.func21 rfl (by decide) [] (by simp) (by simp) (by (first | rfl | ((conv => cbv); (repeat' apply And.intro) <;> first | rfl | trivial | (first | rfl | omega | (simp (disch := omega) only [hS.glob, wraps, plain, Int.ofNat_eq_natCast]; first | done | rfl | omega | (simp; done) | (simp; omega)) | (simp (disch := omega) only [hS.glob, wraps, plain, Int.ofNat_eq_natCast, Vx.toN]; omega))))) rfl h21 ?_
  rintro r Hc ⟨rfl, rfl⟩
  refine V.goF (by first | exact trivial | assumption) Try.func8 tl_ok mixed hS.ops [] 400 ?_
  intro VV VA W hVV hVA hW
  conv => cbv
  rw [hVV]
  clear hVV hVA VV VA hW W
  refine V.call rfl rfl rfl rfl rfl Try.func10 rfl (by decide) [] (by simp) (by simp) (by (first | rfl | ((conv => cbv); (repeat' apply And.intro) <;> first | rfl | trivial | (first | rfl | omega | (simp (disch := omega) only [hS.glob, wraps, plain, Int.ofNat_eq_natCast]; first | done | rfl | omega | (simp; done) | (simp; omega)) | (simp (disch := omega) only [hS.glob, wraps, plain, Int.ofNat_eq_natCast, Vx.toN]; omega))))) rfl hr1 ?_
  rintro r Hc ⟨rfl, rfl⟩
  refine V.goF (by first | exact trivial | assumption) Try.func8 tl_ok mixed hS.ops [] 400 ?_
  intro VV VA W hVV hVA hW
  conv => cbv
  rw [hVV]
  clear hVV hVA VV VA hW W
  refine V.call rfl rfl rfl rfl rfl Try.func10 rfl (by decide) [] (by simp) (by simp) (by (first | rfl | ((conv => cbv); (repeat' apply And.intro) <;> first | rfl | trivial | (first | rfl | omega | (simp (disch := omega) only [hS.glob, wraps, plain, Int.ofNat_eq_natCast]; first | done | rfl | omega | (simp; done) | (simp; omega)) | (simp (disch := omega) only [hS.glob, wraps, plain, Int.ofNat_eq_natCast, Vx.toN]; omega))))) rfl hr2 ?_
  rintro r Hc ⟨rfl, rfl⟩
  refine V.goF (by first | exact trivial | assumption) Try.func8 tl_ok mixed hS.ops [] 400 ?_
  intro VV VA W hVV hVA hW
  conv => cbv
  have z0 : toN 0 = 0 := by simp only [hS.glob]; rfl
  have el0 : ieq (ofN 1) 1 = true := by (first | rfl | omega | (simp (disch := omega) only [hS.glob, wraps, plain, Int.ofNat_eq_natCast]; first | done | rfl | omega | (simp; done) | (simp; omega)) | (simp (disch := omega) only [hS.glob, wraps, plain, Int.ofNat_eq_natCast, Vx.toN]; omega))
  simp only [el0]
  clear el0
  conv => cbv
  repeat (refine ⟨by first | (rw [hW]; show ordOk _ _ _ = true; kernel_rfl) | (first | trivial | omega | (simp (disch := omega) only [hS.glob, wraps, plain, Int.ofNat_eq_natCast]; first | done | omega | trivial | (simp; done) | (simp; omega) | (constructor <;> omega)) | (simp (disch := omega) only [hS.glob, wraps, plain, Int.ofNat_eq_natCast, Vx.toN]; omega)), ?_⟩)
  simp only [z0, v1]
  have el0 : ieq 9 9 = true := by (first | rfl | omega | (simp (disch := omega) only [hS.glob, wraps, plain, Int.ofNat_eq_natCast]; first | done | rfl | omega | (simp; done) | (simp; omega)) | (simp (disch := omega) only [hS.glob, wraps, plain, Int.ofNat_eq_natCast, Vx.toN]; omega))
  simp only [el0]
  clear el0
  conv => cbv
  repeat (refine ⟨by first | (rw [hW]; show ordOk _ _ _ = true; kernel_rfl) | (first | trivial | omega | (simp (disch := omega) only [hS.glob, wraps, plain, Int.ofNat_eq_natCast]; first | done | omega | trivial | (simp; done) | (simp; omega) | (constructor <;> omega)) | (simp (disch := omega) only [hS.glob, wraps, plain, Int.ofNat_eq_natCast, Vx.toN]; omega)), ?_⟩)
  simp only [z0, v2]
  have el0 : ieq 13 13 = true := by (first | rfl | omega | (simp (disch := omega) only [hS.glob, wraps, plain, Int.ofNat_eq_natCast]; first | done | rfl | omega | (simp; done) | (simp; omega)) | (simp (disch := omega) only [hS.glob, wraps, plain, Int.ofNat_eq_natCast, Vx.toN]; omega))
  simp only [el0]
  clear el0
  conv => cbv
  repeat (refine ⟨by first | (rw [hW]; show ordOk _ _ _ = true; kernel_rfl) | (first | trivial | omega | (simp (disch := omega) only [hS.glob, wraps, plain, Int.ofNat_eq_natCast]; first | done | omega | trivial | (simp; done) | (simp; omega) | (constructor <;> omega)) | (simp (disch := omega) only [hS.glob, wraps, plain, Int.ofNat_eq_natCast, Vx.toN]; omega)), ?_⟩)
  simp only [z0, v3]
  have el0 : ieq 0 0 = true := by (first | rfl | omega | (simp (disch := omega) only [hS.glob, wraps, plain, Int.ofNat_eq_natCast]; first | done | rfl | omega | (simp; done) | (simp; omega)) | (simp (disch := omega) only [hS.glob, wraps, plain, Int.ofNat_eq_natCast, Vx.toN]; omega))
  simp only [el0]
  clear el0
  conv => cbv
  repeat (refine ⟨by first | (rw [hW]; show ordOk _ _ _ = true; kernel_rfl) | (first | trivial | omega | (simp (disch := omega) only [hS.glob, wraps, plain, Int.ofNat_eq_natCast]; first | done | omega | trivial | (simp; done) | (simp; omega) | (constructor <;> omega)) | (simp (disch := omega) only [hS.glob, wraps, plain, Int.ofNat_eq_natCast, Vx.toN]; omega)), ?_⟩)
  simp only [z0, v4]
  have el0 : ieq 5 5 = true := by (first | rfl | omega | (simp (disch := omega) only [hS.glob, wraps, plain, Int.ofNat_eq_natCast]; first | done | rfl | omega | (simp; done) | (simp; omega)) | (simp (disch := omega) only [hS.glob, wraps, plain, Int.ofNat_eq_natCast, Vx.toN]; omega))
  simp only [el0]
  clear el0
  conv => cbv
  rw [hVV]
  clear hVV hVA VV VA hW W
  refine V.call rfl rfl rfl rfl rfl Try.func16 rfl (by decide) [] (by simp) (by simp) (by (first | rfl | ((conv => cbv); (repeat' apply And.intro) <;> first | rfl | trivial | (first | rfl | omega | (simp (disch := omega) only [hS.glob, wraps, plain, Int.ofNat_eq_natCast]; first | done | rfl | omega | (simp; done) | (simp; omega)) | (simp (disch := omega) only [hS.glob, wraps, plain, Int.ofNat_eq_natCast, Vx.toN]; omega))))) rfl h16 ?_
  rintro r Hc ⟨rfl, rfl⟩
  refine V.goF (by first | exact trivial | assumption) Try.func8 tl_ok mixed hS.ops [] 400 ?_
  intro VV VA W hVV hVA hW
  conv => cbv
  have e1 : ieq 1 1 = true := by (first | rfl | omega | (simp (disch := omega) only [hS.glob, wraps, plain, Int.ofNat_eq_natCast]; first | done | rfl | omega | (simp; done) | (simp; omega)) | (simp (disch := omega) only [hS.glob, wraps, plain, Int.ofNat_eq_natCast, Vx.toN]; omega))
  rw [e1]
end Go.Proofs.Ytandgpkibpggnaa

/- What a law's spans may be; whether they are right. -/
namespace Go.Proofs.Ytandgpkibpggnaa
open Go Vx
def inW (s : Sp) : Prop := (-9223372036854775808 ≤ s.fr ∧ s.fr ≤ 9223372036854775807) ∧ (-9223372036854775808 ≤ s.to ∧ s.to ≤ 9223372036854775807) ∧ (0 ≤ s.sc ∧ s.sc ≤ 18446744073709551615) ∧ s.ru.size ≤ 140737488355328
def fitsL (g : Nat → Sp) (n : Nat) (z : Int) : Prop := n ≤ 60 ∧ 0 ≤ z ∧ z ≤ 1048576 ∧ (∀ j, j < n → (g j).ru.size ≤ 200) ∧ RightL g n z
theorem inW.sz {s : Sp} (h : inW s) (hr : s.ru.size ≤ 200) : inSz s := ⟨h.1, h.2.1, h.2.2.1, by omega⟩
theorem f18_ok (n : Nat) (hn : n ≤ 10000000000000) (g : Nat → Sp) (hs : ∀ j, j < n → inW (g j)) (z : Int) (R : Bool) (hR : R = true ↔ fitsL g n z) : FSpec Try.prog 18 [.rows 6 n (spc g), .int .i64 z] [] (fun r H' => r = .bool R ∧ H' = []) := by
  obtain ⟨Q, hQ⟩ : ∃ Q : AV → Hp → Prop, Q = (fun r H' => r = .bool R ∧ H' = []) := ⟨_, rfl⟩
  rw [← hQ]
  have no : ¬ fitsL g n z → Q (.bool false) [] := fun h => by
    rw [hQ]
    refine ⟨?_, rfl⟩
    cases R
    · rfl
    · exact absurd (hR.1 rfl) h
  refine FSpec.of (fn := Try.f18) Try.func18 rfl rfl (by simp) fun C hC => ?_
  obtain ⟨iadd, isub, imul, iquo, irem, iband, ibor, ibxor, ibandn, ishl, ishr, iconv, ieq, ine, ilt, ile, igt, ige, bbeq, bbne, bnot, bband, sseq, ssne, sscat, sssub, sslen, sssz, ssbyte, toN, ofN, addN, subN, eqN, ltB, leN, imx, imn, inb, leb, sslt, ltN, fit, ne0, ge0, ssfit, minN, inR, bcol, bstr, isBy, hS⟩ := names
  refine V.goF (by first | exact trivial | assumption) Try.func18 tl_ok mixed hS.ops [] 400 ?_
  intro VV VA W hVV hVA hW
  conv => cbv
  cases h1 : igt (ofN n) 60
  case true =>
    conv => cbv
    simp (disch := first | omega | (simp only [hS.glob, wraps, plain, Int.ofNat_eq_natCast]; omega)) only [hS.glob, wraps, plain, Int.ofNat_eq_natCast] at h1
    exact no (fun h => by have := h.1; omega)
  conv => cbv
  simp (disch := first | omega | (simp only [hS.glob, wraps, plain, Int.ofNat_eq_natCast]; omega)) only [hS.glob, wraps, plain, Int.ofNat_eq_natCast] at h1
  cases h2 : ilt z 0
  case true =>
    conv => cbv
    simp (disch := first | omega | (simp only [hS.glob, wraps, plain, Int.ofNat_eq_natCast]; omega)) only [hS.glob, wraps, plain, Int.ofNat_eq_natCast] at h2
    exact no (fun h => by have := h.2.1; omega)
  conv => cbv
  simp (disch := first | omega | (simp only [hS.glob, wraps, plain, Int.ofNat_eq_natCast]; omega)) only [hS.glob, wraps, plain, Int.ofNat_eq_natCast] at h2
  cases h3 : igt z 1048576
  case true =>
    conv => cbv
    simp (disch := first | omega | (simp only [hS.glob, wraps, plain, Int.ofNat_eq_natCast]; omega)) only [hS.glob, wraps, plain, Int.ofNat_eq_natCast] at h3
    exact no (fun h => by have := h.2.2.1; omega)
  conv => cbv
  simp (disch := first | omega | (simp only [hS.glob, wraps, plain, Int.ofNat_eq_natCast]; omega)) only [hS.glob, wraps, plain, Int.ofNat_eq_natCast] at h3
  rw [hVV]
  clear hVV hVA VV VA hW W
  refine V.to (s' := [(5, .int .i64 (ofN 0)), (0, .rows 6 n (spc g)), (1, .int .i64 z)]) (H' := []) ?_ (by (repeat' first | exact trivial | rfl | (refine And.intro ?_ ?_) | (refine sti ?_; (first | rfl | omega | (simp (disch := omega) only [hS.glob, wraps, plain, Int.ofNat_eq_natCast]; first | done | rfl | omega | (simp; done) | (simp; omega)) | (simp (disch := omega) only [hS.glob, wraps, plain, Int.ofNat_eq_natCast, Vx.toN]; omega))) | (refine slq ?_ ?_ ?_ <;> (first | rfl | omega | (simp (disch := omega) only [hS.glob, wraps, plain, Int.ofNat_eq_natCast]; first | done | rfl | omega | (simp; done) | (simp; omega)) | (simp (disch := omega) only [hS.glob, wraps, plain, Int.ofNat_eq_natCast, Vx.toN]; omega))) | (refine ptq ?_ ?_ ?_ <;> (first | rfl | omega | (simp (disch := omega) only [hS.glob, wraps, plain, Int.ofNat_eq_natCast]; first | done | rfl | omega | (simp; done) | (simp; omega)) | (simp (disch := omega) only [hS.glob, wraps, plain, Int.ofNat_eq_natCast, Vx.toN]; omega))) | (refine blq ?_; (first | rfl | omega | (simp (disch := omega) only [hS.glob, wraps, plain, Int.ofNat_eq_natCast]; first | done | rfl | omega | (simp; done) | (simp; omega)) | (simp (disch := omega) only [hS.glob, wraps, plain, Int.ofNat_eq_natCast, Vx.toN]; omega))))) rfl trivial (by rw [hC]; simp)
  refine V.loop (γ := Nat) (fun i => i ≤ n ∧ ∀ j, j < i → (g j).ru.size ≤ 200) (fun i => [(5, .int .i64 (ofN i)), (0, .rows 6 n (spc g)), (1, .int .i64 z)]) (fun _ => []) (fun i => n - i) ?_ 0 ⟨Nat.zero_le _, fun j hj => by omega⟩
  rintro i ⟨hi, hu⟩ hback
  refine V.goF (by first | exact trivial | assumption) Try.func18 tl_ok mixed hS.ops [] 400 ?_
  intro VV VA W hVV hVA hW
  conv => cbv
  cases h4 : ilt (ofN i) (ofN n)
  · conv => cbv
    simp (disch := first | omega | (simp only [hS.glob, wraps, plain, Int.ofNat_eq_natCast]; omega)) only [hS.glob, wraps, plain, Int.ofNat_eq_natCast] at h4
    obtain rfl : i = n := by omega
    rw [hVV]
    clear hVV hVA VV VA hW W
    obtain ⟨R1, hR1⟩ := bool_of (RightL g i z)
    refine V.call rfl rfl rfl rfl rfl Try.func9 rfl (by decide) [] (by simp) (by simp) (by (first | rfl | ((conv => cbv); (repeat' apply And.intro) <;> first | rfl | trivial | (first | rfl | omega | (simp (disch := omega) only [hS.glob, wraps, plain, Int.ofNat_eq_natCast]; first | done | rfl | omega | (simp; done) | (simp; omega)) | (simp (disch := omega) only [hS.glob, wraps, plain, Int.ofNat_eq_natCast, Vx.toN]; omega))))) rfl (f9_ok i (by omega) g (fun j hj => (hs j hj).sz (hu j hj)) z R1 hR1) ?_
    rintro r Hc ⟨rfl, rfl⟩
    refine V.goF (by first | exact trivial | assumption) Try.func18 tl_ok mixed hS.ops [] 400 ?_
    intro VV VA W hVV hVA hW
    conv => cbv
    rw [hQ]
    refine ⟨?_, rfl⟩
    congr 1
    refine Bool.eq_iff_iff.2 ?_
    rw [hR1, hR]
    exact ⟨fun h => ⟨by omega, h2, h3, hu, h⟩, fun h => h.2.2.2.2⟩
  · conv => cbv
    simp (disch := first | omega | (simp only [hS.glob, wraps, plain, Int.ofNat_eq_natCast]; omega)) only [hS.glob, wraps, plain, Int.ofNat_eq_natCast] at h4
    repeat (refine ⟨by first | (rw [hW]; show ordOk _ _ _ = true; kernel_rfl) | (first | trivial | omega | (simp (disch := omega) only [hS.glob, wraps, plain, Int.ofNat_eq_natCast]; first | done | omega | trivial | (simp; done) | (simp; omega) | (constructor <;> omega)) | (simp (disch := omega) only [hS.glob, wraps, plain, Int.ofNat_eq_natCast, Vx.toN]; omega)), ?_⟩)
    simp only [hS.tidy]
    have hx : sslen (g i).ru = ((g i).ru.size : Int) := by simp only [hS.glob, plain]
    cases h5 : igt (sslen (g i).ru) 200
    · conv => cbv
      simp (disch := first | omega | (simp only [hS.glob, wraps, plain, Int.ofNat_eq_natCast]; omega)) only [hS.glob, wraps, plain, Int.ofNat_eq_natCast] at h5
      rw [hVV]
      clear hVV hVA VV VA hW W
      refine V.to (hback (i + 1) ⟨by omega, fun j hj => ?_⟩ (by omega)) (by (repeat' first | exact trivial | rfl | (refine And.intro ?_ ?_) | (refine sti ?_; (first | rfl | omega | (simp (disch := omega) only [hS.glob, wraps, plain, Int.ofNat_eq_natCast]; first | done | rfl | omega | (simp; done) | (simp; omega)) | (simp (disch := omega) only [hS.glob, wraps, plain, Int.ofNat_eq_natCast, Vx.toN]; omega))) | (refine slq ?_ ?_ ?_ <;> (first | rfl | omega | (simp (disch := omega) only [hS.glob, wraps, plain, Int.ofNat_eq_natCast]; first | done | rfl | omega | (simp; done) | (simp; omega)) | (simp (disch := omega) only [hS.glob, wraps, plain, Int.ofNat_eq_natCast, Vx.toN]; omega))) | (refine ptq ?_ ?_ ?_ <;> (first | rfl | omega | (simp (disch := omega) only [hS.glob, wraps, plain, Int.ofNat_eq_natCast]; first | done | rfl | omega | (simp; done) | (simp; omega)) | (simp (disch := omega) only [hS.glob, wraps, plain, Int.ofNat_eq_natCast, Vx.toN]; omega))) | (refine blq ?_; (first | rfl | omega | (simp (disch := omega) only [hS.glob, wraps, plain, Int.ofNat_eq_natCast]; first | done | rfl | omega | (simp; done) | (simp; omega)) | (simp (disch := omega) only [hS.glob, wraps, plain, Int.ofNat_eq_natCast, Vx.toN]; omega))))) rfl trivial (by rw [hC]; simp)
      rcases Nat.lt_or_ge j i with h6 | h6
      · exact hu j h6
      · obtain rfl : j = i := by omega
        omega
    · conv => cbv
      simp (disch := first | omega | (simp only [hS.glob, wraps, plain, Int.ofNat_eq_natCast]; omega)) only [hS.glob, wraps, plain, Int.ofNat_eq_natCast] at h5
      exact no (fun h => by have := h.2.2.2.1 i (by omega); omega)
end Go.Proofs.Ytandgpkibpggnaa

/- The law SpanTells. -/
namespace Go.Proofs.Ytandgpkibpggnaa
open Go Vx
theorem f3_ok (n : Nat) (hn : n ≤ 10000000000000) (g : Nat → Sp) (hs : ∀ j, j < n → inW (g j)) (z q : Int) : FSpec Try.prog 3 [.rows 6 n (spc g), .int .i64 z, .int .i64 q] [] (fun r H' => r = .bool true ∧ H' = []) := by
  refine (show FSpec Try.prog 3 [.rows 6 n (spc g), .int .i64 z, .int .i64 q] [] (fun r H' => r = .bool true) from ?_).weaken ?_
  case refine_2 =>
    rintro r H' rfl
    exact ⟨[], by cases H' <;> simp [heapCov], rfl, Nat.le_refl _, rfl, rfl⟩
  refine FSpec.of (fn := Try.f3) Try.func3 rfl rfl (by simp) fun C hC => ?_
  obtain ⟨iadd, isub, imul, iquo, irem, iband, ibor, ibxor, ibandn, ishl, ishr, iconv, ieq, ine, ilt, ile, igt, ige, bbeq, bbne, bnot, bband, sseq, ssne, sscat, sssub, sslen, sssz, ssbyte, toN, ofN, addN, subN, eqN, ltB, leN, imx, imn, inb, leb, sslt, ltN, fit, ne0, ge0, ssfit, minN, inR, bcol, bstr, isBy, hS⟩ := names
  refine V.goF (by first | exact trivial | assumption) Try.func3 tl_ok mixed hS.ops [] 400 ?_
  intro VV VA W hVV hVA hW
  conv => cbv
  cases h1 : igt (ofN n) 60
  case true =>
    conv => cbv
    rw [hVV]
    clear hVV hVA VV VA hW W
    refine V.call rfl rfl rfl rfl rfl Try.func8 rfl (by decide) [] (by simp) (by simp) (by (first | rfl | ((conv => cbv); (repeat' apply And.intro) <;> first | rfl | trivial | (first | rfl | omega | (simp (disch := omega) only [hS.glob, wraps, plain, Int.ofNat_eq_natCast]; first | done | rfl | omega | (simp; done) | (simp; omega)) | (simp (disch := omega) only [hS.glob, wraps, plain, Int.ofNat_eq_natCast, Vx.toN]; omega))))) rfl f8_ok ?_
    rintro r Hc ⟨rfl, rfl⟩
    refine V.goF (by first | exact trivial | assumption) Try.func3 tl_ok mixed hS.ops [] 400 ?_
    intro VV VA W hVV hVA hW
    conv => cbv
    trivial
  conv => cbv
  simp (disch := first | omega | (simp only [hS.glob, wraps, plain, Int.ofNat_eq_natCast]; omega)) only [hS.glob, wraps, plain, Int.ofNat_eq_natCast] at h1
  rw [hVV]
  clear hVV hVA VV VA hW W
  refine V.to (s' := [(7, .int .i64 (ofN 0)), (0, .rows 6 n (spc g)), (1, .int .i64 z), (2, .int .i64 q)]) (H' := []) ?_ (by (repeat' first | exact trivial | rfl | (refine And.intro ?_ ?_) | (refine sti ?_; (first | rfl | omega | (simp (disch := omega) only [hS.glob, wraps, plain, Int.ofNat_eq_natCast]; first | done | rfl | omega | (simp; done) | (simp; omega)) | (simp (disch := omega) only [hS.glob, wraps, plain, Int.ofNat_eq_natCast, Vx.toN]; omega))) | (refine slq ?_ ?_ ?_ <;> (first | rfl | omega | (simp (disch := omega) only [hS.glob, wraps, plain, Int.ofNat_eq_natCast]; first | done | rfl | omega | (simp; done) | (simp; omega)) | (simp (disch := omega) only [hS.glob, wraps, plain, Int.ofNat_eq_natCast, Vx.toN]; omega))) | (refine ptq ?_ ?_ ?_ <;> (first | rfl | omega | (simp (disch := omega) only [hS.glob, wraps, plain, Int.ofNat_eq_natCast]; first | done | rfl | omega | (simp; done) | (simp; omega)) | (simp (disch := omega) only [hS.glob, wraps, plain, Int.ofNat_eq_natCast, Vx.toN]; omega))) | (refine blq ?_; (first | rfl | omega | (simp (disch := omega) only [hS.glob, wraps, plain, Int.ofNat_eq_natCast]; first | done | rfl | omega | (simp; done) | (simp; omega)) | (simp (disch := omega) only [hS.glob, wraps, plain, Int.ofNat_eq_natCast, Vx.toN]; omega))))) rfl trivial (by rw [hC]; simp)
  refine V.loop (γ := Nat) (fun i => i ≤ n ∧ ∀ j, j < i → (g j).ru.size ≤ 200) (fun i => [(7, .int .i64 (ofN i)), (0, .rows 6 n (spc g)), (1, .int .i64 z), (2, .int .i64 q)]) (fun _ => []) (fun i => n - i) ?_ 0 ⟨Nat.zero_le _, fun j hj => by omega⟩
  rintro i ⟨hi, hu⟩ hback
  refine V.goF (by first | exact trivial | assumption) Try.func3 tl_ok mixed hS.ops [] 400 ?_
  intro VV VA W hVV hVA hW
  conv => cbv
  cases h4 : ilt (ofN i) (ofN n)
  case true =>
    conv => cbv
    simp (disch := first | omega | (simp only [hS.glob, wraps, plain, Int.ofNat_eq_natCast]; omega)) only [hS.glob, wraps, plain, Int.ofNat_eq_natCast] at h4
    repeat (refine ⟨by first | (rw [hW]; show ordOk _ _ _ = true; kernel_rfl) | (first | trivial | omega | (simp (disch := omega) only [hS.glob, wraps, plain, Int.ofNat_eq_natCast]; first | done | omega | trivial | (simp; done) | (simp; omega) | (constructor <;> omega)) | (simp (disch := omega) only [hS.glob, wraps, plain, Int.ofNat_eq_natCast, Vx.toN]; omega)), ?_⟩)
    simp only [hS.tidy]
    have hx : sslen (g i).ru = ((g i).ru.size : Int) := by simp only [hS.glob, plain]
    cases h5 : igt (sslen (g i).ru) 200
    · conv => cbv
      simp (disch := first | omega | (simp only [hS.glob, wraps, plain, Int.ofNat_eq_natCast]; omega)) only [hS.glob, wraps, plain, Int.ofNat_eq_natCast] at h5
      rw [hVV]
      clear hVV hVA VV VA hW W
      refine V.to (hback (i + 1) ⟨by omega, fun j hj => ?_⟩ (by omega)) (by (repeat' first | exact trivial | rfl | (refine And.intro ?_ ?_) | (refine sti ?_; (first | rfl | omega | (simp (disch := omega) only [hS.glob, wraps, plain, Int.ofNat_eq_natCast]; first | done | rfl | omega | (simp; done) | (simp; omega)) | (simp (disch := omega) only [hS.glob, wraps, plain, Int.ofNat_eq_natCast, Vx.toN]; omega))) | (refine slq ?_ ?_ ?_ <;> (first | rfl | omega | (simp (disch := omega) only [hS.glob, wraps, plain, Int.ofNat_eq_natCast]; first | done | rfl | omega | (simp; done) | (simp; omega)) | (simp (disch := omega) only [hS.glob, wraps, plain, Int.ofNat_eq_natCast, Vx.toN]; omega))) | (refine ptq ?_ ?_ ?_ <;> (first | rfl | omega | (simp (disch := omega) only [hS.glob, wraps, plain, Int.ofNat_eq_natCast]; first | done | rfl | omega | (simp; done) | (simp; omega)) | (simp (disch := omega) only [hS.glob, wraps, plain, Int.ofNat_eq_natCast, Vx.toN]; omega))) | (refine blq ?_; (first | rfl | omega | (simp (disch := omega) only [hS.glob, wraps, plain, Int.ofNat_eq_natCast]; first | done | rfl | omega | (simp; done) | (simp; omega)) | (simp (disch := omega) only [hS.glob, wraps, plain, Int.ofNat_eq_natCast, Vx.toN]; omega))))) rfl trivial (by rw [hC]; simp)
      rcases Nat.lt_or_ge j i with h6 | h6
      · exact hu j h6
      · obtain rfl : j = i := by omega
        omega
    · conv => cbv
      rw [hVV]
      clear hVV hVA VV VA hW W
      refine V.call rfl rfl rfl rfl rfl Try.func8 rfl (by decide) [] (by simp) (by simp) (by (first | rfl | ((conv => cbv); (repeat' apply And.intro) <;> first | rfl | trivial | (first | rfl | omega | (simp (disch := omega) only [hS.glob, wraps, plain, Int.ofNat_eq_natCast]; first | done | rfl | omega | (simp; done) | (simp; omega)) | (simp (disch := omega) only [hS.glob, wraps, plain, Int.ofNat_eq_natCast, Vx.toN]; omega))))) rfl f8_ok ?_
      rintro r Hc ⟨rfl, rfl⟩
      refine V.goF (by first | exact trivial | assumption) Try.func3 tl_ok mixed hS.ops [] 400 ?_
      intro VV VA W hVV hVA hW
      conv => cbv
      trivial
  conv => cbv
  simp (disch := first | omega | (simp only [hS.glob, wraps, plain, Int.ofNat_eq_natCast]; omega)) only [hS.glob, wraps, plain, Int.ofNat_eq_natCast] at h4
  obtain rfl : i = n := by omega
  clear hback
  have hz : ∀ j, j < i → inSz (g j) := fun j hj => (hs j hj).sz (hu j hj)
  obtain ⟨R, hR⟩ := bool_of (RightL g i z)
  rw [hVV]
  clear hVV hVA VV VA hW W
  refine V.call rfl rfl rfl rfl rfl Try.func9 rfl (by decide) [] (by simp) (by simp) (by (first | rfl | ((conv => cbv); (repeat' apply And.intro) <;> first | rfl | trivial | (first | rfl | omega | (simp (disch := omega) only [hS.glob, wraps, plain, Int.ofNat_eq_natCast]; first | done | rfl | omega | (simp; done) | (simp; omega)) | (simp (disch := omega) only [hS.glob, wraps, plain, Int.ofNat_eq_natCast, Vx.toN]; omega))))) rfl (f9_ok i (by omega) g hz z R hR) ?_
  rintro r Hc ⟨rfl, rfl⟩
  refine V.goF (by first | exact trivial | assumption) Try.func3 tl_ok mixed hS.ops [] 400 ?_
  intro VV VA W hVV hVA hW
  conv => cbv
  rw [hVV]
  clear hVV hVA VV VA hW W
  refine V.call rfl rfl rfl rfl rfl Try.func10 rfl (by decide) [] (by simp) (by simp) (by (first | rfl | ((conv => cbv); (repeat' apply And.intro) <;> first | rfl | trivial | (first | rfl | omega | (simp (disch := omega) only [hS.glob, wraps, plain, Int.ofNat_eq_natCast]; first | done | rfl | omega | (simp; done) | (simp; omega)) | (simp (disch := omega) only [hS.glob, wraps, plain, Int.ofNat_eq_natCast, Vx.toN]; omega))))) rfl (f10_ok i (by omega) g hz z R hR) ?_
  rintro r Hc ⟨rfl, rfl⟩
  refine V.goF (by first | exact trivial | assumption) Try.func3 tl_ok mixed hS.ops [] 400 ?_
  intro VV VA W hVV hVA hW
  conv => cbv
  have e1 : bbne R R = false := by simp only [hS.glob, Vx.bbne]; simp
  simp only [e1]
  conv => cbv
  cases R
  case false =>
    conv => cbv
    rw [hVV]
    clear hVV hVA VV VA hW W
    refine V.call rfl rfl rfl rfl rfl Try.func8 rfl (by decide) [] (by simp) (by simp) (by (first | rfl | ((conv => cbv); (repeat' apply And.intro) <;> first | rfl | trivial | (first | rfl | omega | (simp (disch := omega) only [hS.glob, wraps, plain, Int.ofNat_eq_natCast]; first | done | rfl | omega | (simp; done) | (simp; omega)) | (simp (disch := omega) only [hS.glob, wraps, plain, Int.ofNat_eq_natCast, Vx.toN]; omega))))) rfl f8_ok ?_
    rintro r Hc ⟨rfl, rfl⟩
    refine V.goF (by first | exact trivial | assumption) Try.func3 tl_ok mixed hS.ops [] 400 ?_
    intro VV VA W hVV hVA hW
    conv => cbv
    trivial
  have hr := hR.1 rfl
  have ho := hr.ord hz
  conv => cbv
  repeat (refine ⟨by first | (rw [hW]; show ordOk _ _ _ = true; kernel_rfl) | (first | trivial | omega | (simp (disch := omega) only [hS.glob, wraps, plain, Int.ofNat_eq_natCast]; first | done | omega | trivial | (simp; done) | (simp; omega) | (constructor <;> omega)) | (simp (disch := omega) only [hS.glob, wraps, plain, Int.ofNat_eq_natCast, Vx.toN]; omega)), ?_⟩)
  simp only [hS.tidy]
  rw [hVV]
  clear hVV hVA VV VA hW W
  refine V.freeze0 9 1 i (by rfl) (by rfl) (by rfl) (by first | decide | omega | exact (Nat.succ_pos _)) (by rfl) (by rfl) (by first | exact Nat.le_refl _ | decide | omega | (simp only [Cont.n]; omega)) ?_
  refine V.sub 9 (y := .rows 6 i (spc g)) (Sub.rows fun j hj => ?_) ?_
  · simp only [spc, Cont.f]
    cases hr : ltB j 0
    · exact Subs.refl _
    · simp (disch := first | omega | (simp only [hS.glob, wraps, plain, Int.ofNat_eq_natCast]; omega)) only [hS.glob, wraps, plain, Int.ofNat_eq_natCast] at hr; omega
  obtain ⟨A, hA⟩ : ∃ A, A = atF g q 0 i := ⟨_, rfl⟩
  obtain ⟨N, hN⟩ : ∃ N, N = normU i g := ⟨_, rfl⟩
  have hl : N.length ≤ i := by rw [hN]; exact normU_len i g
  have h14 := LstR.frozen (f14_ok i (by omega) g N hN)
  have h15 := LstR.frozen (f15_ok i (by omega) g N hN)
  obtain ⟨m, hm⟩ : ∃ m, m = N.length := ⟨_, rfl⟩
  obtain ⟨gn, hgn⟩ : ∃ gn, gn = gL N := ⟨_, rfl⟩
  rw [← hm, ← hgn] at h14 h15
  have s1 := f13_ok m m gn gn true ⟨fun _ => ⟨rfl, fun _ _ => rfl⟩, fun _ => rfl⟩
  have s2 := f13_ok i i g g true ⟨fun _ => ⟨rfl, fun _ _ => rfl⟩, fun _ => rfl⟩
  obtain ⟨s, hs2⟩ : ∃ s, s = styS g i q := ⟨_, rfl⟩
  have h16 := f16_ok i (by omega) g ho q s hs2
  have h17 := f17_ok i (by omega) g q s hs2
  rcases s with ⟨a, b, p, d, u, x⟩
  dsimp only at h16 h17
  refine V.call rfl rfl rfl rfl rfl Try.func11 rfl (by decide) [] (by simp) (by simp) (by (first | rfl | ((conv => cbv); (repeat' apply And.intro) <;> first | rfl | trivial | (first | rfl | omega | (simp (disch := omega) only [hS.glob, wraps, plain, Int.ofNat_eq_natCast]; first | done | rfl | omega | (simp; done) | (simp; omega)) | (simp (disch := omega) only [hS.glob, wraps, plain, Int.ofNat_eq_natCast, Vx.toN]; omega))))) rfl (f11_ok i (by omega) g ho q A hA) ?_
  rintro r Hc ⟨rfl, hr11⟩
  have hr : ∃ (w : Int) (bb : Bool), r = .tup [.int .i64 w, .bool bb] ∧ ∀ r2 : AV, ((A = none ∧ r2 = .tup [.int .i64 0, .bool false]) ∨ ∃ k : Nat, A = some k ∧ ∃ z : Int, z = k ∧ r2 = .tup [.int .i64 z, .bool true]) → r2 = .tup [.int .i64 w, .bool bb] := by
    rcases hr11 with ⟨h1, rfl⟩ | ⟨k, h1, z1, hz1, rfl⟩
    · refine ⟨0, false, rfl, ?_⟩
      rintro r2 (⟨_, rfl⟩ | ⟨k, h2, _⟩)
      · rfl
      · rw [h1] at h2; cases h2
    · refine ⟨z1, true, rfl, ?_⟩
      rintro r2 (⟨h2, _⟩ | ⟨k2, h2, z2, hz2, rfl⟩)
      · rw [h1] at h2; cases h2
      · rw [h1] at h2; injection h2 with h2; rw [hz2, hz1, h2]
  obtain ⟨w, bb, rfl, hsame⟩ := hr
  refine V.goF (by first | exact trivial | assumption) Try.func3 tl_ok mixed hS.ops [] 400 ?_
  intro VV VA W hVV hVA hW
  conv => cbv
  rw [hVV]
  clear hVV hVA VV VA hW W
  refine V.call rfl rfl rfl rfl rfl Try.func12 rfl (by decide) [] (by simp) (by simp) (by (first | rfl | ((conv => cbv); (repeat' apply And.intro) <;> first | rfl | trivial | (first | rfl | omega | (simp (disch := omega) only [hS.glob, wraps, plain, Int.ofNat_eq_natCast]; first | done | rfl | omega | (simp; done) | (simp; omega)) | (simp (disch := omega) only [hS.glob, wraps, plain, Int.ofNat_eq_natCast, Vx.toN]; omega))))) rfl (f12_ok i (by omega) g q A hA) ?_
  rintro r Hc ⟨rfl, hr12⟩
  obtain rfl := hsame r hr12
  refine V.goF (by first | exact trivial | assumption) Try.func3 tl_ok mixed hS.ops [] 400 ?_
  intro VV VA W hVV hVA hW
  conv => cbv
  rw [hVV]
  clear hVV hVA VV VA hW W
  refine V.call rfl rfl rfl rfl rfl Try.func14 rfl (by decide) [] (by simp) (by simp) (by (first | rfl | ((conv => cbv); (repeat' apply And.intro) <;> first | rfl | trivial | (first | rfl | omega | (simp (disch := omega) only [hS.glob, wraps, plain, Int.ofNat_eq_natCast]; first | done | rfl | omega | (simp; done) | (simp; omega)) | (simp (disch := omega) only [hS.glob, wraps, plain, Int.ofNat_eq_natCast, Vx.toN]; omega))))) rfl h14 ?_
  rintro r Hc ⟨rfl, rfl⟩
  refine V.goF (by first | exact trivial | assumption) Try.func3 tl_ok mixed hS.ops [] 400 ?_
  intro VV VA W hVV hVA hW
  conv => cbv
  rw [hVV]
  clear hVV hVA VV VA hW W
  refine V.call rfl rfl rfl rfl rfl Try.func15 rfl (by decide) [] (by simp) (by simp) (by (first | rfl | ((conv => cbv); (repeat' apply And.intro) <;> first | rfl | trivial | (first | rfl | omega | (simp (disch := omega) only [hS.glob, wraps, plain, Int.ofNat_eq_natCast]; first | done | rfl | omega | (simp; done) | (simp; omega)) | (simp (disch := omega) only [hS.glob, wraps, plain, Int.ofNat_eq_natCast, Vx.toN]; omega))))) rfl h15 ?_
  rintro r Hc ⟨rfl, rfl⟩
  refine V.goF (by first | exact trivial | assumption) Try.func3 tl_ok mixed hS.ops [] 400 ?_
  intro VV VA W hVV hVA hW
  conv => cbv
  rw [hVV]
  clear hVV hVA VV VA hW W
  refine V.call rfl rfl rfl rfl rfl Try.func13 rfl (by decide) [] (by simp) (by simp) (by (first | rfl | ((conv => cbv); (repeat' apply And.intro) <;> first | rfl | trivial | (first | rfl | omega | (simp (disch := omega) only [hS.glob, wraps, plain, Int.ofNat_eq_natCast]; first | done | rfl | omega | (simp; done) | (simp; omega)) | (simp (disch := omega) only [hS.glob, wraps, plain, Int.ofNat_eq_natCast, Vx.toN]; omega))))) rfl s1 ?_
  rintro r Hc ⟨rfl, rfl⟩
  refine V.goF (by first | exact trivial | assumption) Try.func3 tl_ok mixed hS.ops [] 400 ?_
  intro VV VA W hVV hVA hW
  conv => cbv
  rw [hVV]
  clear hVV hVA VV VA hW W
  refine V.call rfl rfl rfl rfl rfl Try.func13 rfl (by decide) [] (by simp) (by simp) (by (first | rfl | ((conv => cbv); (repeat' apply And.intro) <;> first | rfl | trivial | (first | rfl | omega | (simp (disch := omega) only [hS.glob, wraps, plain, Int.ofNat_eq_natCast]; first | done | rfl | omega | (simp; done) | (simp; omega)) | (simp (disch := omega) only [hS.glob, wraps, plain, Int.ofNat_eq_natCast, Vx.toN]; omega))))) rfl s2 ?_
  rintro r Hc ⟨rfl, rfl⟩
  refine V.goF (by first | exact trivial | assumption) Try.func3 tl_ok mixed hS.ops [] 400 ?_
  intro VV VA W hVV hVA hW
  conv => cbv
  rw [hVV]
  clear hVV hVA VV VA hW W
  refine V.call rfl rfl rfl rfl rfl Try.func8 rfl (by decide) [] (by simp) (by simp) (by (first | rfl | ((conv => cbv); (repeat' apply And.intro) <;> first | rfl | trivial | (first | rfl | omega | (simp (disch := omega) only [hS.glob, wraps, plain, Int.ofNat_eq_natCast]; first | done | rfl | omega | (simp; done) | (simp; omega)) | (simp (disch := omega) only [hS.glob, wraps, plain, Int.ofNat_eq_natCast, Vx.toN]; omega))))) rfl f8_ok ?_
  rintro r Hc ⟨rfl, rfl⟩
  refine V.goF (by first | exact trivial | assumption) Try.func3 tl_ok mixed hS.ops [] 400 ?_
  intro VV VA W hVV hVA hW
  conv => cbv
  have e4 : ieq w w = true := by (first | rfl | omega | (simp (disch := omega) only [hS.glob, wraps, plain, Int.ofNat_eq_natCast]; first | done | rfl | omega | (simp; done) | (simp; omega)) | (simp (disch := omega) only [hS.glob, wraps, plain, Int.ofNat_eq_natCast, Vx.toN]; omega))
  have e5 : bbeq bb bb = true := by simp only [hS.glob, Vx.bbeq]; simp
  simp only [e4]
  conv => cbv
  simp only [e5]
  conv => cbv
  rw [hVV]
  clear hVV hVA VV VA hW W
  refine V.call rfl rfl rfl rfl rfl Try.func16 rfl (by decide) [] (by simp) (by simp) (by (first | rfl | ((conv => cbv); (repeat' apply And.intro) <;> first | rfl | trivial | (first | rfl | omega | (simp (disch := omega) only [hS.glob, wraps, plain, Int.ofNat_eq_natCast]; first | done | rfl | omega | (simp; done) | (simp; omega)) | (simp (disch := omega) only [hS.glob, wraps, plain, Int.ofNat_eq_natCast, Vx.toN]; omega))))) rfl h16 ?_
  rintro r Hc ⟨rfl, rfl⟩
  refine V.goF (by first | exact trivial | assumption) Try.func3 tl_ok mixed hS.ops [] 400 ?_
  intro VV VA W hVV hVA hW
  conv => cbv
  rw [hVV]
  clear hVV hVA VV VA hW W
  refine V.call rfl rfl rfl rfl rfl Try.func17 rfl (by decide) [] (by simp) (by simp) (by (first | rfl | ((conv => cbv); (repeat' apply And.intro) <;> first | rfl | trivial | (first | rfl | omega | (simp (disch := omega) only [hS.glob, wraps, plain, Int.ofNat_eq_natCast]; first | done | rfl | omega | (simp; done) | (simp; omega)) | (simp (disch := omega) only [hS.glob, wraps, plain, Int.ofNat_eq_natCast, Vx.toN]; omega))))) rfl h17 ?_
  rintro r Hc ⟨rfl, rfl⟩
  refine V.goF (by first | exact trivial | assumption) Try.func3 tl_ok mixed hS.ops [] 400 ?_
  intro VV VA W hVV hVA hW
  conv => cbv
  have e6 : bband (ieq a a) (bband (ieq b b) (bband (ieq p p) (bband (bbeq d d) (bband (sseq u u) (bband (ieq x x) true))))) = true := by
    have key := (sp_all ⟨a, b, p, d, u, x⟩ ⟨a, b, p, d, u, x⟩).2 rfl
    simp only [hS.glob]
    exact key
  simp only [e6]
  trivial
end Go.Proofs.Ytandgpkibpggnaa

/- A law's list of spans. -/
namespace Go.Proofs.Ytandgpkibpggnaa
open Go Vx
theorem span6 {P : Program} {n t : Nat} {f0 f1 f2 f3 f4 f5 : Field} (hu : P.underlying t = some (.struct #[f0, f1, f2, f3, f4, f5])) (hc : P.cellsOf t = 6) (o0 : f0.offset = 0) (o1 : f1.offset = 1) (o2 : f2.offset = 2) (o3 : f3.offset = 3) (o4 : f4.offset = 4) (o5 : f5.offset = 5)
    (c0 : P.cellsOf f0.type = 1) (c1 : P.cellsOf f1.type = 1) (c2 : P.cellsOf f2.type = 1) (c3 : P.cellsOf f3.type = 1) (c4 : P.cellsOf f4.type = 1) (c5 : P.cellsOf f5.type = 1)
    (u0 : P.underlying f0.type = some (.int .i64)) (u1 : P.underlying f1.type = some (.int .i64)) (u2 : P.underlying f2.type = some (.int .i64)) (u3 : P.underlying f3.type = some .bool) (u4 : P.underlying f4.type = some .string) (u5 : P.underlying f5.type = some (.int .u64))
    {cs : List AV} (h : Ty P n t cs) : ∃ s : Sp, cs = spc (fun _ => s) 0 ∧ inW s := by
  obtain ⟨hl, hf⟩ := h.struct_inv hu
  rw [hc] at hl
  match cs, hl with
  | [x0, x1, x2, x3, x4, x5], _ =>
    have h0 := hf f0 (by simp)
    have h1 := hf f1 (by simp)
    have h2 := hf f2 (by simp)
    have h3 := hf f3 (by simp)
    have h4 := hf f4 (by simp)
    have h5 := hf f5 (by simp)
    rw [o0, c0] at h0
    rw [o1, c1] at h1
    rw [o2, c2] at h2
    rw [o3, c3] at h3
    rw [o4, c4] at h4
    rw [o5, c5] at h5
    obtain ⟨a, ha, wa⟩ := Ty.int_inv u0 h0
    obtain ⟨b, hb, wb⟩ := Ty.int_inv u1 h1
    obtain ⟨p, hp, _⟩ := Ty.int_inv u2 h2
    obtain ⟨d, hd⟩ := Ty.bool_inv u3 h3
    obtain ⟨u, hu, wu⟩ := Ty.str_inv u4 h4
    obtain ⟨x, hx, wx⟩ := Ty.int_inv u5 h5
    simp only [List.drop_zero, List.drop_succ_cons, List.take_succ_cons, List.take_zero, List.cons.injEq, and_true] at ha hb hp hd hu hx
    refine ⟨⟨a, b, p, d, u, x⟩, by rw [ha, hb, hp, hd, hu, hx]; rfl, ?_⟩
    simp [Lit.wf, IntKind.min, IntKind.max, IntKind.signed, IntKind.bits] at wa wb wx
    simp only [reachBytes] at wu
    unfold inW
    dsimp only
    omega
theorem spans {n : Nat} {av : AV} (h : TyV Try.prog n 22 av) : ∃ (m : Nat) (g : Nat → Sp), Sub av (.rows 6 m (spc g)) ∧ m ≤ 1000000000000 * 10 ∧ ∀ i, i < m → inW (g i) := by
  have c27 : Try.prog.cellsOf 27 = 6 := by kernel_rfl
  have b27 : Try.prog.bytesOf 27 = 56 := by kernel_rfl
  unfold TyV at h
  rw [Try.underlying22] at h
  obtain ⟨m, f, hav, hm, hf⟩ := Ty.slice_inv Try.underlying22 h
  injection hav with hav
  subst hav
  rw [c27]
  rw [b27] at hm
  simp only [reachBytes] at hm
  have each : ∀ i, ∃ s : Sp, i < m → f i = spc (fun _ => s) 0 ∧ inW s := fun i => by
    by_cases hi : i < m
    · obtain ⟨s, h1, h2⟩ := span6 Try.underlying27 c27 rfl rfl rfl rfl rfl rfl (by kernel_rfl) (by kernel_rfl) (by kernel_rfl) (by kernel_rfl) (by kernel_rfl) (by kernel_rfl) Try.underlying3 Try.underlying3 Try.underlying24 Try.underlying4 Try.underlying9 Try.underlying25 (hf i hi)
      exact ⟨s, fun _ => ⟨h1, h2⟩⟩
    · exact ⟨noSp, fun h => absurd h hi⟩
  obtain ⟨g, hg⟩ := Classical.axiomOfChoice each
  refine ⟨m, g, Sub.rows fun i hi => ?_, by omega, fun i hi => (hg i hi).2⟩
  rw [(hg i hi).1]
  exact Subs.refl _
end Go.Proofs.Ytandgpkibpggnaa
