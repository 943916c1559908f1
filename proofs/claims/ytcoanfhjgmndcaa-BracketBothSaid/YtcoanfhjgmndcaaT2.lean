/- Contracts of functions by an evaluator of the model: its part T2. -/
import Derived.Test.YtcoanfhjgmndcaaT1
import Derived.Test.YtcoanfhjgmndcaaV4
import Derived.Shelf.SlicesG.Cmp
import Derived.Ground.SlsfProg
import Derived.Ground.SlgcProg
import Derived.Shelf.SlSortCmp.NoneTotal
set_option linter.all false
/- One pair is resolved. -/
namespace Go.Proofs.Ytcoanfhjgmndcaa
open Go Vx

/-- What both places become, if anything. -/
def pairSd (own other : Bool) (side a : Int) : Option Int := if own then some side else if other then some (if a = side then side else turnC side) else none
noncomputable def pairL (came l : Nat → Int) (o e : Nat) : Option Int → Nat → Int
  | none => l
  | some v => setF came (setF came l o v) e v
theorem f22_ok1 (ln o e : Nat) (ho : o < e) (he : e < ln) (hl : ln ≤ 17592186044416) (l came : Nat → Int) (side first : Int) (own other : Bool) (h1 : own = true ↔ hasL l (o + 1) (e - (o + 1)) side) (h2 : other = true ↔ hasL l (o + 1) (e - (o + 1)) (turnC side))
    (P : Option Int) (hP : P = pairSd own other side (aheadL l first o)) (l1 : Nat → Int) (hl1 : ∀ v, P = some v → ∀ j, j < ln → l1 j = setF came l o v j) (l2 : Nat → Int) (hl2 : ∀ v, P = some v → ∀ j, j < ln → l2 j = setF came l1 e v j) : FSpec Try.prog 22 [.agg [.rows 1 ln (icol .i64 came), .sl 0 0 ln, .int .i64 side, .int .i64 first], .int .i64 o, .int .i64 e] [some ⟨32, 1, .arr ln (icol .i64 l)⟩]
      (fun r H' => r = .tup [] ∧ ((P = none ∧ ∃ x, H' = [some ⟨32, 1, .arr ln (icol .i64 l)⟩, x]) ∨ ((∃ v, P = some v) ∧ ∃ x, H' = [some ⟨32, 1, .arr ln (icol .i64 l2)⟩, x]))) := by
  obtain ⟨z, hz⟩ : ∃ z : Int, z = o := ⟨_, rfl⟩
  obtain ⟨y, hy⟩ : ∃ y : Int, y = e := ⟨_, rfl⟩
  rw [← hz, ← hy]
  obtain ⟨A, hA⟩ : ∃ A, A = aheadL l first o := ⟨_, rfl⟩
  obtain ⟨sd, hsd⟩ : ∃ sd, sd = turnC side := ⟨_, rfl⟩
  rw [← hA] at hP
  rw [← hsd] at h2
  unfold pairSd at hP
  rw [← hsd] at hP
  have s1 := fun v hv => f33_ok ln o (by omega) hl l came side first v l1 (hl1 v hv)
  have s2 := fun v hv => f33_ok ln e (by omega) hl l1 came side first v l2 (hl2 v hv)
  obtain ⟨o1, ho1⟩ : ∃ o1, o1 = o + 1 := ⟨_, rfl⟩
  rw [← ho1] at h1 h2
  have c1 := f30_ok ln o1 e l came side first side hl (by omega) (by omega) own h1
  have c2 := f30_ok ln o1 e l came side first sd hl (by omega) (by omega) other h2
  clear h1 h2 hl1 hl2
  obtain ⟨Q, hQ⟩ : ∃ Q : AV → Hp → Prop, Q = (fun r H' => r = .tup [] ∧ ((P = none ∧ ∃ x, H' = [some ⟨32, 1, .arr ln (icol .i64 l)⟩, x]) ∨ ((∃ v, P = some v) ∧ ∃ x, H' = [some ⟨32, 1, .arr ln (icol .i64 l2)⟩, x]))) := ⟨_, rfl⟩
  rw [← hQ]
  refine FSpec.of (fn := Try.f22) Try.func22 rfl rfl (by simp) fun C hC => ?_
  obtain ⟨iadd, isub, imul, iquo, irem, iband, ibor, ibxor, ibandn, ishl, ishr, iconv, ieq, ine, ilt, ile, igt, ige, bbeq, bbne, bnot, bband, sseq, ssne, sscat, sssub, sslen, sssz, ssbyte, toN, ofN, addN, subN, eqN, ltB, leN, imx, imn, inb, leb, sslt, ltN, fit, ne0, ge0, ssfit, minN, inR, hS⟩ := names
  obtain rfl : z = ofN o := by simp (disch := first | omega | (simp only [hS.glob, wraps, plain, Int.ofNat_eq_natCast]; omega)) only [hS.glob, wraps, plain, Int.ofNat_eq_natCast]; exact hz
  obtain rfl : y = ofN e := by simp (disch := first | omega | (simp only [hS.glob, wraps, plain, Int.ofNat_eq_natCast]; omega)) only [hS.glob, wraps, plain, Int.ofNat_eq_natCast]; exact hy
  have e1 : iadd .i64 (ofN o) 1 = ofN o1 := by rw [ho1]; (first | rfl | omega | (simp (disch := omega) only [hS.glob, wraps, plain, Int.ofNat_eq_natCast]; first | done | rfl | omega | (simp; done) | (simp; omega)) | (simp (disch := omega) only [hS.glob, wraps, plain, Int.ofNat_eq_natCast, Vx.toN]; omega))
  have eo : (o1 : Int) = ofN o1 := by simp (disch := first | omega | (simp only [hS.glob, wraps, plain, Int.ofNat_eq_natCast]; omega)) only [hS.glob, wraps, plain, Int.ofNat_eq_natCast]
  have ee : (e : Int) = ofN e := by simp (disch := first | omega | (simp only [hS.glob, wraps, plain, Int.ofNat_eq_natCast]; omega)) only [hS.glob, wraps, plain, Int.ofNat_eq_natCast]
  have eoo : (o : Int) = ofN o := by simp (disch := first | omega | (simp only [hS.glob, wraps, plain, Int.ofNat_eq_natCast]; omega)) only [hS.glob, wraps, plain, Int.ofNat_eq_natCast]
  rw [eo, ee] at c1 c2
  rw [eoo] at s1
  rw [ee] at s2
  refine V.goF (by first | exact trivial | assumption) Try.func22 tl_ok mixed hS.ops [(3, .one 1 .none (.one 2 .none (.one 3 .none (.one 4 .none (.one 5 .none (.alt 0 (.one 6 .none (.one 7 .none (.one 8 .none (.one 9 .none .done)))) (.alt 6 (.one 0 .none (.one 7 .none (.one 8 .none (.one 9 .none .done)))) .none))))))), (4, .one 0 .none (.one 1 .none (.one 3 .none (.alt 2 (.one 4 .none (.one 5 .none (.one 6 .none .done))) (.alt 4 (.one 2 .none (.one 5 .none (.one 6 .none .done))) .none)))))] 400 ?_
  intro VV VA W hVV hVA hW
  conv => cbv
  simp only [e1]
  rw [hVV]
  clear hVV hVA VV VA hW W
  refine V.call rfl rfl rfl rfl rfl Try.func30 rfl (by decide) [0] (by decide) (all_lt (by rfl)) (by (first | rfl | ((conv => cbv); (repeat' apply And.intro) <;> first | rfl | trivial | (first | rfl | omega | (simp (disch := omega) only [hS.glob, wraps, plain, Int.ofNat_eq_natCast]; first | done | rfl | omega | (simp; done) | (simp; omega)) | (simp (disch := omega) only [hS.glob, wraps, plain, Int.ofNat_eq_natCast, Vx.toN]; omega))))) (by rfl) c1 ?_
  rintro r Hc ⟨rfl, rfl⟩
  clear c1
  cases own
  rotate_left
  · obtain ⟨v, hPv, hv⟩ : ∃ v, P = some v ∧ v = side := ⟨side, by rw [hP]; rfl, rfl⟩
    refine V.goF (by first | exact trivial | assumption) Try.func22 tl_ok mixed hS.ops [(3, .one 1 .none (.one 2 .none (.one 3 .none (.one 4 .none (.one 5 .none (.alt 0 (.one 6 .none (.one 7 .none (.one 8 .none (.one 9 .none .done)))) (.alt 6 (.one 0 .none (.one 7 .none (.one 8 .none (.one 9 .none .done)))) .none))))))), (4, .one 0 .none (.one 1 .none (.one 3 .none (.alt 2 (.one 4 .none (.one 5 .none (.one 6 .none .done))) (.alt 4 (.one 2 .none (.one 5 .none (.one 6 .none .done))) .none)))))] 400 ?_
    intro VV VA W hVV hVA hW
    conv => cbv
    rw [← hv]
    rw [hVV]
    clear hVV hVA VV VA hW W
    refine V.call rfl rfl rfl rfl rfl Try.func33 rfl (by decide) [0] (by decide) (all_lt (by rfl)) (by (first | rfl | ((conv => cbv); (repeat' apply And.intro) <;> first | rfl | trivial | (first | rfl | omega | (simp (disch := omega) only [hS.glob, wraps, plain, Int.ofNat_eq_natCast]; first | done | rfl | omega | (simp; done) | (simp; omega)) | (simp (disch := omega) only [hS.glob, wraps, plain, Int.ofNat_eq_natCast, Vx.toN]; omega))))) (by rfl) (s1 v hPv) ?_
    rintro r Hc ⟨rfl, rfl⟩
    refine V.goF (by first | exact trivial | assumption) Try.func22 tl_ok mixed hS.ops [] 400 ?_
    intro VV VA W hVV hVA hW
    conv => cbv
    rw [hVV]
    clear hVV hVA VV VA hW W
    refine V.call rfl rfl rfl rfl rfl Try.func33 rfl (by decide) [0] (by decide) (all_lt (by rfl)) (by (first | rfl | ((conv => cbv); (repeat' apply And.intro) <;> first | rfl | trivial | (first | rfl | omega | (simp (disch := omega) only [hS.glob, wraps, plain, Int.ofNat_eq_natCast]; first | done | rfl | omega | (simp; done) | (simp; omega)) | (simp (disch := omega) only [hS.glob, wraps, plain, Int.ofNat_eq_natCast, Vx.toN]; omega))))) (by rfl) (s2 v hPv) ?_
    rintro r Hc ⟨rfl, rfl⟩
    refine V.goF (by first | exact trivial | assumption) Try.func22 tl_ok mixed hS.ops [] 400 ?_
    intro VV VA W hVV hVA hW
    conv => cbv
    rw [hQ]
    exact ⟨rfl, .inr ⟨⟨v, hPv⟩, _, rfl⟩⟩
  · refine V.goF (by first | exact trivial | assumption) Try.func22 tl_ok mixed hS.ops [(3, .one 1 .none (.one 2 .none (.one 3 .none (.one 4 .none (.one 5 .none (.alt 0 (.one 6 .none (.one 7 .none (.one 8 .none (.one 9 .none .done)))) (.alt 6 (.one 0 .none (.one 7 .none (.one 8 .none (.one 9 .none .done)))) .none))))))), (4, .one 0 .none (.one 1 .none (.one 3 .none (.alt 2 (.one 4 .none (.one 5 .none (.one 6 .none .done))) (.alt 4 (.one 2 .none (.one 5 .none (.one 6 .none .done))) .none)))))] 400 ?_
    intro VV VA W hVV hVA hW
    conv => cbv
    refine ⟨by rw [hW]; show ordOk _ _ _ = true; kernel_rfl, ?_⟩
    refine ⟨?_, ?_, trivial⟩
    · rw [hVA]
      clear hVV hVA VV VA hW W
      refine AnyT.call rfl rfl rfl rfl rfl Try.func31 rfl (by decide) [] (by simp) (by simp) (by (first | rfl | ((conv => cbv); (repeat' apply And.intro) <;> first | rfl | trivial | (first | rfl | omega | (simp (disch := omega) only [hS.glob, wraps, plain, Int.ofNat_eq_natCast]; first | done | rfl | omega | (simp; done) | (simp; omega)) | (simp (disch := omega) only [hS.glob, wraps, plain, Int.ofNat_eq_natCast, Vx.toN]; omega))))) rfl (f31_ok side sd hsd) ?_
      rintro r Hc ⟨rfl, rfl⟩
      refine AnyT.goF (by first | exact trivial | assumption) Try.func22 tl_ok mixed hS.ops [(3, .one 1 .none (.one 2 .none (.one 3 .none (.one 4 .none (.one 5 .none (.alt 0 (.one 6 .none (.one 7 .none (.one 8 .none (.one 9 .none .done)))) (.alt 6 (.one 0 .none (.one 7 .none (.one 8 .none (.one 9 .none .done)))) .none))))))), (4, .one 0 .none (.one 1 .none (.one 3 .none (.alt 2 (.one 4 .none (.one 5 .none (.one 6 .none .done))) (.alt 4 (.one 2 .none (.one 5 .none (.one 6 .none .done))) .none)))))] 400 ?_
      intro VV VA W hVV hVA hW
      conv => cbv
      rw [hVA]
      clear hVV hVA VV VA hW W
      refine AnyT.call rfl rfl rfl rfl rfl Try.func30 rfl (by decide) [0] (by decide) (all_lt (by rfl)) (by (first | rfl | ((conv => cbv); (repeat' apply And.intro) <;> first | rfl | trivial | (first | rfl | omega | (simp (disch := omega) only [hS.glob, wraps, plain, Int.ofNat_eq_natCast]; first | done | rfl | omega | (simp; done) | (simp; omega)) | (simp (disch := omega) only [hS.glob, wraps, plain, Int.ofNat_eq_natCast, Vx.toN]; omega))))) (by rfl) c2 ?_
      rintro r Hc ⟨rfl, rfl⟩
      cases other
      · refine AnyT.goF (by first | exact trivial | assumption) Try.func22 tl_ok mixed hS.ops [(3, .one 1 .none (.one 2 .none (.one 3 .none (.one 4 .none (.one 5 .none (.alt 0 (.one 6 .none (.one 7 .none (.one 8 .none (.one 9 .none .done)))) (.alt 6 (.one 0 .none (.one 7 .none (.one 8 .none (.one 9 .none .done)))) .none))))))), (4, .one 0 .none (.one 1 .none (.one 3 .none (.alt 2 (.one 4 .none (.one 5 .none (.one 6 .none .done))) (.alt 4 (.one 2 .none (.one 5 .none (.one 6 .none .done))) .none)))))] 400 ?_
        intro VV VA W hVV hVA hW
        conv => cbv
        rw [hQ]
        exact ⟨rfl, .inl ⟨by rw [hP]; rfl, _, rfl⟩⟩
      · refine AnyT.goF (by first | exact trivial | assumption) Try.func22 tl_ok mixed hS.ops [(3, .one 1 .none (.one 2 .none (.one 3 .none (.one 4 .none (.one 5 .none (.alt 0 (.one 6 .none (.one 7 .none (.one 8 .none (.one 9 .none .done)))) (.alt 6 (.one 0 .none (.one 7 .none (.one 8 .none (.one 9 .none .done)))) .none))))))), (4, .one 0 .none (.one 1 .none (.one 3 .none (.alt 2 (.one 4 .none (.one 5 .none (.one 6 .none .done))) (.alt 4 (.one 2 .none (.one 5 .none (.one 6 .none .done))) .none)))))] 400 ?_
        intro VV VA W hVV hVA hW
        conv => cbv
        refine ⟨by rw [hW]; show ordOk _ _ _ = true; kernel_rfl, ?_⟩
        refine ⟨?_, ?_, trivial⟩
        · rw [hVA]
          clear hVV hVA VV VA hW W
          refine AnyT.call rfl rfl rfl rfl rfl Try.func32 rfl (by decide) [0] (by decide) (all_lt (by rfl)) (by (first | rfl | ((conv => cbv); (repeat' apply And.intro) <;> first | rfl | trivial | (first | rfl | omega | (simp (disch := omega) only [hS.glob, wraps, plain, Int.ofNat_eq_natCast]; first | done | rfl | omega | (simp; done) | (simp; omega)) | (simp (disch := omega) only [hS.glob, wraps, plain, Int.ofNat_eq_natCast, Vx.toN]; omega))))) (by rfl) (f32_ok ln o (by omega) hl l came side first A hA) ?_
          rintro r Hc ⟨rfl, rfl⟩
          refine AnyT.goF (by first | exact trivial | assumption) Try.func22 tl_ok mixed hS.ops [(3, .one 1 .none (.one 2 .none (.one 3 .none (.one 4 .none (.one 5 .none (.alt 0 (.one 6 .none (.one 7 .none (.one 8 .none (.one 9 .none .done)))) (.alt 6 (.one 0 .none (.one 7 .none (.one 8 .none (.one 9 .none .done)))) .none))))))), (4, .one 0 .none (.one 1 .none (.one 3 .none (.alt 2 (.one 4 .none (.one 5 .none (.one 6 .none .done))) (.alt 4 (.one 2 .none (.one 5 .none (.one 6 .none .done))) .none)))))] 400 ?_
          intro VV VA W hVV hVA hW
          conv => cbv
          cases g : ine A side
          · conv => cbv
            simp (disch := first | omega | (simp only [hS.glob, wraps, plain, Int.ofNat_eq_natCast]; omega)) only [hS.glob, wraps, plain, Int.ofNat_eq_natCast] at g
            obtain ⟨v, hPv, hv⟩ : ∃ v, P = some v ∧ v = side := ⟨side, by rw [hP]; simp [g], rfl⟩
            rw [← hv]
            rw [hVV]
            clear hVV hVA VV VA hW W
            refine V.call rfl rfl rfl rfl rfl Try.func33 rfl (by decide) [0] (by decide) (all_lt (by rfl)) (by (first | rfl | ((conv => cbv); (repeat' apply And.intro) <;> first | rfl | trivial | (first | rfl | omega | (simp (disch := omega) only [hS.glob, wraps, plain, Int.ofNat_eq_natCast]; first | done | rfl | omega | (simp; done) | (simp; omega)) | (simp (disch := omega) only [hS.glob, wraps, plain, Int.ofNat_eq_natCast, Vx.toN]; omega))))) (by rfl) (s1 v hPv) ?_
            rintro r Hc ⟨rfl, rfl⟩
            refine V.goF (by first | exact trivial | assumption) Try.func22 tl_ok mixed hS.ops [] 400 ?_
            intro VV VA W hVV hVA hW
            conv => cbv
            rw [hVV]
            clear hVV hVA VV VA hW W
            refine V.call rfl rfl rfl rfl rfl Try.func33 rfl (by decide) [0] (by decide) (all_lt (by rfl)) (by (first | rfl | ((conv => cbv); (repeat' apply And.intro) <;> first | rfl | trivial | (first | rfl | omega | (simp (disch := omega) only [hS.glob, wraps, plain, Int.ofNat_eq_natCast]; first | done | rfl | omega | (simp; done) | (simp; omega)) | (simp (disch := omega) only [hS.glob, wraps, plain, Int.ofNat_eq_natCast, Vx.toN]; omega))))) (by rfl) (s2 v hPv) ?_
            rintro r Hc ⟨rfl, rfl⟩
            refine V.goF (by first | exact trivial | assumption) Try.func22 tl_ok mixed hS.ops [] 400 ?_
            intro VV VA W hVV hVA hW
            conv => cbv
            rw [hQ]
            exact ⟨rfl, .inr ⟨⟨v, hPv⟩, _, rfl⟩⟩
          · conv => cbv
            simp (disch := first | omega | (simp only [hS.glob, wraps, plain, Int.ofNat_eq_natCast]; omega)) only [hS.glob, wraps, plain, Int.ofNat_eq_natCast] at g
            rw [hVV]
            clear hVV hVA VV VA hW W
            refine V.call rfl rfl rfl rfl rfl Try.func31 rfl (by decide) [] (by decide) (all_lt (by rfl)) (by (first | rfl | ((conv => cbv); (repeat' apply And.intro) <;> first | rfl | trivial | (first | rfl | omega | (simp (disch := omega) only [hS.glob, wraps, plain, Int.ofNat_eq_natCast]; first | done | rfl | omega | (simp; done) | (simp; omega)) | (simp (disch := omega) only [hS.glob, wraps, plain, Int.ofNat_eq_natCast, Vx.toN]; omega))))) (by rfl) (f31_ok side sd hsd) ?_
            rintro r Hc ⟨rfl, rfl⟩
            obtain ⟨v, hPv, hv⟩ : ∃ v, P = some v ∧ v = sd := ⟨sd, by rw [hP]; simp [g], rfl⟩
            rw [← hv]
            refine V.goF (by first | exact trivial | assumption) Try.func22 tl_ok mixed hS.ops [] 400 ?_
            intro VV VA W hVV hVA hW
            conv => cbv
            rw [hVV]
            clear hVV hVA VV VA hW W
            refine V.call rfl rfl rfl rfl rfl Try.func33 rfl (by decide) [0] (by decide) (all_lt (by rfl)) (by (first | rfl | ((conv => cbv); (repeat' apply And.intro) <;> first | rfl | trivial | (first | rfl | omega | (simp (disch := omega) only [hS.glob, wraps, plain, Int.ofNat_eq_natCast]; first | done | rfl | omega | (simp; done) | (simp; omega)) | (simp (disch := omega) only [hS.glob, wraps, plain, Int.ofNat_eq_natCast, Vx.toN]; omega))))) (by rfl) (s1 v hPv) ?_
            rintro r Hc ⟨rfl, rfl⟩
            refine V.goF (by first | exact trivial | assumption) Try.func22 tl_ok mixed hS.ops [] 400 ?_
            intro VV VA W hVV hVA hW
            conv => cbv
            rw [hVV]
            clear hVV hVA VV VA hW W
            refine V.call rfl rfl rfl rfl rfl Try.func33 rfl (by decide) [0] (by decide) (all_lt (by rfl)) (by (first | rfl | ((conv => cbv); (repeat' apply And.intro) <;> first | rfl | trivial | (first | rfl | omega | (simp (disch := omega) only [hS.glob, wraps, plain, Int.ofNat_eq_natCast]; first | done | rfl | omega | (simp; done) | (simp; omega)) | (simp (disch := omega) only [hS.glob, wraps, plain, Int.ofNat_eq_natCast, Vx.toN]; omega))))) (by rfl) (s2 v hPv) ?_
            rintro r Hc ⟨rfl, rfl⟩
            refine V.goF (by first | exact trivial | assumption) Try.func22 tl_ok mixed hS.ops [] 400 ?_
            intro VV VA W hVV hVA hW
            conv => cbv
            rw [hQ]
            exact ⟨rfl, .inr ⟨⟨v, hPv⟩, _, rfl⟩⟩
        · rw [hVA]
          clear hVV hVA VV VA hW W
          refine AnyT.call rfl rfl rfl rfl rfl Try.func32 rfl (by decide) [0] (by decide) (all_lt (by rfl)) (by (first | rfl | ((conv => cbv); (repeat' apply And.intro) <;> first | rfl | trivial | (first | rfl | omega | (simp (disch := omega) only [hS.glob, wraps, plain, Int.ofNat_eq_natCast]; first | done | rfl | omega | (simp; done) | (simp; omega)) | (simp (disch := omega) only [hS.glob, wraps, plain, Int.ofNat_eq_natCast, Vx.toN]; omega))))) (by rfl) (f32_ok ln o (by omega) hl l came side first A hA) ?_
          rintro r Hc ⟨rfl, rfl⟩
          refine AnyT.goF (by first | exact trivial | assumption) Try.func22 tl_ok mixed hS.ops [(3, .one 1 .none (.one 2 .none (.one 3 .none (.one 4 .none (.one 5 .none (.alt 0 (.one 6 .none (.one 7 .none (.one 8 .none (.one 9 .none .done)))) (.alt 6 (.one 0 .none (.one 7 .none (.one 8 .none (.one 9 .none .done)))) .none))))))), (4, .one 0 .none (.one 1 .none (.one 3 .none (.alt 2 (.one 4 .none (.one 5 .none (.one 6 .none .done))) (.alt 4 (.one 2 .none (.one 5 .none (.one 6 .none .done))) .none)))))] 400 ?_
          intro VV VA W hVV hVA hW
          conv => cbv
          cases g : ine A side
          · conv => cbv
            simp (disch := first | omega | (simp only [hS.glob, wraps, plain, Int.ofNat_eq_natCast]; omega)) only [hS.glob, wraps, plain, Int.ofNat_eq_natCast] at g
            obtain ⟨v, hPv, hv⟩ : ∃ v, P = some v ∧ v = side := ⟨side, by rw [hP]; simp [g], rfl⟩
            rw [← hv]
            rw [hVV]
            clear hVV hVA VV VA hW W
            refine V.call rfl rfl rfl rfl rfl Try.func33 rfl (by decide) [0] (by decide) (all_lt (by rfl)) (by (first | rfl | ((conv => cbv); (repeat' apply And.intro) <;> first | rfl | trivial | (first | rfl | omega | (simp (disch := omega) only [hS.glob, wraps, plain, Int.ofNat_eq_natCast]; first | done | rfl | omega | (simp; done) | (simp; omega)) | (simp (disch := omega) only [hS.glob, wraps, plain, Int.ofNat_eq_natCast, Vx.toN]; omega))))) (by rfl) (s1 v hPv) ?_
            rintro r Hc ⟨rfl, rfl⟩
            refine V.goF (by first | exact trivial | assumption) Try.func22 tl_ok mixed hS.ops [] 400 ?_
            intro VV VA W hVV hVA hW
            conv => cbv
            rw [hVV]
            clear hVV hVA VV VA hW W
            refine V.call rfl rfl rfl rfl rfl Try.func33 rfl (by decide) [0] (by decide) (all_lt (by rfl)) (by (first | rfl | ((conv => cbv); (repeat' apply And.intro) <;> first | rfl | trivial | (first | rfl | omega | (simp (disch := omega) only [hS.glob, wraps, plain, Int.ofNat_eq_natCast]; first | done | rfl | omega | (simp; done) | (simp; omega)) | (simp (disch := omega) only [hS.glob, wraps, plain, Int.ofNat_eq_natCast, Vx.toN]; omega))))) (by rfl) (s2 v hPv) ?_
            rintro r Hc ⟨rfl, rfl⟩
            refine V.goF (by first | exact trivial | assumption) Try.func22 tl_ok mixed hS.ops [] 400 ?_
            intro VV VA W hVV hVA hW
            conv => cbv
            rw [hQ]
            exact ⟨rfl, .inr ⟨⟨v, hPv⟩, _, rfl⟩⟩
          · conv => cbv
            simp (disch := first | omega | (simp only [hS.glob, wraps, plain, Int.ofNat_eq_natCast]; omega)) only [hS.glob, wraps, plain, Int.ofNat_eq_natCast] at g
            rw [hVV]
            clear hVV hVA VV VA hW W
            refine V.call rfl rfl rfl rfl rfl Try.func31 rfl (by decide) [] (by decide) (all_lt (by rfl)) (by (first | rfl | ((conv => cbv); (repeat' apply And.intro) <;> first | rfl | trivial | (first | rfl | omega | (simp (disch := omega) only [hS.glob, wraps, plain, Int.ofNat_eq_natCast]; first | done | rfl | omega | (simp; done) | (simp; omega)) | (simp (disch := omega) only [hS.glob, wraps, plain, Int.ofNat_eq_natCast, Vx.toN]; omega))))) (by rfl) (f31_ok side sd hsd) ?_
            rintro r Hc ⟨rfl, rfl⟩
            obtain ⟨v, hPv, hv⟩ : ∃ v, P = some v ∧ v = sd := ⟨sd, by rw [hP]; simp [g], rfl⟩
            rw [← hv]
            refine V.goF (by first | exact trivial | assumption) Try.func22 tl_ok mixed hS.ops [] 400 ?_
            intro VV VA W hVV hVA hW
            conv => cbv
            rw [hVV]
            clear hVV hVA VV VA hW W
            refine V.call rfl rfl rfl rfl rfl Try.func33 rfl (by decide) [0] (by decide) (all_lt (by rfl)) (by (first | rfl | ((conv => cbv); (repeat' apply And.intro) <;> first | rfl | trivial | (first | rfl | omega | (simp (disch := omega) only [hS.glob, wraps, plain, Int.ofNat_eq_natCast]; first | done | rfl | omega | (simp; done) | (simp; omega)) | (simp (disch := omega) only [hS.glob, wraps, plain, Int.ofNat_eq_natCast, Vx.toN]; omega))))) (by rfl) (s1 v hPv) ?_
            rintro r Hc ⟨rfl, rfl⟩
            refine V.goF (by first | exact trivial | assumption) Try.func22 tl_ok mixed hS.ops [] 400 ?_
            intro VV VA W hVV hVA hW
            conv => cbv
            rw [hVV]
            clear hVV hVA VV VA hW W
            refine V.call rfl rfl rfl rfl rfl Try.func33 rfl (by decide) [0] (by decide) (all_lt (by rfl)) (by (first | rfl | ((conv => cbv); (repeat' apply And.intro) <;> first | rfl | trivial | (first | rfl | omega | (simp (disch := omega) only [hS.glob, wraps, plain, Int.ofNat_eq_natCast]; first | done | rfl | omega | (simp; done) | (simp; omega)) | (simp (disch := omega) only [hS.glob, wraps, plain, Int.ofNat_eq_natCast, Vx.toN]; omega))))) (by rfl) (s2 v hPv) ?_
            rintro r Hc ⟨rfl, rfl⟩
            refine V.goF (by first | exact trivial | assumption) Try.func22 tl_ok mixed hS.ops [] 400 ?_
            intro VV VA W hVV hVA hW
            conv => cbv
            rw [hQ]
            exact ⟨rfl, .inr ⟨⟨v, hPv⟩, _, rfl⟩⟩
    · rw [hVA]
      clear hVV hVA VV VA hW W
      refine AnyT.call rfl rfl rfl rfl rfl Try.func31 rfl (by decide) [] (by simp) (by simp) (by (first | rfl | ((conv => cbv); (repeat' apply And.intro) <;> first | rfl | trivial | (first | rfl | omega | (simp (disch := omega) only [hS.glob, wraps, plain, Int.ofNat_eq_natCast]; first | done | rfl | omega | (simp; done) | (simp; omega)) | (simp (disch := omega) only [hS.glob, wraps, plain, Int.ofNat_eq_natCast, Vx.toN]; omega))))) rfl (f31_ok side sd hsd) ?_
      rintro r Hc ⟨rfl, rfl⟩
      refine AnyT.goF (by first | exact trivial | assumption) Try.func22 tl_ok mixed hS.ops [(3, .one 1 .none (.one 2 .none (.one 3 .none (.one 4 .none (.one 5 .none (.alt 0 (.one 6 .none (.one 7 .none (.one 8 .none (.one 9 .none .done)))) (.alt 6 (.one 0 .none (.one 7 .none (.one 8 .none (.one 9 .none .done)))) .none))))))), (4, .one 0 .none (.one 1 .none (.one 3 .none (.alt 2 (.one 4 .none (.one 5 .none (.one 6 .none .done))) (.alt 4 (.one 2 .none (.one 5 .none (.one 6 .none .done))) .none)))))] 400 ?_
      intro VV VA W hVV hVA hW
      conv => cbv
      rw [hVA]
      clear hVV hVA VV VA hW W
      refine AnyT.call rfl rfl rfl rfl rfl Try.func30 rfl (by decide) [0] (by decide) (all_lt (by rfl)) (by (first | rfl | ((conv => cbv); (repeat' apply And.intro) <;> first | rfl | trivial | (first | rfl | omega | (simp (disch := omega) only [hS.glob, wraps, plain, Int.ofNat_eq_natCast]; first | done | rfl | omega | (simp; done) | (simp; omega)) | (simp (disch := omega) only [hS.glob, wraps, plain, Int.ofNat_eq_natCast, Vx.toN]; omega))))) (by rfl) c2 ?_
      rintro r Hc ⟨rfl, rfl⟩
      cases other
      · refine AnyT.goF (by first | exact trivial | assumption) Try.func22 tl_ok mixed hS.ops [(3, .one 1 .none (.one 2 .none (.one 3 .none (.one 4 .none (.one 5 .none (.alt 0 (.one 6 .none (.one 7 .none (.one 8 .none (.one 9 .none .done)))) (.alt 6 (.one 0 .none (.one 7 .none (.one 8 .none (.one 9 .none .done)))) .none))))))), (4, .one 0 .none (.one 1 .none (.one 3 .none (.alt 2 (.one 4 .none (.one 5 .none (.one 6 .none .done))) (.alt 4 (.one 2 .none (.one 5 .none (.one 6 .none .done))) .none)))))] 400 ?_
        intro VV VA W hVV hVA hW
        conv => cbv
        rw [hQ]
        exact ⟨rfl, .inl ⟨by rw [hP]; rfl, _, rfl⟩⟩
      · refine AnyT.goF (by first | exact trivial | assumption) Try.func22 tl_ok mixed hS.ops [(3, .one 1 .none (.one 2 .none (.one 3 .none (.one 4 .none (.one 5 .none (.alt 0 (.one 6 .none (.one 7 .none (.one 8 .none (.one 9 .none .done)))) (.alt 6 (.one 0 .none (.one 7 .none (.one 8 .none (.one 9 .none .done)))) .none))))))), (4, .one 0 .none (.one 1 .none (.one 3 .none (.alt 2 (.one 4 .none (.one 5 .none (.one 6 .none .done))) (.alt 4 (.one 2 .none (.one 5 .none (.one 6 .none .done))) .none)))))] 400 ?_
        intro VV VA W hVV hVA hW
        conv => cbv
        refine ⟨by rw [hW]; show ordOk _ _ _ = true; kernel_rfl, ?_⟩
        refine ⟨?_, ?_, trivial⟩
        · rw [hVA]
          clear hVV hVA VV VA hW W
          refine AnyT.call rfl rfl rfl rfl rfl Try.func32 rfl (by decide) [0] (by decide) (all_lt (by rfl)) (by (first | rfl | ((conv => cbv); (repeat' apply And.intro) <;> first | rfl | trivial | (first | rfl | omega | (simp (disch := omega) only [hS.glob, wraps, plain, Int.ofNat_eq_natCast]; first | done | rfl | omega | (simp; done) | (simp; omega)) | (simp (disch := omega) only [hS.glob, wraps, plain, Int.ofNat_eq_natCast, Vx.toN]; omega))))) (by rfl) (f32_ok ln o (by omega) hl l came side first A hA) ?_
          rintro r Hc ⟨rfl, rfl⟩
          refine AnyT.goF (by first | exact trivial | assumption) Try.func22 tl_ok mixed hS.ops [(3, .one 1 .none (.one 2 .none (.one 3 .none (.one 4 .none (.one 5 .none (.alt 0 (.one 6 .none (.one 7 .none (.one 8 .none (.one 9 .none .done)))) (.alt 6 (.one 0 .none (.one 7 .none (.one 8 .none (.one 9 .none .done)))) .none))))))), (4, .one 0 .none (.one 1 .none (.one 3 .none (.alt 2 (.one 4 .none (.one 5 .none (.one 6 .none .done))) (.alt 4 (.one 2 .none (.one 5 .none (.one 6 .none .done))) .none)))))] 400 ?_
          intro VV VA W hVV hVA hW
          conv => cbv
          cases g : ine A side
          · conv => cbv
            simp (disch := first | omega | (simp only [hS.glob, wraps, plain, Int.ofNat_eq_natCast]; omega)) only [hS.glob, wraps, plain, Int.ofNat_eq_natCast] at g
            obtain ⟨v, hPv, hv⟩ : ∃ v, P = some v ∧ v = side := ⟨side, by rw [hP]; simp [g], rfl⟩
            rw [← hv]
            rw [hVV]
            clear hVV hVA VV VA hW W
            refine V.call rfl rfl rfl rfl rfl Try.func33 rfl (by decide) [0] (by decide) (all_lt (by rfl)) (by (first | rfl | ((conv => cbv); (repeat' apply And.intro) <;> first | rfl | trivial | (first | rfl | omega | (simp (disch := omega) only [hS.glob, wraps, plain, Int.ofNat_eq_natCast]; first | done | rfl | omega | (simp; done) | (simp; omega)) | (simp (disch := omega) only [hS.glob, wraps, plain, Int.ofNat_eq_natCast, Vx.toN]; omega))))) (by rfl) (s1 v hPv) ?_
            rintro r Hc ⟨rfl, rfl⟩
            refine V.goF (by first | exact trivial | assumption) Try.func22 tl_ok mixed hS.ops [] 400 ?_
            intro VV VA W hVV hVA hW
            conv => cbv
            rw [hVV]
            clear hVV hVA VV VA hW W
            refine V.call rfl rfl rfl rfl rfl Try.func33 rfl (by decide) [0] (by decide) (all_lt (by rfl)) (by (first | rfl | ((conv => cbv); (repeat' apply And.intro) <;> first | rfl | trivial | (first | rfl | omega | (simp (disch := omega) only [hS.glob, wraps, plain, Int.ofNat_eq_natCast]; first | done | rfl | omega | (simp; done) | (simp; omega)) | (simp (disch := omega) only [hS.glob, wraps, plain, Int.ofNat_eq_natCast, Vx.toN]; omega))))) (by rfl) (s2 v hPv) ?_
            rintro r Hc ⟨rfl, rfl⟩
            refine V.goF (by first | exact trivial | assumption) Try.func22 tl_ok mixed hS.ops [] 400 ?_
            intro VV VA W hVV hVA hW
            conv => cbv
            rw [hQ]
            exact ⟨rfl, .inr ⟨⟨v, hPv⟩, _, rfl⟩⟩
          · conv => cbv
            simp (disch := first | omega | (simp only [hS.glob, wraps, plain, Int.ofNat_eq_natCast]; omega)) only [hS.glob, wraps, plain, Int.ofNat_eq_natCast] at g
            rw [hVV]
            clear hVV hVA VV VA hW W
            refine V.call rfl rfl rfl rfl rfl Try.func31 rfl (by decide) [] (by decide) (all_lt (by rfl)) (by (first | rfl | ((conv => cbv); (repeat' apply And.intro) <;> first | rfl | trivial | (first | rfl | omega | (simp (disch := omega) only [hS.glob, wraps, plain, Int.ofNat_eq_natCast]; first | done | rfl | omega | (simp; done) | (simp; omega)) | (simp (disch := omega) only [hS.glob, wraps, plain, Int.ofNat_eq_natCast, Vx.toN]; omega))))) (by rfl) (f31_ok side sd hsd) ?_
            rintro r Hc ⟨rfl, rfl⟩
            obtain ⟨v, hPv, hv⟩ : ∃ v, P = some v ∧ v = sd := ⟨sd, by rw [hP]; simp [g], rfl⟩
            rw [← hv]
            refine V.goF (by first | exact trivial | assumption) Try.func22 tl_ok mixed hS.ops [] 400 ?_
            intro VV VA W hVV hVA hW
            conv => cbv
            rw [hVV]
            clear hVV hVA VV VA hW W
            refine V.call rfl rfl rfl rfl rfl Try.func33 rfl (by decide) [0] (by decide) (all_lt (by rfl)) (by (first | rfl | ((conv => cbv); (repeat' apply And.intro) <;> first | rfl | trivial | (first | rfl | omega | (simp (disch := omega) only [hS.glob, wraps, plain, Int.ofNat_eq_natCast]; first | done | rfl | omega | (simp; done) | (simp; omega)) | (simp (disch := omega) only [hS.glob, wraps, plain, Int.ofNat_eq_natCast, Vx.toN]; omega))))) (by rfl) (s1 v hPv) ?_
            rintro r Hc ⟨rfl, rfl⟩
            refine V.goF (by first | exact trivial | assumption) Try.func22 tl_ok mixed hS.ops [] 400 ?_
            intro VV VA W hVV hVA hW
            conv => cbv
            rw [hVV]
            clear hVV hVA VV VA hW W
            refine V.call rfl rfl rfl rfl rfl Try.func33 rfl (by decide) [0] (by decide) (all_lt (by rfl)) (by (first | rfl | ((conv => cbv); (repeat' apply And.intro) <;> first | rfl | trivial | (first | rfl | omega | (simp (disch := omega) only [hS.glob, wraps, plain, Int.ofNat_eq_natCast]; first | done | rfl | omega | (simp; done) | (simp; omega)) | (simp (disch := omega) only [hS.glob, wraps, plain, Int.ofNat_eq_natCast, Vx.toN]; omega))))) (by rfl) (s2 v hPv) ?_
            rintro r Hc ⟨rfl, rfl⟩
            refine V.goF (by first | exact trivial | assumption) Try.func22 tl_ok mixed hS.ops [] 400 ?_
            intro VV VA W hVV hVA hW
            conv => cbv
            rw [hQ]
            exact ⟨rfl, .inr ⟨⟨v, hPv⟩, _, rfl⟩⟩
        · rw [hVA]
          clear hVV hVA VV VA hW W
          refine AnyT.call rfl rfl rfl rfl rfl Try.func32 rfl (by decide) [0] (by decide) (all_lt (by rfl)) (by (first | rfl | ((conv => cbv); (repeat' apply And.intro) <;> first | rfl | trivial | (first | rfl | omega | (simp (disch := omega) only [hS.glob, wraps, plain, Int.ofNat_eq_natCast]; first | done | rfl | omega | (simp; done) | (simp; omega)) | (simp (disch := omega) only [hS.glob, wraps, plain, Int.ofNat_eq_natCast, Vx.toN]; omega))))) (by rfl) (f32_ok ln o (by omega) hl l came side first A hA) ?_
          rintro r Hc ⟨rfl, rfl⟩
          refine AnyT.goF (by first | exact trivial | assumption) Try.func22 tl_ok mixed hS.ops [(3, .one 1 .none (.one 2 .none (.one 3 .none (.one 4 .none (.one 5 .none (.alt 0 (.one 6 .none (.one 7 .none (.one 8 .none (.one 9 .none .done)))) (.alt 6 (.one 0 .none (.one 7 .none (.one 8 .none (.one 9 .none .done)))) .none))))))), (4, .one 0 .none (.one 1 .none (.one 3 .none (.alt 2 (.one 4 .none (.one 5 .none (.one 6 .none .done))) (.alt 4 (.one 2 .none (.one 5 .none (.one 6 .none .done))) .none)))))] 400 ?_
          intro VV VA W hVV hVA hW
          conv => cbv
          cases g : ine A side
          · conv => cbv
            simp (disch := first | omega | (simp only [hS.glob, wraps, plain, Int.ofNat_eq_natCast]; omega)) only [hS.glob, wraps, plain, Int.ofNat_eq_natCast] at g
            obtain ⟨v, hPv, hv⟩ : ∃ v, P = some v ∧ v = side := ⟨side, by rw [hP]; simp [g], rfl⟩
            rw [← hv]
            rw [hVV]
            clear hVV hVA VV VA hW W
            refine V.call rfl rfl rfl rfl rfl Try.func33 rfl (by decide) [0] (by decide) (all_lt (by rfl)) (by (first | rfl | ((conv => cbv); (repeat' apply And.intro) <;> first | rfl | trivial | (first | rfl | omega | (simp (disch := omega) only [hS.glob, wraps, plain, Int.ofNat_eq_natCast]; first | done | rfl | omega | (simp; done) | (simp; omega)) | (simp (disch := omega) only [hS.glob, wraps, plain, Int.ofNat_eq_natCast, Vx.toN]; omega))))) (by rfl) (s1 v hPv) ?_
            rintro r Hc ⟨rfl, rfl⟩
            refine V.goF (by first | exact trivial | assumption) Try.func22 tl_ok mixed hS.ops [] 400 ?_
            intro VV VA W hVV hVA hW
            conv => cbv
            rw [hVV]
            clear hVV hVA VV VA hW W
            refine V.call rfl rfl rfl rfl rfl Try.func33 rfl (by decide) [0] (by decide) (all_lt (by rfl)) (by (first | rfl | ((conv => cbv); (repeat' apply And.intro) <;> first | rfl | trivial | (first | rfl | omega | (simp (disch := omega) only [hS.glob, wraps, plain, Int.ofNat_eq_natCast]; first | done | rfl | omega | (simp; done) | (simp; omega)) | (simp (disch := omega) only [hS.glob, wraps, plain, Int.ofNat_eq_natCast, Vx.toN]; omega))))) (by rfl) (s2 v hPv) ?_
            rintro r Hc ⟨rfl, rfl⟩
            refine V.goF (by first | exact trivial | assumption) Try.func22 tl_ok mixed hS.ops [] 400 ?_
            intro VV VA W hVV hVA hW
            conv => cbv
            rw [hQ]
            exact ⟨rfl, .inr ⟨⟨v, hPv⟩, _, rfl⟩⟩
          · conv => cbv
            simp (disch := first | omega | (simp only [hS.glob, wraps, plain, Int.ofNat_eq_natCast]; omega)) only [hS.glob, wraps, plain, Int.ofNat_eq_natCast] at g
            rw [hVV]
            clear hVV hVA VV VA hW W
            refine V.call rfl rfl rfl rfl rfl Try.func31 rfl (by decide) [] (by decide) (all_lt (by rfl)) (by (first | rfl | ((conv => cbv); (repeat' apply And.intro) <;> first | rfl | trivial | (first | rfl | omega | (simp (disch := omega) only [hS.glob, wraps, plain, Int.ofNat_eq_natCast]; first | done | rfl | omega | (simp; done) | (simp; omega)) | (simp (disch := omega) only [hS.glob, wraps, plain, Int.ofNat_eq_natCast, Vx.toN]; omega))))) (by rfl) (f31_ok side sd hsd) ?_
            rintro r Hc ⟨rfl, rfl⟩
            obtain ⟨v, hPv, hv⟩ : ∃ v, P = some v ∧ v = sd := ⟨sd, by rw [hP]; simp [g], rfl⟩
            rw [← hv]
            refine V.goF (by first | exact trivial | assumption) Try.func22 tl_ok mixed hS.ops [] 400 ?_
            intro VV VA W hVV hVA hW
            conv => cbv
            rw [hVV]
            clear hVV hVA VV VA hW W
            refine V.call rfl rfl rfl rfl rfl Try.func33 rfl (by decide) [0] (by decide) (all_lt (by rfl)) (by (first | rfl | ((conv => cbv); (repeat' apply And.intro) <;> first | rfl | trivial | (first | rfl | omega | (simp (disch := omega) only [hS.glob, wraps, plain, Int.ofNat_eq_natCast]; first | done | rfl | omega | (simp; done) | (simp; omega)) | (simp (disch := omega) only [hS.glob, wraps, plain, Int.ofNat_eq_natCast, Vx.toN]; omega))))) (by rfl) (s1 v hPv) ?_
            rintro r Hc ⟨rfl, rfl⟩
            refine V.goF (by first | exact trivial | assumption) Try.func22 tl_ok mixed hS.ops [] 400 ?_
            intro VV VA W hVV hVA hW
            conv => cbv
            rw [hVV]
            clear hVV hVA VV VA hW W
            refine V.call rfl rfl rfl rfl rfl Try.func33 rfl (by decide) [0] (by decide) (all_lt (by rfl)) (by (first | rfl | ((conv => cbv); (repeat' apply And.intro) <;> first | rfl | trivial | (first | rfl | omega | (simp (disch := omega) only [hS.glob, wraps, plain, Int.ofNat_eq_natCast]; first | done | rfl | omega | (simp; done) | (simp; omega)) | (simp (disch := omega) only [hS.glob, wraps, plain, Int.ofNat_eq_natCast, Vx.toN]; omega))))) (by rfl) (s2 v hPv) ?_
            rintro r Hc ⟨rfl, rfl⟩
            refine V.goF (by first | exact trivial | assumption) Try.func22 tl_ok mixed hS.ops [] 400 ?_
            intro VV VA W hVV hVA hW
            conv => cbv
            rw [hQ]
            exact ⟨rfl, .inr ⟨⟨v, hPv⟩, _, rfl⟩⟩
theorem f22_ok (ln o e : Nat) (ho : o < e) (he : e < ln) (hl : ln ≤ 17592186044416) (l came : Nat → Int) (side first : Int) (own other : Bool) (h1 : own = true ↔ hasL l (o + 1) (e - (o + 1)) side) (h2 : other = true ↔ hasL l (o + 1) (e - (o + 1)) (turnC side))
    (l' : Nat → Int) (hl' : ∀ j, j < ln → l' j = pairL came l o e (pairSd own other side (aheadL l first o)) j) : FSpec Try.prog 22 [.agg [.rows 1 ln (icol .i64 came), .sl 0 0 ln, .int .i64 side, .int .i64 first], .int .i64 o, .int .i64 e] [some ⟨32, 1, .arr ln (icol .i64 l)⟩] (fun r H' => r = .tup [] ∧ H' = [some ⟨32, 1, .arr ln (icol .i64 l')⟩]) := by
  obtain ⟨P, hP⟩ : ∃ P, P = pairSd own other side (aheadL l first o) := ⟨_, rfl⟩
  rw [← hP] at hl'
  obtain ⟨l1, e1⟩ : ∃ l1 : Nat → Int, ∀ v, P = some v → l1 = setF came l o v := by
    cases P with
    | none => exact ⟨l, fun v h => by cases h⟩
    | some v => exact ⟨setF came l o v, fun w h => by injection h with h; rw [h]⟩
  obtain ⟨l2, e2⟩ : ∃ l2 : Nat → Int, ∀ v, P = some v → l2 = setF came l1 e v := by
    cases P with
    | none => exact ⟨l, fun v h => by cases h⟩
    | some v => exact ⟨setF came l1 e v, fun w h => by injection h with h; rw [h]⟩
  refine (f22_ok1 ln o e ho he hl l came side first own other h1 h2 P hP l1 (fun v h j _ => by rw [e1 v h]) l2 (fun v h j _ => by rw [e2 v h])).weaken ?_
  rintro r H' ⟨rfl, h⟩
  refine ⟨[some ⟨32, 1, .arr ln (icol .i64 l')⟩], ?_, rfl, Nat.le_refl _, rfl, rfl⟩
  rcases h with ⟨rfl, x, rfl⟩ | ⟨⟨v, hv⟩, x, rfl⟩
  · exact ⟨⟨rfl, rfl, ⟨Nat.le_refl _, fun j hj => by simp only [icol]; rw [hl' j hj, pairL]⟩, rfl⟩, trivial⟩
  · exact ⟨⟨rfl, rfl, ⟨Nat.le_refl _, fun j hj => by simp only [icol]; rw [hl' j hj, hv, pairL, e2 v hv, e1 v hv]⟩, rfl⟩, trivial⟩
end Go.Proofs.Ytcoanfhjgmndcaa

/- The document's words on one pair. -/
namespace Go.Proofs.Ytcoanfhjgmndcaa
open Go Vx

theorem f23_ok1 (ln a b : Nat) (ha : a < b) (hb : b ≤ ln) (l : Nat → Int) (sd : Int) (hl : ln ≤ 17592186044416) (R : Bool) (hR : R = true ↔ hasL l (a + 1) (b - (a + 1)) sd) : FSpec Try.prog 23 [.sl 0 0 ln, .agg [.int .i64 a, .int .i64 b], .int .i64 sd] [some ⟨32, 1, .arr ln (icol .i64 l)⟩] (fun r H' => r = .bool R ∧ ∃ x, H' = [some ⟨32, 1, .arr ln (icol .i64 l)⟩, x]) := by
  obtain ⟨z, hz⟩ : ∃ z : Int, z = a := ⟨_, rfl⟩
  obtain ⟨y, hy⟩ : ∃ y : Int, y = b := ⟨_, rfl⟩
  rw [← hz, ← hy]
  have hR' : R = true ↔ ∃ j, a < j ∧ j < b ∧ strC (l j) = sd := hR.trans ⟨fun ⟨j, h1, h2⟩ => ⟨a + 1 + j, by omega, by omega, h2⟩, fun ⟨j, h1, h2, h3⟩ => ⟨j - (a + 1), by omega, by rw [show a + 1 + (j - (a + 1)) = j by omega]; exact h3⟩⟩
  clear hR
  obtain ⟨Q, hQ⟩ : ∃ Q : AV → Hp → Prop, Q = (fun r H' => r = .bool R ∧ ∃ x, H' = [some ⟨32, 1, .arr ln (icol .i64 l)⟩, x]) := ⟨_, rfl⟩
  rw [← hQ]
  refine FSpec.of (fn := Try.f23) Try.func23 rfl rfl (by simp) fun C hC => ?_
  obtain ⟨iadd, isub, imul, iquo, irem, iband, ibor, ibxor, ibandn, ishl, ishr, iconv, ieq, ine, ilt, ile, igt, ige, bbeq, bbne, bnot, bband, sseq, ssne, sscat, sssub, sslen, sssz, ssbyte, toN, ofN, addN, subN, eqN, ltB, leN, imx, imn, inb, leb, sslt, ltN, fit, ne0, ge0, ssfit, minN, inR, hS⟩ := names
  obtain rfl : z = ofN a := by simp (disch := first | omega | (simp only [hS.glob, wraps, plain, Int.ofNat_eq_natCast]; omega)) only [hS.glob, wraps, plain, Int.ofNat_eq_natCast]; exact hz
  obtain rfl : y = ofN b := by simp (disch := first | omega | (simp only [hS.glob, wraps, plain, Int.ofNat_eq_natCast]; omega)) only [hS.glob, wraps, plain, Int.ofNat_eq_natCast]; exact hy
  refine V.goF (by first | exact trivial | assumption) Try.func23 tl_ok mixed hS.ops [] 400 ?_
  intro VV VA W hVV hVA hW
  conv => cbv
  rw [hVV]
  clear hVV hVA VV VA hW W
  refine V.to (s' := [(7, .int .i64 (ofN (a + 1))), (4, .ptr 1 0 0), (0, .sl 0 0 ln), (2, .int .i64 sd)]) (H' := [some ⟨32, 1, .arr ln (icol .i64 l)⟩, some ⟨41, 2, .lit [[.int .i64 (ofN a), .int .i64 (ofN b)]]⟩]) ?_ (by (repeat' first | exact trivial | rfl | (refine And.intro ?_ ?_) | (refine sti ?_; (first | rfl | omega | (simp (disch := omega) only [hS.glob, wraps, plain, Int.ofNat_eq_natCast]; first | done | rfl | omega | (simp; done) | (simp; omega)) | (simp (disch := omega) only [hS.glob, wraps, plain, Int.ofNat_eq_natCast, Vx.toN]; omega))) | (refine slq ?_ ?_ ?_ <;> (first | rfl | omega | (simp (disch := omega) only [hS.glob, wraps, plain, Int.ofNat_eq_natCast]; first | done | rfl | omega | (simp; done) | (simp; omega)) | (simp (disch := omega) only [hS.glob, wraps, plain, Int.ofNat_eq_natCast, Vx.toN]; omega))) | (refine ptq ?_ ?_ ?_ <;> (first | rfl | omega | (simp (disch := omega) only [hS.glob, wraps, plain, Int.ofNat_eq_natCast]; first | done | rfl | omega | (simp; done) | (simp; omega)) | (simp (disch := omega) only [hS.glob, wraps, plain, Int.ofNat_eq_natCast, Vx.toN]; omega))) | (refine blq ?_; (first | rfl | omega | (simp (disch := omega) only [hS.glob, wraps, plain, Int.ofNat_eq_natCast]; first | done | rfl | omega | (simp; done) | (simp; omega)) | (simp (disch := omega) only [hS.glob, wraps, plain, Int.ofNat_eq_natCast, Vx.toN]; omega))))) rfl (by (repeat' first | exact trivial | rfl | exact Nat.le_refl _ | exact (fun _ _ => rfl) | (refine And.intro ?_ ?_) | (simp only [hS.glob, plain]; first | done | omega))) (by rw [hC]; simp)
  refine V.loop (γ := Nat) (fun i => a < i ∧ i ≤ b ∧ ∀ q, a < q → q < i → strC (l q) ≠ sd) (fun i => [(7, .int .i64 (ofN i)), (4, .ptr 1 0 0), (0, .sl 0 0 ln), (2, .int .i64 sd)]) (fun _ => [some ⟨32, 1, .arr ln (icol .i64 l)⟩, some ⟨41, 2, .lit [[.int .i64 (ofN a), .int .i64 (ofN b)]]⟩]) (fun i => b - i) ?_ (a + 1) ⟨by omega, by omega, fun q h1 h2 => by omega⟩
  rintro i ⟨hi1, hi2, hm⟩ hback
  refine V.goF (by first | exact trivial | assumption) Try.func23 tl_ok mixed hS.ops [] 400 ?_
  intro VV VA W hVV hVA hW
  conv => cbv
  cases h1 : ilt (ofN i) (ofN b)
  · conv => cbv
    simp (disch := first | omega | (simp only [hS.glob, wraps, plain, Int.ofNat_eq_natCast]; omega)) only [hS.glob, wraps, plain, Int.ofNat_eq_natCast] at h1
    rw [hQ]
    refine ⟨?_, _, rfl⟩
    cases R with
    | false => rfl
    | true => obtain ⟨j, h2, h3, h4⟩ := hR'.1 rfl; exact absurd h4 (hm j h2 (by omega))
  · conv => cbv
    simp (disch := first | omega | (simp only [hS.glob, wraps, plain, Int.ofNat_eq_natCast]; omega)) only [hS.glob, wraps, plain, Int.ofNat_eq_natCast] at h1
    repeat (refine ⟨by first | (rw [hW]; show ordOk _ _ _ = true; kernel_rfl) | (first | trivial | omega | (simp (disch := omega) only [hS.glob, wraps, plain, Int.ofNat_eq_natCast]; first | done | omega | trivial | (simp; done) | (simp; omega) | (constructor <;> omega)) | (simp (disch := omega) only [hS.glob, wraps, plain, Int.ofNat_eq_natCast, Vx.toN]; omega)), ?_⟩)
    simp only [hS.tidy]
    obtain ⟨c, hc⟩ : ∃ c, c = strC (l i) := ⟨_, rfl⟩
    rw [hVV]
    clear hVV hVA VV VA hW W
    refine V.call rfl rfl rfl rfl rfl Try.func34 rfl (by decide) [] (by simp) (by simp) (by (first | rfl | ((conv => cbv); (repeat' apply And.intro) <;> first | rfl | trivial | (first | rfl | omega | (simp (disch := omega) only [hS.glob, wraps, plain, Int.ofNat_eq_natCast]; first | done | rfl | omega | (simp; done) | (simp; omega)) | (simp (disch := omega) only [hS.glob, wraps, plain, Int.ofNat_eq_natCast, Vx.toN]; omega))))) rfl (f34_ok (l i) c hc) ?_
    rintro r Hc ⟨rfl, rfl⟩
    refine V.goF (by first | exact trivial | assumption) Try.func23 tl_ok mixed hS.ops [] 400 ?_
    intro VV VA W hVV hVA hW
    conv => cbv
    cases h2 : ieq c sd
    · conv => cbv
      simp (disch := first | omega | (simp only [hS.glob, wraps, plain, Int.ofNat_eq_natCast]; omega)) only [hS.glob, wraps, plain, Int.ofNat_eq_natCast] at h2
      rw [hVV]
      clear hVV hVA VV VA hW W
      refine V.to (hback (i + 1) ⟨by omega, by omega, fun q h3 h4 => ?_⟩ (by omega)) (by (repeat' first | exact trivial | rfl | (refine And.intro ?_ ?_) | (refine sti ?_; (first | rfl | omega | (simp (disch := omega) only [hS.glob, wraps, plain, Int.ofNat_eq_natCast]; first | done | rfl | omega | (simp; done) | (simp; omega)) | (simp (disch := omega) only [hS.glob, wraps, plain, Int.ofNat_eq_natCast, Vx.toN]; omega))) | (refine slq ?_ ?_ ?_ <;> (first | rfl | omega | (simp (disch := omega) only [hS.glob, wraps, plain, Int.ofNat_eq_natCast]; first | done | rfl | omega | (simp; done) | (simp; omega)) | (simp (disch := omega) only [hS.glob, wraps, plain, Int.ofNat_eq_natCast, Vx.toN]; omega))) | (refine ptq ?_ ?_ ?_ <;> (first | rfl | omega | (simp (disch := omega) only [hS.glob, wraps, plain, Int.ofNat_eq_natCast]; first | done | rfl | omega | (simp; done) | (simp; omega)) | (simp (disch := omega) only [hS.glob, wraps, plain, Int.ofNat_eq_natCast, Vx.toN]; omega))) | (refine blq ?_; (first | rfl | omega | (simp (disch := omega) only [hS.glob, wraps, plain, Int.ofNat_eq_natCast]; first | done | rfl | omega | (simp; done) | (simp; omega)) | (simp (disch := omega) only [hS.glob, wraps, plain, Int.ofNat_eq_natCast, Vx.toN]; omega))))) rfl (by (repeat' first | exact trivial | rfl | exact Nat.le_refl _ | exact (fun _ _ => rfl) | (refine And.intro ?_ ?_) | (simp only [hS.glob, plain]; first | done | omega))) (by rw [hC]; simp)
      by_cases e : q = i
      · rw [e, ← hc]; exact h2
      · exact hm q h3 (by omega)
    · conv => cbv
      simp (disch := first | omega | (simp only [hS.glob, wraps, plain, Int.ofNat_eq_natCast]; omega)) only [hS.glob, wraps, plain, Int.ofNat_eq_natCast] at h2
      rw [hQ]
      refine ⟨?_, _, rfl⟩
      rw [hR'.2 ⟨i, hi1, by omega, by rw [← hc]; exact h2⟩]
theorem f23_ok (ln a b : Nat) (ha : a < b) (hb : b ≤ ln) (l : Nat → Int) (sd : Int) (hl : ln ≤ 17592186044416) (R : Bool) (hR : R = true ↔ hasL l (a + 1) (b - (a + 1)) sd) : FSpec Try.prog 23 [.sl 0 0 ln, .agg [.int .i64 a, .int .i64 b], .int .i64 sd] [some ⟨32, 1, .arr ln (icol .i64 l)⟩] (fun r H' => r = .bool R ∧ H' = [some ⟨32, 1, .arr ln (icol .i64 l)⟩]) := by
  refine (f23_ok1 ln a b ha hb l sd hl R hR).weaken ?_
  rintro r H' ⟨rfl, x, rfl⟩
  exact ⟨[some ⟨32, 1, .arr ln (icol .i64 l)⟩], by simp [heapCov, ContLe, bndOb], rfl, Nat.le_refl _, rfl, rfl⟩
theorem f24_ok (ln a : Nat) (ha : a ≤ ln) (l : Nat → Int) (first : Int) (hl : ln ≤ 17592186044416) (R : Int) (hR : R = aheadL l first a) : FSpec Try.prog 24 [.sl 0 0 ln, .int .i64 a, .int .i64 first] [some ⟨32, 1, .arr ln (icol .i64 l)⟩] (fun r H' => r = .int .i64 R ∧ H' = [some ⟨32, 1, .arr ln (icol .i64 l)⟩]) := by
  obtain ⟨z, hz⟩ : ∃ z : Int, z = a := ⟨_, rfl⟩
  rw [← hz]
  obtain ⟨zf, hzf⟩ : ∃ zf : Nat → Int, ∀ n, zf n = n - 1 := ⟨_, fun _ => rfl⟩
  refine FSpec.of (fn := Try.f24) Try.func24 rfl rfl (by simp) fun C hC => ?_
  obtain ⟨iadd, isub, imul, iquo, irem, iband, ibor, ibxor, ibandn, ishl, ishr, iconv, ieq, ine, ilt, ile, igt, ige, bbeq, bbne, bnot, bband, sseq, ssne, sscat, sssub, sslen, sssz, ssbyte, toN, ofN, addN, subN, eqN, ltB, leN, imx, imn, inb, leb, sslt, ltN, fit, ne0, ge0, ssfit, minN, inR, hS⟩ := names
  obtain rfl : z = ofN a := by simp (disch := first | omega | (simp only [hS.glob, wraps, plain, Int.ofNat_eq_natCast]; omega)) only [hS.glob, wraps, plain, Int.ofNat_eq_natCast]; exact hz
  refine V.goF (by first | exact trivial | assumption) Try.func24 tl_ok mixed hS.ops [] 400 ?_
  intro VV VA W hVV hVA hW
  conv => cbv
  have ek : isub .i64 (ofN a) 1 = zf a := by rw [hzf]; simp (disch := first | omega | (simp only [hS.glob, wraps, plain, Int.ofNat_eq_natCast]; omega)) only [hS.glob, wraps, plain, Int.ofNat_eq_natCast]
  rw [ek, hVV]
  clear hVV hVA VV VA hW W ek
  refine V.to (s' := [(7, .int .i64 (zf a)), (0, .sl 0 0 ln), (2, .int .i64 first)]) (H' := [some ⟨32, 1, .arr ln (icol .i64 l)⟩]) ?_ (by (repeat' first | exact trivial | rfl | (refine And.intro ?_ ?_) | (refine sti ?_; (first | rfl | omega | (simp (disch := omega) only [hS.glob, wraps, plain, Int.ofNat_eq_natCast]; first | done | rfl | omega | (simp; done) | (simp; omega)) | (simp (disch := omega) only [hS.glob, wraps, plain, Int.ofNat_eq_natCast, Vx.toN]; omega))) | (refine slq ?_ ?_ ?_ <;> (first | rfl | omega | (simp (disch := omega) only [hS.glob, wraps, plain, Int.ofNat_eq_natCast]; first | done | rfl | omega | (simp; done) | (simp; omega)) | (simp (disch := omega) only [hS.glob, wraps, plain, Int.ofNat_eq_natCast, Vx.toN]; omega))) | (refine ptq ?_ ?_ ?_ <;> (first | rfl | omega | (simp (disch := omega) only [hS.glob, wraps, plain, Int.ofNat_eq_natCast]; first | done | rfl | omega | (simp; done) | (simp; omega)) | (simp (disch := omega) only [hS.glob, wraps, plain, Int.ofNat_eq_natCast, Vx.toN]; omega))) | (refine blq ?_; (first | rfl | omega | (simp (disch := omega) only [hS.glob, wraps, plain, Int.ofNat_eq_natCast]; first | done | rfl | omega | (simp; done) | (simp; omega)) | (simp (disch := omega) only [hS.glob, wraps, plain, Int.ofNat_eq_natCast, Vx.toN]; omega))))) rfl (by (repeat' first | exact trivial | rfl | exact Nat.le_refl _ | exact (fun _ _ => rfl) | (refine And.intro ?_ ?_) | (simp only [hS.glob, plain]; first | done | omega))) (by rw [hC]; simp)
  refine V.loop (γ := Nat) (fun n => n ≤ a ∧ R = aheadL l first n) (fun n => [(7, .int .i64 (zf n)), (0, .sl 0 0 ln), (2, .int .i64 first)]) (fun _ => [some ⟨32, 1, .arr ln (icol .i64 l)⟩]) (fun n => n) ?_ a ⟨Nat.le_refl _, hR⟩
  rintro n ⟨hn, hRn⟩ hback
  refine V.goF (by first | exact trivial | assumption) Try.func24 tl_ok mixed hS.ops [] 400 ?_
  intro VV VA W hVV hVA hW
  conv => cbv
  have hz1 := hzf n
  cases h1 : ige (zf n) 0
  · conv => cbv
    simp (disch := first | omega | (simp only [hS.glob, wraps, plain, Int.ofNat_eq_natCast]; omega)) only [hS.glob, wraps, plain, Int.ofNat_eq_natCast] at h1
    obtain rfl : n = 0 := by omega
    exact ⟨sti hRn.symm, by trivial⟩
  · conv => cbv
    simp (disch := first | omega | (simp only [hS.glob, wraps, plain, Int.ofNat_eq_natCast]; omega)) only [hS.glob, wraps, plain, Int.ofNat_eq_natCast] at h1
    obtain ⟨d, rfl⟩ : ∃ d, n = d + 1 := ⟨n - 1, by omega⟩
    have ez : zf (d + 1) = ofN d := by simp (disch := first | omega | (simp only [hS.glob, wraps, plain, Int.ofNat_eq_natCast]; omega)) only [hS.glob, wraps, plain, Int.ofNat_eq_natCast]; rw [hz1]; omega
    simp only [ez]
    repeat (refine ⟨by first | (rw [hW]; show ordOk _ _ _ = true; kernel_rfl) | (first | trivial | omega | (simp (disch := omega) only [hS.glob, wraps, plain, Int.ofNat_eq_natCast]; first | done | omega | trivial | (simp; done) | (simp; omega) | (constructor <;> omega)) | (simp (disch := omega) only [hS.glob, wraps, plain, Int.ofNat_eq_natCast, Vx.toN]; omega)), ?_⟩)
    simp only [hS.tidy]
    obtain ⟨c, hc⟩ : ∃ c, c = strC (l d) := ⟨_, rfl⟩
    rw [hVV]
    clear hVV hVA VV VA hW W
    refine V.call rfl rfl rfl rfl rfl Try.func34 rfl (by decide) [] (by simp) (by simp) (by (first | rfl | ((conv => cbv); (repeat' apply And.intro) <;> first | rfl | trivial | (first | rfl | omega | (simp (disch := omega) only [hS.glob, wraps, plain, Int.ofNat_eq_natCast]; first | done | rfl | omega | (simp; done) | (simp; omega)) | (simp (disch := omega) only [hS.glob, wraps, plain, Int.ofNat_eq_natCast, Vx.toN]; omega))))) rfl (f34_ok (l d) c hc) ?_
    rintro r Hc ⟨rfl, rfl⟩
    refine V.goF (by first | exact trivial | assumption) Try.func24 tl_ok mixed hS.ops [] 400 ?_
    intro VV VA W hVV hVA hW
    conv => cbv
    cases h2 : ine c 13
    · conv => cbv
      simp (disch := first | omega | (simp only [hS.glob, wraps, plain, Int.ofNat_eq_natCast]; omega)) only [hS.glob, wraps, plain, Int.ofNat_eq_natCast] at h2
      have ez2 : isub .i64 (ofN d) 1 = zf d := by rw [hzf]; simp (disch := first | omega | (simp only [hS.glob, wraps, plain, Int.ofNat_eq_natCast]; omega)) only [hS.glob, wraps, plain, Int.ofNat_eq_natCast]
      simp only [ez2]
      rw [hVV]
      clear hVV hVA VV VA hW W
      exact V.to (hback d ⟨by omega, by rw [hRn, aheadL, if_pos (by rw [← hc]; exact h2)]⟩ (by omega)) (by (repeat' first | exact trivial | rfl | (refine And.intro ?_ ?_) | (refine sti ?_; (first | rfl | omega | (simp (disch := omega) only [hS.glob, wraps, plain, Int.ofNat_eq_natCast]; first | done | rfl | omega | (simp; done) | (simp; omega)) | (simp (disch := omega) only [hS.glob, wraps, plain, Int.ofNat_eq_natCast, Vx.toN]; omega))) | (refine slq ?_ ?_ ?_ <;> (first | rfl | omega | (simp (disch := omega) only [hS.glob, wraps, plain, Int.ofNat_eq_natCast]; first | done | rfl | omega | (simp; done) | (simp; omega)) | (simp (disch := omega) only [hS.glob, wraps, plain, Int.ofNat_eq_natCast, Vx.toN]; omega))) | (refine ptq ?_ ?_ ?_ <;> (first | rfl | omega | (simp (disch := omega) only [hS.glob, wraps, plain, Int.ofNat_eq_natCast]; first | done | rfl | omega | (simp; done) | (simp; omega)) | (simp (disch := omega) only [hS.glob, wraps, plain, Int.ofNat_eq_natCast, Vx.toN]; omega))) | (refine blq ?_; (first | rfl | omega | (simp (disch := omega) only [hS.glob, wraps, plain, Int.ofNat_eq_natCast]; first | done | rfl | omega | (simp; done) | (simp; omega)) | (simp (disch := omega) only [hS.glob, wraps, plain, Int.ofNat_eq_natCast, Vx.toN]; omega))))) rfl (by (repeat' first | exact trivial | rfl | exact Nat.le_refl _ | exact (fun _ _ => rfl) | (refine And.intro ?_ ?_) | (simp only [hS.glob, plain]; first | done | omega))) (by rw [hC]; simp)
    · conv => cbv
      simp (disch := first | omega | (simp only [hS.glob, wraps, plain, Int.ofNat_eq_natCast]; omega)) only [hS.glob, wraps, plain, Int.ofNat_eq_natCast] at h2
      exact ⟨sti (by rw [hRn, aheadL, if_neg (by rw [← hc]; exact h2), hc]), by trivial⟩
theorem f25_ok1 (ln a : Nat) (ha : a < ln) (hl : ln ≤ 17592186044416) (l came : Nat → Int) (v : Int) : FSpec Try.prog 25 [.rows 1 ln (icol .i64 came), .sl 0 0 ln, .int .i64 a, .int .i64 v] [some ⟨32, 1, .arr ln (icol .i64 l)⟩] (fun r H' => r = .tup [] ∧ ∃ g, H' = [some ⟨32, 1, .arr ln (icol .i64 g)⟩] ∧ ∀ j, j < ln → g j = setF came l a v j) := by
  obtain ⟨z, hz⟩ : ∃ z : Int, z = a := ⟨_, rfl⟩
  rw [← hz]
  have hend := fun i h1 h2 h3 => setF_end came l a i ln v h1 h2 h3
  generalize setF came l a v = F at hend ⊢
  obtain ⟨G, hG⟩ : ∃ G : Nat → Nat → Int, ∀ i j, G i j = if a ≤ j ∧ j < i then v else l j := ⟨_, fun _ _ => rfl⟩
  have hG0 : G a = l := funext fun j => by rw [hG, if_neg (by omega)]
  have hGs : ∀ i, a ≤ i → ∀ j, G (i + 1) j = if j = i then v else G i j := fun i hi j => by
    rw [hG, hG]
    by_cases e : j = i
    · rw [if_pos (by omega), if_pos e]
    · rw [if_neg e]
      by_cases e2 : a ≤ j ∧ j < i
      · rw [if_pos (by omega), if_pos e2]
      · rw [if_neg (by omega), if_neg e2]
  rw [← hG0]
  have hend2 : ∀ i, a < i → (∀ q, a < q → q < i → came q = 8) → (i = ln ∨ came i ≠ 8) → ∀ j, j < ln → G i j = F j := fun i h1 h2 h3 j hj => by rw [hend i h1 h2 h3 j hj, hG]
  clear hend hG hG0
  obtain ⟨Q, hQ⟩ : ∃ Q : AV → Hp → Prop, Q = (fun r H' => r = .tup [] ∧ ∃ g, H' = [some ⟨32, 1, .arr ln (icol .i64 g)⟩] ∧ ∀ j, j < ln → g j = F j) := ⟨_, rfl⟩
  rw [← hQ]
  refine FSpec.of (fn := Try.f25) Try.func25 rfl rfl (by simp) fun C hC => ?_
  obtain ⟨iadd, isub, imul, iquo, irem, iband, ibor, ibxor, ibandn, ishl, ishr, iconv, ieq, ine, ilt, ile, igt, ige, bbeq, bbne, bnot, bband, sseq, ssne, sscat, sssub, sslen, sssz, ssbyte, toN, ofN, addN, subN, eqN, ltB, leN, imx, imn, inb, leb, sslt, ltN, fit, ne0, ge0, ssfit, minN, inR, hS⟩ := names
  obtain rfl : z = ofN a := by simp (disch := first | omega | (simp only [hS.glob, wraps, plain, Int.ofNat_eq_natCast]; omega)) only [hS.glob, wraps, plain, Int.ofNat_eq_natCast]; exact hz
  refine V.goF (by first | exact trivial | assumption) Try.func25 tl_ok mixed hS.ops [] 400 ?_
  intro VV VA W hVV hVA hW
  conv => cbv
  repeat (refine ⟨by first | (rw [hW]; show ordOk _ _ _ = true; kernel_rfl) | (first | trivial | omega | (simp (disch := omega) only [hS.glob, wraps, plain, Int.ofNat_eq_natCast]; first | done | omega | trivial | (simp; done) | (simp; omega) | (constructor <;> omega)) | (simp (disch := omega) only [hS.glob, wraps, plain, Int.ofNat_eq_natCast, Vx.toN]; omega)), ?_⟩)
  simp only [hS.tidy]
  rw [hVV]
  clear hVV hVA VV VA hW W
  refine V.to (s' := [(8, .int .i64 (ofN (a + 1))), (0, .rows 1 ln (icol .i64 came)), (1, .sl 0 0 ln), (3, .int .i64 v)]) (H' := [some ⟨32, 1, .arr ln (icol .i64 (G (a + 1)))⟩]) ?_ (by (repeat' first | exact trivial | rfl | (refine And.intro ?_ ?_) | (refine sti ?_; (first | rfl | omega | (simp (disch := omega) only [hS.glob, wraps, plain, Int.ofNat_eq_natCast]; first | done | rfl | omega | (simp; done) | (simp; omega)) | (simp (disch := omega) only [hS.glob, wraps, plain, Int.ofNat_eq_natCast, Vx.toN]; omega))) | (refine slq ?_ ?_ ?_ <;> (first | rfl | omega | (simp (disch := omega) only [hS.glob, wraps, plain, Int.ofNat_eq_natCast]; first | done | rfl | omega | (simp; done) | (simp; omega)) | (simp (disch := omega) only [hS.glob, wraps, plain, Int.ofNat_eq_natCast, Vx.toN]; omega))) | (refine ptq ?_ ?_ ?_ <;> (first | rfl | omega | (simp (disch := omega) only [hS.glob, wraps, plain, Int.ofNat_eq_natCast]; first | done | rfl | omega | (simp; done) | (simp; omega)) | (simp (disch := omega) only [hS.glob, wraps, plain, Int.ofNat_eq_natCast, Vx.toN]; omega))) | (refine blq ?_; (first | rfl | omega | (simp (disch := omega) only [hS.glob, wraps, plain, Int.ofNat_eq_natCast]; first | done | rfl | omega | (simp; done) | (simp; omega)) | (simp (disch := omega) only [hS.glob, wraps, plain, Int.ofNat_eq_natCast, Vx.toN]; omega))))) rfl ⟨⟨rfl, rfl, ⟨Nat.le_refl _, leafS (by simp [hS.glob]) v (G a) (G (a + 1)) a ln (fun j _ => hGs a (Nat.le_refl _) j)⟩, rfl⟩, trivial⟩ (by rw [hC]; simp)
  refine V.loop (γ := Nat) (fun i => a < i ∧ i ≤ ln ∧ ∀ q, a < q → q < i → came q = 8) (fun i => [(8, .int .i64 (ofN i)), (0, .rows 1 ln (icol .i64 came)), (1, .sl 0 0 ln), (3, .int .i64 v)]) (fun i => [some ⟨32, 1, .arr ln (icol .i64 (G i))⟩]) (fun i => ln - i) ?_ (a + 1) ⟨by omega, by omega, fun q h1 h2 => by omega⟩
  rintro i ⟨hi1, hi2, hm⟩ hback
  refine V.goF (by first | exact trivial | assumption) Try.func25 tl_ok mixed hS.ops [] 400 ?_
  intro VV VA W hVV hVA hW
  conv => cbv
  cases h1 : ilt (ofN i) (ofN ln)
  · conv => cbv
    simp (disch := first | omega | (simp only [hS.glob, wraps, plain, Int.ofNat_eq_natCast]; omega)) only [hS.glob, wraps, plain, Int.ofNat_eq_natCast] at h1
    rw [hQ]
    exact ⟨rfl, G i, rfl, hend2 i hi1 hm (.inl (by omega))⟩
  · conv => cbv
    simp (disch := first | omega | (simp only [hS.glob, wraps, plain, Int.ofNat_eq_natCast]; omega)) only [hS.glob, wraps, plain, Int.ofNat_eq_natCast] at h1
    repeat (refine ⟨by first | (rw [hW]; show ordOk _ _ _ = true; kernel_rfl) | (first | trivial | omega | (simp (disch := omega) only [hS.glob, wraps, plain, Int.ofNat_eq_natCast]; first | done | omega | trivial | (simp; done) | (simp; omega) | (constructor <;> omega)) | (simp (disch := omega) only [hS.glob, wraps, plain, Int.ofNat_eq_natCast, Vx.toN]; omega)), ?_⟩)
    simp only [hS.tidy]
    cases h2 : ieq (came i) 8
    · conv => cbv
      simp (disch := first | omega | (simp only [hS.glob, wraps, plain, Int.ofNat_eq_natCast]; omega)) only [hS.glob, wraps, plain, Int.ofNat_eq_natCast] at h2
      rw [hQ]
      exact ⟨rfl, G i, rfl, hend2 i hi1 hm (.inr h2)⟩
    · conv => cbv
      simp (disch := first | omega | (simp only [hS.glob, wraps, plain, Int.ofNat_eq_natCast]; omega)) only [hS.glob, wraps, plain, Int.ofNat_eq_natCast] at h2
      have h4 := h2
      repeat (refine ⟨by first | (rw [hW]; show ordOk _ _ _ = true; kernel_rfl) | (first | trivial | omega | (simp (disch := omega) only [hS.glob, wraps, plain, Int.ofNat_eq_natCast]; first | done | omega | trivial | (simp; done) | (simp; omega) | (constructor <;> omega)) | (simp (disch := omega) only [hS.glob, wraps, plain, Int.ofNat_eq_natCast, Vx.toN]; omega)), ?_⟩)
      simp only [hS.tidy]
      rw [hVV]
      clear hVV hVA VV VA hW W
      refine V.to (hback (i + 1) ⟨by omega, by omega, fun q h1 h2 => ?_⟩ (by omega)) (by (repeat' first | exact trivial | rfl | (refine And.intro ?_ ?_) | (refine sti ?_; (first | rfl | omega | (simp (disch := omega) only [hS.glob, wraps, plain, Int.ofNat_eq_natCast]; first | done | rfl | omega | (simp; done) | (simp; omega)) | (simp (disch := omega) only [hS.glob, wraps, plain, Int.ofNat_eq_natCast, Vx.toN]; omega))) | (refine slq ?_ ?_ ?_ <;> (first | rfl | omega | (simp (disch := omega) only [hS.glob, wraps, plain, Int.ofNat_eq_natCast]; first | done | rfl | omega | (simp; done) | (simp; omega)) | (simp (disch := omega) only [hS.glob, wraps, plain, Int.ofNat_eq_natCast, Vx.toN]; omega))) | (refine ptq ?_ ?_ ?_ <;> (first | rfl | omega | (simp (disch := omega) only [hS.glob, wraps, plain, Int.ofNat_eq_natCast]; first | done | rfl | omega | (simp; done) | (simp; omega)) | (simp (disch := omega) only [hS.glob, wraps, plain, Int.ofNat_eq_natCast, Vx.toN]; omega))) | (refine blq ?_; (first | rfl | omega | (simp (disch := omega) only [hS.glob, wraps, plain, Int.ofNat_eq_natCast]; first | done | rfl | omega | (simp; done) | (simp; omega)) | (simp (disch := omega) only [hS.glob, wraps, plain, Int.ofNat_eq_natCast, Vx.toN]; omega))))) rfl ⟨⟨rfl, rfl, ⟨Nat.le_refl _, leafS (by simp [hS.glob]) v (G i) (G (i + 1)) i ln (fun j _ => hGs i (by omega) j)⟩, rfl⟩, trivial⟩ (by rw [hC]; simp)
      by_cases e : q = i
      · rw [e]; exact h4
      · exact hm q h1 (by omega)
theorem f25_ok (ln a : Nat) (ha : a < ln) (hl : ln ≤ 17592186044416) (l came : Nat → Int) (v : Int) (l' : Nat → Int) (hl' : ∀ j, j < ln → l' j = setF came l a v j) : FSpec Try.prog 25 [.rows 1 ln (icol .i64 came), .sl 0 0 ln, .int .i64 a, .int .i64 v] [some ⟨32, 1, .arr ln (icol .i64 l)⟩] (fun r H' => r = .tup [] ∧ H' = [some ⟨32, 1, .arr ln (icol .i64 l')⟩]) := by
  refine (f25_ok1 ln a ha hl l came v).weaken ?_
  rintro r H' ⟨rfl, g, rfl, hg⟩
  exact ⟨[some ⟨32, 1, .arr ln (icol .i64 l')⟩], ⟨⟨rfl, rfl, ⟨Nat.le_refl _, fun j hj => by simp only [icol]; rw [hl' j hj, hg j hj]⟩, rfl⟩, trivial⟩, rfl, Nat.le_refl _, rfl, rfl⟩
end Go.Proofs.Ytcoanfhjgmndcaa

set_option linter.all false
/- The library's sort of pairs. -/
namespace Go.Proofs
open Go.Shelf Go.RowKit Go.Lib Go.Sort
def Try.sortP_ren : Go.Shelf.Ren := ⟨fun | 6 => 17 | 15 => 28 | 14 => 27 | 28 => 43 | 29 => 44 | 20 => 35 | 21 => 36 | 22 => 37 | 23 => 38 | 24 => 39 | 25 => 40 | 26 => 41 | 27 => 42 | 46 => 49 | 47 => 50 | 48 => 51 | 49 => 52 | 50 => 53 | 57 => 56 | n => n, fun | 22 => 26 | 24 => 41 | 25 => 55 | 3 => 3 | 39 => 67 | 0 => 0 | 53 => 82 | 55 => 84 | 4 => 4 | 46 => 75 | 45 => 74 | 50 => 79 | 5 => 5 | 9 => 9 | 66 => 90 | 70 => 94 | 76 => 98 | 77 => 99 | n => n, fun | n => n⟩
theorem Try.sortP : Go.Proofs.SlLaysF0.n6 Try.prog Try.sortP_ren := {
  mixed := by kernel_rfl,
  f6 := ⟨Try.f17.name, by decide, Try.func17.trans (congrArg some (by kernel_rfl))⟩,
  f14 := ⟨Try.f27.name, by decide, Try.func27.trans (congrArg some (by kernel_rfl))⟩,
  f15 := Try.func28.trans (congrArg some (by kernel_rfl)),
  f20 := ⟨Try.f35.name, by decide, Try.func35.trans (congrArg some (by kernel_rfl))⟩,
  f21 := ⟨Try.f36.name, by decide, Try.func36.trans (congrArg some (by kernel_rfl))⟩,
  f22 := ⟨Try.f37.name, by decide, Try.func37.trans (congrArg some (by kernel_rfl))⟩,
  f23 := ⟨Try.f38.name, by decide, Try.func38.trans (congrArg some (by kernel_rfl))⟩,
  f24 := ⟨Try.f39.name, by decide, Try.func39.trans (congrArg some (by kernel_rfl))⟩,
  f25 := ⟨Try.f40.name, by decide, Try.func40.trans (congrArg some (by kernel_rfl))⟩,
  f26 := ⟨Try.f41.name, by decide, Try.func41.trans (congrArg some (by kernel_rfl))⟩,
  f27 := ⟨Try.f42.name, by decide, Try.func42.trans (congrArg some (by kernel_rfl))⟩,
  f28 := Try.func43.trans (congrArg some (by kernel_rfl)),
  f29 := Try.func44.trans (congrArg some (by kernel_rfl)),
  f46 := ⟨Try.f49.name, by decide, Try.func49.trans (congrArg some (by kernel_rfl))⟩,
  f47 := Try.func50.trans (congrArg some (by kernel_rfl)),
  f48 := Try.func51.trans (congrArg some (by kernel_rfl)),
  f49 := ⟨Try.f52.name, by decide, Try.func52.trans (congrArg some (by kernel_rfl))⟩,
  f50 := ⟨Try.f53.name, by decide, Try.func53.trans (congrArg some (by kernel_rfl))⟩,
  f57 := ⟨Try.f56.name, by decide, Try.func56.trans (congrArg some (by kernel_rfl))⟩,
  t0 := Try.underlying0,
  a0 := Try.isAgg0,
  z0 := Try.sizeOf0,
  v0 := Try.zeroValue0,
  t3 := Try.underlying3,
  a3 := Try.isAgg3,
  z3 := Try.sizeOf3,
  v3 := Try.zeroValue3,
  t4 := Try.underlying4,
  a4 := Try.isAgg4,
  z4 := Try.sizeOf4,
  v4 := Try.zeroValue4,
  t5 := Try.underlying5,
  a5 := Try.isAgg5,
  z5 := Try.sizeOf5,
  v5 := Try.zeroValue5,
  t9 := Try.underlying9,
  a9 := Try.isAgg9,
  z9 := Try.sizeOf9,
  v9 := Try.zeroValue9,
  t22 := Try.underlying26,
  a22 := Try.isAgg26,
  z22 := Try.sizeOf26,
  v22 := Try.zeroValue26,
  t25 := Try.underlying55,
  a25 := Try.isAgg55,
  z25 := Try.sizeOf55,
  v25 := Try.zeroValue55,
  t39 := Try.underlying67,
  a39 := Try.isAgg67,
  z39 := Try.sizeOf67,
  v39 := Try.zeroValue67,
  t45 := Try.underlying74,
  a45 := Try.isAgg74,
  z45 := Try.sizeOf74,
  v45 := Try.zeroValue74,
  t46 := Try.underlying75,
  a46 := Try.isAgg75,
  z46 := Try.sizeOf75,
  v46 := Try.zeroValue75,
  t50 := Try.underlying79,
  a50 := Try.isAgg79,
  z50 := Try.sizeOf79,
  v50 := Try.zeroValue79,
  t53 := Try.underlying82,
  a53 := Try.isAgg82,
  z53 := Try.sizeOf82,
  v53 := Try.zeroValue82,
  t55 := Try.underlying84,
  a55 := Try.isAgg84,
  z55 := Try.sizeOf84,
  v55 := Try.zeroValue84,
  t66 := Try.underlying90,
  a66 := Try.isAgg90,
  z66 := Try.sizeOf90,
  v66 := Try.zeroValue90,
  t70 := Try.underlying94,
  a70 := Try.isAgg94,
  z70 := Try.sizeOf94,
  v70 := Try.zeroValue94,
  t76 := Try.underlying98,
  a76 := Try.isAgg98,
  z76 := Try.sizeOf98,
  v76 := Try.zeroValue98,
  t77 := Try.underlying99,
  a77 := Try.isAgg99,
  z77 := Try.sizeOf99,
  v77 := Try.zeroValue99 }
def Try.cmpInt_ren : Go.Shelf.Ren := ⟨fun | 5 => 19 | 7 => 29 | n => n, fun | 22 => 3 | 3 => 3 | 4 => 4 | n => n, fun | n => n⟩
theorem Try.cmpInt : Go.Proofs.SlLaysC2.n5 Try.prog Try.cmpInt_ren := {
  mixed := by kernel_rfl,
  f5 := ⟨Try.f19.name, by decide, Try.func19.trans (congrArg some (by kernel_rfl))⟩,
  f7 := ⟨Try.f29.name, by decide, Try.func29.trans (congrArg some (by kernel_rfl))⟩,
  t3 := Try.underlying3,
  a3 := Try.isAgg3,
  z3 := Try.sizeOf3,
  v3 := Try.zeroValue3,
  t4 := Try.underlying4,
  a4 := Try.isAgg4,
  z4 := Try.sizeOf4,
  v4 := Try.zeroValue4,
  t22 := Try.underlying3,
  a22 := Try.isAgg3,
  z22 := Try.sizeOf3,
  v22 := Try.zeroValue3 }
set_option maxHeartbeats 1000000 in
theorem Try.closure18 (x y : Int × Int) (W : World) : Calls Try.prog 18 #[.agg #[.int .i64 x.1, .int .i64 x.2], .agg #[.int .i64 y.1, .int .i64 y.2]] W fun e w' => e = .returned (.int .i64 (Lib.compareInt x.1 y.1)) ∧ ∃ q os', w' = grow (W.drewN q) os' := by
  have hcon := fun W' => AnyG.cmp_Compare_int Try.cmpInt x.1 y.1 W'
  change ∀ W', Calls Try.prog 19 _ _ _ at hcon
  generalize Lib.compareInt x.1 y.1 = r at hcon ⊢
  go_enter Try.func18, Try.ntmps18
  go_wp2_with (go_at_call 19; refine (hcon _).mono ?_; rintro e w' ⟨rfl, rfl⟩)
  go_ret
  exact ⟨rfl, 0, _, by rw [alloc_eq_grow, alloc_eq_grow, grow_grow]; rfl⟩
theorem Try.cmpLays18 (blk off size : Nat) (w : World) : CmpLays Try.prog 18 #[] Vx.enc2 2 (fun x y => Lib.compareInt x.1 y.1) blk off size w :=
  fun _ _ _ _ x y => Try.closure18 x y _
theorem Try.ltLo (x y : Int × Int) : ltOf (fun x y : Int × Int => Lib.compareInt x.1 y.1) x y = decide (x.1 < y.1) := by
  unfold ltOf Lib.compareInt
  by_cases h1 : x.1 < y.1
  · simp [h1]
  · by_cases h2 : y.1 < x.1 <;> simp [h1, h2]
theorem Try.swoLo : SWO (ltOf fun x y : Int × Int => Lib.compareInt x.1 y.1) where
  irrefl x := by rw [Try.ltLo]; simp
  trans x y z h1 h2 := by rw [Try.ltLo] at *; simp at *; omega
  ntrans x y z h1 h2 := by rw [Try.ltLo] at *; simp at *; omega
end Go.Proofs
namespace Go.Proofs.Ytcoanfhjgmndcaa
open Go Vx Go.Proofs
theorem f17_ok (n : Nat) (hn : n ≤ 17592186044416) (a b : Nat → Int) : FSpec Try.prog 17 [.sl 0 0 n, .fn (.func 18) [] []] [some ⟨41, 2, .arr n (icol2 a b)⟩] (fun r H' => r = .tup [] ∧ ∃ a' b', H' = [some ⟨41, 2, .arr n (icol2 a' b')⟩] ∧ ((List.range n).map fun i => (a' i, b' i)).Perm ((List.range n).map fun i => (a i, b i)) ∧ ∀ i j, i < j → j < n → a' i ≤ a' j) := by
  have eg : ∀ args w, (callFunc 18 args).run Try.prog w = .ok (.enter 18 args) w := enters_of Try.func18 (by kernel_rfl) rfl
  refine (sort2 (lt := ltOf fun x y : Int × Int => Lib.compareInt x.1 y.1) hn (fun blk off cap d w hH hblk hsz => ?_) (fun cap w => ?_)).mono ?_
  · exact AnyQ.slices_SortFunc Try.sortP 2 Try.isAgg41 Try.sizeOf41 Vx.enc2 (fun _ => rfl) (fun x v hv => by simp [Vx.enc2] at hv; rcases hv with rfl | rfl <;> rfl) (fun x y => Lib.compareInt x.1 y.1) Try.swoLo 18 #[] blk off cap d w eg (Try.cmpLays18 blk off d.size w) hH hblk hsz
  · exact AnyF.slices_SortFunc_none Try.sortP none cap _ w
  · rintro r H' ⟨h1, a', b', h2, h3, h4⟩
    refine ⟨h1, a', b', h2, h3, fun i j hij hj => ?_⟩
    have := h4 i j hij hj
    rw [Try.ltLo] at this
    simpa using this
end Go.Proofs.Ytcoanfhjgmndcaa

/- Pairs of brackets, plain. -/
namespace Go.Proofs.Ytcoanfhjgmndcaa

/-- The last place below n of a kind. -/
def findB (f : Nat → Bool) : Nat → Option Nat
  | 0 => none
  | k + 1 => if f k then some k else findB f k
theorem findB_some {f : Nat → Bool} : ∀ {n k : Nat}, findB f n = some k → k < n ∧ f k = true ∧ ∀ j, k < j → j < n → f j = false
  | 0, _, h => by simp [findB] at h
  | n + 1, k, h => by
    rw [findB] at h
    split at h
    · rename_i hf
      injection h with h
      subst h
      exact ⟨by omega, hf, fun j h1 h2 => by omega⟩
    · rename_i hf
      obtain ⟨h1, h2, h3⟩ := findB_some h
      refine ⟨by omega, h2, fun j h4 h5 => ?_⟩
      by_cases e : j = n
      · subst e; simpa using hf
      · exact h3 j h4 (by omega)
theorem findB_none {f : Nat → Bool} : ∀ {n : Nat}, findB f n = none → ∀ j, j < n → f j = false
  | 0, _, j, hj => by omega
  | n + 1, h, j, hj => by
    rw [findB] at h
    split at h
    · cases h
    · rename_i hf
      by_cases e : j = n
      · subst e; simpa using hf
      · exact findB_none h j (by omega)
/-- What counts at a place: 1 opens, 2 closes. -/
def kindM (mn : Nat) (l kd : Nat → Int) (i : Nat) : Nat := if i < mn ∧ l i = 13 then (if kd i = 1 then 1 else if kd i = 2 then 2 else 0) else 0
structure PS where
  st : List Nat
  out : List (Nat × Nat)
  stop : Bool
def pstep (id : Nat → Int) (k i : Nat) (s : PS) : PS :=
  if s.stop then s
  else if k = 1 then (if s.st.length = 63 then { s with stop := true } else { s with st := s.st ++ [i] })
  else if k = 2 then (match findB (fun q => id (s.st.getD q 0) == id i) s.st.length with
    | none => s
    | some q => { s with st := s.st.take q, out := s.out ++ [(s.st.getD q 0, i)] })
  else s
def prun (mn : Nat) (l kd id : Nat → Int) : Nat → PS
  | 0 => ⟨[], [], false⟩
  | i + 1 => pstep id (kindM mn l kd i) i (prun mn l kd id i)

/-- What holds of the stack, and of the pairs. -/
structure PInv (mn : Nat) (l kd id : Nat → Int) (i : Nat) (s : PS) : Prop where
  inc : s.st.Pairwise (· < ·)
  st : ∀ x ∈ s.st, x < i ∧ kindM mn l kd x = 1
  out : ∀ p ∈ s.out, p.1 < p.2 ∧ p.2 < i ∧ kindM mn l kd p.1 = 1 ∧ kindM mn l kd p.2 = 2 ∧ id p.1 = id p.2
  apart : ∀ p ∈ s.out, ∀ x ∈ s.st, x < p.1 ∨ p.2 < x
  nest : ∀ p ∈ s.out, ∀ q ∈ s.out, p.1 < q.1 → q.2 < p.2 ∨ p.2 < q.1
  nodup : (s.out.map (·.1)).Nodup
  len : s.st.length ≤ 63 ∧ s.st.length + 2 * s.out.length ≤ i
theorem pinv (mn : Nat) (l kd id : Nat → Int) : ∀ i, PInv mn l kd id i (prun mn l kd id i)
  | 0 => ⟨.nil, by simp [prun], by simp [prun], by simp [prun], by simp [prun], by simp [prun], by simp [prun]⟩
  | i + 1 => by
    have h := pinv mn l kd id i
    rw [prun]
    generalize prun mn l kd id i = s at h
    have keep : PInv mn l kd id (i + 1) s := ⟨h.inc, fun x hx => ⟨by have := (h.st x hx).1; omega, (h.st x hx).2⟩, fun p hp => by obtain ⟨a, b, c⟩ := h.out p hp; exact ⟨a, by omega, c⟩, h.apart, h.nest, h.nodup, by have := h.len; omega⟩
    unfold pstep
    split
    · exact keep
    split
    · rename_i hk
      split
      · exact ⟨keep.inc, keep.st, keep.out, keep.apart, keep.nest, keep.nodup, keep.len⟩
      · rename_i h63
        refine ⟨?_, fun x hx => ?_, keep.out, fun p hp x hx => ?_, keep.nest, keep.nodup, ?_⟩
        · rw [List.pairwise_append]
          exact ⟨h.inc, List.pairwise_singleton _ _, fun a ha b hb => by simp at hb; subst hb; exact (h.st a ha).1⟩
        · simp only [List.mem_append, List.mem_singleton] at hx
          rcases hx with hx | rfl
          · exact keep.st x hx
          · exact ⟨by omega, hk⟩
        · simp only [List.mem_append, List.mem_singleton] at hx
          rcases hx with hx | rfl
          · exact h.apart p hp x hx
          · right; exact (h.out p hp).2.1
        · have := h.len
          simp only [List.length_append, List.length_cons, List.length_nil]
          omega
    split
    · rename_i hk1 hk
      split
      · exact keep
      · rename_i q hf
        obtain ⟨f1, f2, f3⟩ := findB_some hf
        have hx : s.st.getD q 0 = s.st[q] := by rw [List.getD_eq_getElem?_getD, List.getElem?_eq_getElem f1]; rfl
        have hmem : s.st[q] ∈ s.st := List.getElem_mem f1
        rw [hx] at f2 ⊢
        have f2' : id s.st[q] = id i := by simpa using f2
        obtain ⟨g1, g2⟩ := h.st _ hmem
        have hlt : ∀ x ∈ s.st.take q, x < s.st[q] := by
          intro x hx
          obtain ⟨j, hj, rfl⟩ := List.getElem_of_mem hx
          simp only [List.length_take] at hj
          rw [List.getElem_take]
          exact List.pairwise_iff_getElem.1 h.inc j q (by omega) f1 (by omega)
        refine ⟨h.inc.sublist (List.take_sublist _ _), fun x hx => keep.st x (List.mem_of_mem_take hx), fun p hp => ?_, fun p hp x hx => ?_, fun p hp r hr hpr => ?_, ?_, ?_⟩
        · simp only [List.mem_append, List.mem_singleton] at hp
          rcases hp with hp | rfl
          · exact keep.out p hp
          · exact ⟨g1, by simp, g2, hk, f2'⟩
        · simp only [List.mem_append, List.mem_singleton] at hp
          rcases hp with hp | rfl
          · exact h.apart p hp x (List.mem_of_mem_take hx)
          · left; exact hlt x hx
        · simp only [List.mem_append, List.mem_singleton] at hp hr
          rcases hp with hp | rfl <;> rcases hr with hr | rfl
          · exact h.nest p hp r hr hpr
          · have h1 := h.apart p hp _ hmem
            simp only at hpr ⊢
            omega
          · left
            have := (h.out r hr).2.1
            simp only
            exact this
          · simp only at hpr; omega
        · rw [List.map_append, List.nodup_append]
          refine ⟨h.nodup, by simp, fun a ha b hb => ?_⟩
          simp only [List.map_cons, List.map_nil, List.mem_singleton] at hb
          subst hb
          obtain ⟨p, hp, rfl⟩ := List.mem_map.1 ha
          have h1 := h.apart p hp _ hmem
          have h2 := (h.out p hp).1
          omega
        · have := h.len
          simp only [List.length_take, List.length_append, List.length_cons, List.length_nil]
          omega
    · exact keep
end Go.Proofs.Ytcoanfhjgmndcaa

/- Pairs of brackets, plain: in order. -/
namespace Go.Proofs.Ytcoanfhjgmndcaa

theorem strict_ext : ∀ (l l' : List (Nat × Nat)), l.Pairwise (fun a b => a.1 < b.1) → l'.Pairwise (fun a b => a.1 < b.1) → (∀ x, x ∈ l ↔ x ∈ l') → l = l'
  | [], l', _, _, h => by
    cases l' with
    | nil => rfl
    | cons y l' => exact absurd ((h y).2 (by simp)) (by simp)
  | x :: l, l', h1, h2, h => by
    cases l' with
    | nil => exact absurd ((h x).1 (by simp)) (by simp)
    | cons y l' =>
      rw [List.pairwise_cons] at h1 h2
      have exy : x = y := by
        have hx := (h x).1 (by simp)
        have hy := (h y).2 (by simp)
        simp only [List.mem_cons] at hx hy
        rcases hx with hx | hx
        · exact hx
        · rcases hy with hy | hy
          · exact hy.symm
          · have a := h2.1 x hx
            have b := h1.1 y hy
            omega
      subst exy
      rw [strict_ext l l' h1.2 h2.2 fun z => ?_]
      constructor
      · intro hz
        have := (h z).1 (by simp [hz])
        simp only [List.mem_cons] at this
        rcases this with rfl | this
        · have := h1.1 z hz; omega
        · exact this
      · intro hz
        have := (h z).2 (by simp [hz])
        simp only [List.mem_cons] at this
        rcases this with rfl | this
        · have := h2.1 z hz; omega
        · exact this
/-- A place's other one; 0: none. -/
def part (out : List (Nat × Nat)) (i : Nat) : Nat := match out.find? (fun q => q.1 == i) with | some q => q.2 | none => 0
theorem part_mem {out : List (Nat × Nat)} (hn : (out.map (·.1)).Nodup) (h0 : ∀ p ∈ out, 0 < p.2) (i b : Nat) : (i, b) ∈ out ↔ part out i = b ∧ 0 < b := by
  unfold part
  constructor
  · intro h
    refine ⟨?_, h0 _ h⟩
    cases hf : out.find? (fun q => q.1 == i) with
    | none =>
      have := List.find?_eq_none.1 hf _ h
      simp at this
    | some q =>
      have h1 := List.find?_some hf
      have h2 := List.mem_of_find?_eq_some hf
      have h3 : q.1 = i := by simpa using h1
      have : q = (i, b) := by
        rw [List.nodup_iff_pairwise_ne, List.pairwise_map] at hn
        obtain ⟨j, hj, ej⟩ := List.getElem_of_mem h2
        obtain ⟨k, hk, ek⟩ := List.getElem_of_mem h
        rcases Nat.lt_trichotomy j k with hlt | heq | hlt
        · have := List.pairwise_iff_getElem.1 hn j k hj hk hlt
          rw [ej, ek] at this; exact absurd h3 this
        · subst heq; rw [← ej, ← ek]
        · have := List.pairwise_iff_getElem.1 hn k j hk hj hlt
          rw [ej, ek] at this; exact absurd h3.symm this
      rw [this]
  · rintro ⟨h1, h2⟩
    cases hf : out.find? (fun q => q.1 == i) with
    | none => rw [hf] at h1; simp only at h1; omega
    | some q =>
      rw [hf] at h1
      simp only at h1
      have h3 := List.find?_some hf
      have h4 := List.mem_of_find?_eq_some hf
      have : q.1 = i := by simpa using h3
      obtain ⟨q1, q2⟩ := q
      simp only at h1 this
      subst h1 this
      exact h4
def canon (out : List (Nat × Nat)) (ln : Nat) : List (Nat × Nat) := (List.range ln).filterMap fun i => if 0 < part out i then some (i, part out i) else none
theorem canon_mem (out : List (Nat × Nat)) (ln i b : Nat) : (i, b) ∈ canon out ln ↔ i < ln ∧ part out i = b ∧ 0 < b := by
  unfold canon
  rw [List.mem_filterMap]
  constructor
  · rintro ⟨j, hj, h⟩
    split at h
    · injection h with h
      injection h with e1 e2
      subst e1 e2
      rename_i h0
      exact ⟨by simpa using hj, rfl, h0⟩
    · cases h
  · rintro ⟨h1, h2, h3⟩
    exact ⟨i, by simpa using h1, by rw [if_pos (by omega), h2]⟩
theorem canon_inc (out : List (Nat × Nat)) (ln : Nat) : (canon out ln).Pairwise (fun a b => a.1 < b.1) := by
  unfold canon
  rw [List.pairwise_filterMap]
  refine List.Pairwise.imp ?_ (List.pairwise_lt_range)
  intro a b hab x hx y hy
  split at hx
  · split at hy
    · injection hx with hx
      injection hy with hy
      subst hx hy
      exact hab
    · cases hy
  · cases hx
theorem canon_succ (out : List (Nat × Nat)) (i : Nat) : canon out (i + 1) = canon out i ++ (if 0 < part out i then [(i, part out i)] else []) := by
  unfold canon
  rw [List.range_succ, List.filterMap_append]
  congr 1
  simp only [List.filterMap_cons, List.filterMap_nil]
  split <;> rename_i h <;> split at h <;> simp_all
/-- A list of pairs in order is the canonical one. -/
theorem sorted_canon {out d : List (Nat × Nat)} {ln : Nat} (hn : (out.map (·.1)).Nodup) (h0 : ∀ p ∈ out, p.1 < p.2 ∧ p.2 < ln) (hp : d.Perm out) (hs : d.Pairwise (fun a b => a.1 ≤ b.1)) : d = canon out ln := by
  have hd : (d.map (·.1)).Nodup := (hp.map _).nodup_iff.2 hn
  refine strict_ext _ _ ?_ (canon_inc out ln) fun x => ?_
  · rw [List.nodup_iff_pairwise_ne, List.pairwise_map] at hd
    exact List.Pairwise.imp (fun ⟨h1, h2⟩ => by omega) (hs.and hd)
  · obtain ⟨i, b⟩ := x
    rw [hp.mem_iff, canon_mem, part_mem hn (fun p hp => by have := h0 p hp; omega)]
    constructor
    · rintro ⟨h1, h2⟩
      have := h0 (i, b) ((part_mem hn (fun p hp => by have := h0 p hp; omega) i b).2 ⟨h1, h2⟩)
      exact ⟨by simp only at this; omega, h1, h2⟩
    · rintro ⟨_, h1, h2⟩
      exact ⟨h1, h2⟩
/-- All pairs, in order. -/
def pairsL (ln mn : Nat) (l kd id : Nat → Int) : List (Nat × Nat) := canon (prun mn l kd id (min mn ln)).out ln
theorem prun_stay (mn : Nat) (l kd id : Nat → Int) : ∀ d, prun mn l kd id (mn + d) = prun mn l kd id mn
  | 0 => rfl
  | d + 1 => by
    rw [show mn + (d + 1) = mn + d + 1 by omega, prun, prun_stay mn l kd id d]
    have : kindM mn l kd (mn + d) = 0 := by unfold kindM; rw [if_neg (by omega)]
    unfold pstep
    rw [this]
    split
    · rfl
    · rw [if_neg (by decide), if_neg (by decide)]
theorem prun_min (ln mn : Nat) (l kd id : Nat → Int) : prun mn l kd id (min mn ln) = prun mn l kd id ln := by
  by_cases h : mn ≤ ln
  · rw [Nat.min_eq_left h]
    have := prun_stay mn l kd id (ln - mn)
    rw [show mn + (ln - mn) = ln by omega] at this
    exact this.symm
  · rw [Nat.min_eq_right (by omega)]
theorem prun_stop (mn : Nat) (l kd id : Nat → Int) (i : Nat) (h : (prun mn l kd id i).stop = true) : ∀ d, prun mn l kd id (i + d) = prun mn l kd id i
  | 0 => rfl
  | d + 1 => by
    rw [show i + (d + 1) = i + d + 1 by omega, prun, prun_stop mn l kd id i h d, pstep, if_pos h]
theorem part_snoc {out : List (Nat × Nat)} (a b i : Nat) (hn : ∀ p ∈ out, p.1 ≠ a) : part (out ++ [(a, b)]) i = if i = a then b else part out i := by
  unfold part
  rw [List.find?_append]
  by_cases e : i = a
  · subst e
    rw [if_pos rfl]
    have : out.find? (fun q => q.1 == i) = none := List.find?_eq_none.2 fun p hp => by simpa using hn p hp
    rw [this]
    simp
  · rw [if_neg e]
    cases out.find? (fun q => q.1 == i) with
    | none => simp [Ne.symm e]
    | some q => rfl
end Go.Proofs.Ytcoanfhjgmndcaa
