/- Contracts of functions by an evaluator of the model: its part T5. -/
import Derived.Test.YtcoanfhjgmndcaaT4
set_option linter.all false
/- The reference's Resolve. -/
namespace Go.Proofs.Ytcoanfhjgmndcaa
open Go Vx

theorem aheadL_two (l : Nat → Int) (first : Int) (hf : first = 0 ∨ first = 1) : ∀ n, aheadL l first n = 0 ∨ aheadL l first n = 1
  | 0 => hf
  | n + 1 => by
    rw [aheadL]
    split
    · exact aheadL_two l first hf n
    · rename_i h
      unfold strC at h ⊢
      by_cases h1 : l n = 0
      · simp [h1]
      · by_cases h2 : l n = 1 ∨ l n = 3 ∨ l n = 6
        · simp [h1, h2]
        · simp [h1, h2] at h
theorem f23_z (ln a b : Nat) (ha : a < b) (hb : b ≤ ln) (l : Nat → Int) (sd z y : Int) (hz : z = a) (hy : y = b) (hl : ln ≤ 17592186044416) (R : Bool) (hR : R = true ↔ hasL l (a + 1) (b - (a + 1)) sd) : FSpec Try.prog 23 [.sl 0 0 ln, .agg [.int .i64 z, .int .i64 y], .int .i64 sd] [some ⟨32, 1, .arr ln (icol .i64 l)⟩] (fun r H' => r = .bool R ∧ H' = [some ⟨32, 1, .arr ln (icol .i64 l)⟩]) := by
  subst hz hy
  exact f23_ok ln a b ha hb l sd hl R hR
theorem f24_z (ln a : Nat) (ha : a ≤ ln) (l : Nat → Int) (first z : Int) (hz : z = a) (hl : ln ≤ 17592186044416) (R : Int) (hR : R = aheadL l first a) : FSpec Try.prog 24 [.sl 0 0 ln, .int .i64 z, .int .i64 first] [some ⟨32, 1, .arr ln (icol .i64 l)⟩] (fun r H' => r = .int .i64 R ∧ H' = [some ⟨32, 1, .arr ln (icol .i64 l)⟩]) := by
  subst hz
  exact f24_ok ln a ha l first hl R hR
theorem f25_z (ln a : Nat) (ha : a < ln) (hl : ln ≤ 17592186044416) (l came : Nat → Int) (v z : Int) (hz : z = a) (l' : Nat → Int) (hl' : ∀ j, j < ln → l' j = setF came l a v j) : FSpec Try.prog 25 [.rows 1 ln (icol .i64 came), .sl 0 0 ln, .int .i64 z, .int .i64 v] [some ⟨32, 1, .arr ln (icol .i64 l)⟩] (fun r H' => r = .tup [] ∧ H' = [some ⟨32, 1, .arr ln (icol .i64 l')⟩]) := by
  subst hz
  exact f25_ok ln a ha hl l came v l' hl'
theorem bool_of (p : Prop) : ∃ b : Bool, b = true ↔ p := open Classical in ⟨decide p, by simp⟩
def H14 (ln m : Nat) (l a b : Nat → Int) : Hp := [none, some ⟨32, 1, .arr ln (icol .i64 l)⟩, some ⟨41, 2, .arr m (icol2 a b)⟩]
theorem f14_ok1 (cn ln mn : Nat) (hc : cn ≤ 1000000) (hm : mn ≤ 1000000) (hl : ln ≤ 1000000) (came l kd id : Nat → Int) (level first side : Int) (hside : side = sideOf level) (bad : Bool) (hbad : bad = true ↔ cn ≠ ln ∨ level < 0 ∨ (first ≠ 0 ∧ first ≠ 1)) (ps : List (Nat × Nat)) (hps : ps = pairsL ln mn l kd id) (l' : Nat → Int) (hl' : l' = resR came side first l ps) :
    FSpec Try.prog 14 [.rows 1 cn (icol .i64 came), .rows 1 ln (icol .i64 l), .rows 2 mn (icol2 kd id), .int .i64 level, .int .i64 first] [] (fun r H' => (bad = true ∧ r = .tup [.nil .slice, .int .i64 1] ∧ H' = []) ∨ (bad = false ∧ r = .tup [.sl 1 0 ln, .int .i64 0] ∧ ∃ x t, H' = x :: some ⟨32, 1, .arr ln (icol .i64 l')⟩ :: t)) := by
  obtain ⟨Q, hQ⟩ : ∃ Q : AV → Hp → Prop, Q = (fun r H' => (bad = true ∧ r = .tup [.nil .slice, .int .i64 1] ∧ H' = []) ∨ (bad = false ∧ r = .tup [.sl 1 0 ln, .int .i64 0] ∧ ∃ x t, H' = x :: some ⟨32, 1, .arr ln (icol .i64 l')⟩ :: t)) := ⟨_, rfl⟩
  rw [← hQ]
  have hpair := pairAt hps
  obtain ⟨ot, hot⟩ : ∃ ot, ot = turnC side := ⟨_, rfl⟩
  have hs2 : side = 0 ∨ side = 1 := by rw [hside, sideOf]; split <;> simp
  have ho2 : ot = 1 - side := by rw [hot, turnC]; rcases hs2 with h | h <;> simp [h]
  refine FSpec.of (fn := Try.f14) Try.func14 rfl rfl (by simp) fun C hC => ?_
  obtain ⟨iadd, isub, imul, iquo, irem, iband, ibor, ibxor, ibandn, ishl, ishr, iconv, ieq, ine, ilt, ile, igt, ige, bbeq, bbne, bnot, bband, sseq, ssne, sscat, sssub, sslen, sssz, ssbyte, toN, ofN, addN, subN, eqN, ltB, leN, imx, imn, inb, leb, sslt, ltN, fit, ne0, ge0, ssfit, minN, inR, hS⟩ := names
  refine V.goF (by first | exact trivial | assumption) Try.func14 tl_ok mixed hS.ops [] 400 ?_
  intro VV VA W hVV hVA hW
  conv => cbv
  cases h1 : ine (ofN cn) (ofN ln)
  · conv => cbv
    simp (disch := first | omega | (simp only [hS.glob, wraps, plain, Int.ofNat_eq_natCast]; omega)) only [hS.glob, wraps, plain, Int.ofNat_eq_natCast] at h1
    obtain rfl : ln = cn := by omega
    cases h2 : ilt level 0
    · conv => cbv
      simp (disch := first | omega | (simp only [hS.glob, wraps, plain, Int.ofNat_eq_natCast]; omega)) only [hS.glob, wraps, plain, Int.ofNat_eq_natCast] at h2
      cases h3 : ine first 0
      · conv => cbv
        simp (disch := first | omega | (simp only [hS.glob, wraps, plain, Int.ofNat_eq_natCast]; omega)) only [hS.glob, wraps, plain, Int.ofNat_eq_natCast] at h3
        obtain hb : bad = false := by cases bad with | false => rfl | true => have := hbad.1 rfl; omega
        have hf : first = 0 ∨ first = 1 := .inl h3
        repeat (refine ⟨by first | (rw [hW]; show ordOk _ _ _ = true; kernel_rfl) | (first | trivial | omega | (simp (disch := omega) only [hS.glob, wraps, plain, Int.ofNat_eq_natCast]; first | done | omega | trivial | (simp; done) | (simp; omega) | (constructor <;> omega)) | (simp (disch := omega) only [hS.glob, wraps, plain, Int.ofNat_eq_natCast, Vx.toN]; omega)), ?_⟩)
        try simp only [hS.tidy]
        cases h8 : ieq (irem level 2) 1
        · conv => cbv
          simp (disch := first | omega | (simp only [hS.glob, wraps, plain, Int.ofNat_eq_natCast]; omega)) only [hS.glob, wraps, plain, Int.ofNat_eq_natCast] at h8
          have e0 : (0 : Int) = side := by rw [hside, sideOf, if_neg h8]
          have e1 : (1 : Int) = ot := by rw [hot, ← e0]; rfl
          rw [hVV]
          clear hVV hVA VV VA hW W
          refine V.to (s' := [(45, .rows 2 mn (icol2 kd id)), (44, .rows 1 ln (icol .i64 l)), (12, .sl 1 0 ln), (13, .int .i64 side), (14, .int .i64 ot), (0, .rows 1 ln (icol .i64 came)), (4, .int .i64 first)]) (H' := [none, some ⟨32, 1, .arr ln (icol .i64 l)⟩]) ?_ (by rw [← e1, ← e0]; (repeat' first | exact trivial | rfl | (refine And.intro ?_ ?_) | (refine sti ?_; (first | rfl | omega | (simp (disch := omega) only [hS.glob, wraps, plain, Int.ofNat_eq_natCast]; first | done | rfl | omega | (simp; done) | (simp; omega)) | (simp (disch := omega) only [hS.glob, wraps, plain, Int.ofNat_eq_natCast, Vx.toN]; omega))) | (refine slq ?_ ?_ ?_ <;> (first | rfl | omega | (simp (disch := omega) only [hS.glob, wraps, plain, Int.ofNat_eq_natCast]; first | done | rfl | omega | (simp; done) | (simp; omega)) | (simp (disch := omega) only [hS.glob, wraps, plain, Int.ofNat_eq_natCast, Vx.toN]; omega))) | (refine ptq ?_ ?_ ?_ <;> (first | rfl | omega | (simp (disch := omega) only [hS.glob, wraps, plain, Int.ofNat_eq_natCast]; first | done | rfl | omega | (simp; done) | (simp; omega)) | (simp (disch := omega) only [hS.glob, wraps, plain, Int.ofNat_eq_natCast, Vx.toN]; omega))) | (refine blq ?_; (first | rfl | omega | (simp (disch := omega) only [hS.glob, wraps, plain, Int.ofNat_eq_natCast]; first | done | rfl | omega | (simp; done) | (simp; omega)) | (simp (disch := omega) only [hS.glob, wraps, plain, Int.ofNat_eq_natCast, Vx.toN]; omega))))) rfl ⟨⟨rfl, rfl, ⟨Nat.le_refl _, fun j hj => by simp [hS.glob, Vx.ltB]⟩, rfl⟩, trivial⟩ (by rw [hC]; exact Nat.zero_le _)
          clear e0 e1
          refine V.call rfl rfl rfl rfl rfl Try.func12 rfl (by decide) [] (by simp) (by simp) (by (first | rfl | ((conv => cbv); (repeat' apply And.intro) <;> first | rfl | trivial | (first | rfl | omega | (simp (disch := omega) only [hS.glob, wraps, plain, Int.ofNat_eq_natCast]; first | done | rfl | omega | (simp; done) | (simp; omega)) | (simp (disch := omega) only [hS.glob, wraps, plain, Int.ofNat_eq_natCast, Vx.toN]; omega))))) rfl (f12_ok ln mn hm hl l kd id) ?_
          rintro r Hc ⟨m, a, b, rfl, rfl, htab⟩
          refine V.goF (by first | exact trivial | assumption) Try.func14 tl_ok mixed hS.ops [] 400 ?_
          intro VV VA W hVV hVA hW
          conv => cbv
          rw [← hps] at htab
          obtain ⟨G, hG0, hGs, hGm⟩ := foldG came side first l ps
          have hml : m = ps.length := by have := congrArg List.length htab; simpa [tab] using this
          have hm3 : m ≤ 1000000 := by have := pairsL_len ln mn l kd id; rw [← hps] at this; omega
          rw [hVV]
          clear hVV hVA VV VA hW W
          refine V.to (s' := [(16, .int .i64 (ofN 0)), (15, .sl 2 0 m), (12, .sl 1 0 ln), (13, .int .i64 side), (14, .int .i64 ot), (0, .rows 1 ln (icol .i64 came)), (4, .int .i64 first)]) (H' := H14 ln m (G 0) a b) ?_ (by (repeat' first | exact trivial | rfl | (refine And.intro ?_ ?_) | (refine sti ?_; (first | rfl | omega | (simp (disch := omega) only [hS.glob, wraps, plain, Int.ofNat_eq_natCast]; first | done | rfl | omega | (simp; done) | (simp; omega)) | (simp (disch := omega) only [hS.glob, wraps, plain, Int.ofNat_eq_natCast, Vx.toN]; omega))) | (refine slq ?_ ?_ ?_ <;> (first | rfl | omega | (simp (disch := omega) only [hS.glob, wraps, plain, Int.ofNat_eq_natCast]; first | done | rfl | omega | (simp; done) | (simp; omega)) | (simp (disch := omega) only [hS.glob, wraps, plain, Int.ofNat_eq_natCast, Vx.toN]; omega))) | (refine ptq ?_ ?_ ?_ <;> (first | rfl | omega | (simp (disch := omega) only [hS.glob, wraps, plain, Int.ofNat_eq_natCast]; first | done | rfl | omega | (simp; done) | (simp; omega)) | (simp (disch := omega) only [hS.glob, wraps, plain, Int.ofNat_eq_natCast, Vx.toN]; omega))) | (refine blq ?_; (first | rfl | omega | (simp (disch := omega) only [hS.glob, wraps, plain, Int.ofNat_eq_natCast]; first | done | rfl | omega | (simp; done) | (simp; omega)) | (simp (disch := omega) only [hS.glob, wraps, plain, Int.ofNat_eq_natCast, Vx.toN]; omega))))) rfl (by rw [hG0]; unfold H14; (repeat' first | exact trivial | rfl | exact Nat.le_refl _ | exact (fun _ _ => rfl) | (refine And.intro ?_ ?_) | (simp only [hS.glob, plain]; first | done | omega))) (by rw [hC]; exact Nat.zero_le _)
          refine V.loop (γ := Nat) (fun i => i ≤ m) (fun i => [(16, .int .i64 (ofN i)), (15, .sl 2 0 m), (12, .sl 1 0 ln), (13, .int .i64 side), (14, .int .i64 ot), (0, .rows 1 ln (icol .i64 came)), (4, .int .i64 first)]) (fun i => H14 ln m (G i) a b) (fun i => m - i) ?_ 0 (Nat.zero_le _)
          rintro i hi hback
          refine V.goF (by first | exact trivial | assumption) Try.func14 tl_ok mixed hS.ops [] 400 ?_
          intro VV VA W hVV hVA hW
          conv => cbv
          cases h9 : ilt (ofN i) (ofN m)
          · conv => cbv
            simp (disch := first | omega | (simp only [hS.glob, wraps, plain, Int.ofNat_eq_natCast]; omega)) only [hS.glob, wraps, plain, Int.ofNat_eq_natCast] at h9
            rw [hQ, hl', ← hGm, ← hml, show i = m by omega]
            exact .inr ⟨hb, rfl, _, _, rfl⟩
          · conv => cbv
            simp (disch := first | omega | (simp only [hS.glob, wraps, plain, Int.ofNat_eq_natCast]; omega)) only [hS.glob, wraps, plain, Int.ofNat_eq_natCast] at h9
            repeat (refine ⟨by first | (rw [hW]; show ordOk _ _ _ = true; kernel_rfl) | (first | trivial | omega | (simp (disch := omega) only [hS.glob, wraps, plain, Int.ofNat_eq_natCast]; first | done | omega | trivial | (simp; done) | (simp; omega) | (constructor <;> omega)) | (simp (disch := omega) only [hS.glob, wraps, plain, Int.ofNat_eq_natCast, Vx.toN]; omega)), ?_⟩)
            simp only [hS.tidy]
            have hi2 : i < ps.length := by omega
            obtain ⟨q1, q2, q3, q4⟩ := hpair i hi2 a b htab
            have hst := hGs i hi2
            generalize ps[i] = p at q1 q2 q3 q4 hst
            obtain ⟨o, e⟩ := p
            simp only at q1 q2 q3 q4
            obtain ⟨own, hown⟩ : ∃ b : Bool, b = true ↔ hasL (G i) (o + 1) (e - (o + 1)) side := bool_of _
            obtain ⟨trn, htrn⟩ : ∃ b : Bool, b = true ↔ hasL (G i) (o + 1) (e - (o + 1)) ot := bool_of _
            obtain ⟨A, hA⟩ : ∃ A, A = aheadL (G i) first o := ⟨_, rfl⟩
            have hA2 := aheadL_two (G i) first hf o
            rw [← hA] at hA2
            have hst2 : G (i + 1) = pairL came (G i) o e (pairSd own trn side A) := by
              rw [hst, stepR, hA, ← hot]
              congr 2
              · exact Bool.eq_iff_iff.2 (by rw [hown]; simp)
              · exact Bool.eq_iff_iff.2 (by rw [htrn]; simp)
            clear hst
            rw [hVV]
            clear hVV hVA VV VA hW W
            refine V.call rfl rfl rfl rfl rfl Try.func23 rfl (by decide) [1] (by decide) (all_lt (by rfl)) (by (first | rfl | ((conv => cbv); (repeat' apply And.intro) <;> first | rfl | trivial | (first | rfl | omega | (simp (disch := omega) only [hS.glob, wraps, plain, Int.ofNat_eq_natCast]; first | done | rfl | omega | (simp; done) | (simp; omega)) | (simp (disch := omega) only [hS.glob, wraps, plain, Int.ofNat_eq_natCast, Vx.toN]; omega))))) (by rfl) (f23_z ln o e q1 (by omega) (G i) side (a i) (b i) q3 q4 (by omega) own hown) ?_
            rintro r Hc ⟨rfl, rfl⟩
            refine V.goF (by first | exact trivial | assumption) Try.func14 tl_ok mixed hS.ops [] 400 ?_
            intro VV VA W hVV hVA hW
            conv => cbv
            rw [hVV]
            clear hVV hVA VV VA hW W
            refine V.call rfl rfl rfl rfl rfl Try.func23 rfl (by decide) [1] (by decide) (all_lt (by rfl)) (by (first | rfl | ((conv => cbv); (repeat' apply And.intro) <;> first | rfl | trivial | (first | rfl | omega | (simp (disch := omega) only [hS.glob, wraps, plain, Int.ofNat_eq_natCast]; first | done | rfl | omega | (simp; done) | (simp; omega)) | (simp (disch := omega) only [hS.glob, wraps, plain, Int.ofNat_eq_natCast, Vx.toN]; omega))))) (by rfl) (f23_z ln o e q1 (by omega) (G i) ot (a i) (b i) q3 q4 (by omega) trn htrn) ?_
            rintro r Hc ⟨rfl, rfl⟩
            refine V.goF (by first | exact trivial | assumption) Try.func14 tl_ok mixed hS.ops [] 400 ?_
            intro VV VA W hVV hVA hW
            conv => cbv
            cases own
            · conv => cbv
              cases trn
              · conv => cbv
                have hst3 : G (i + 1) = G i := by rw [hst2]; simp [pairSd, pairL]
                have e13 : ine 13 13 = false := by simp (disch := first | omega | (simp only [hS.glob, wraps, plain, Int.ofNat_eq_natCast]; omega)) only [hS.glob, wraps, plain, Int.ofNat_eq_natCast]
                simp only [e13]
                conv => cbv
                rw [hVV]
                clear hVV hVA VV VA hW W
                exact V.to (hback (i + 1) (by omega) (by omega)) (by (repeat' first | exact trivial | rfl | (refine And.intro ?_ ?_) | (refine sti ?_; (first | rfl | omega | (simp (disch := omega) only [hS.glob, wraps, plain, Int.ofNat_eq_natCast]; first | done | rfl | omega | (simp; done) | (simp; omega)) | (simp (disch := omega) only [hS.glob, wraps, plain, Int.ofNat_eq_natCast, Vx.toN]; omega))) | (refine slq ?_ ?_ ?_ <;> (first | rfl | omega | (simp (disch := omega) only [hS.glob, wraps, plain, Int.ofNat_eq_natCast]; first | done | rfl | omega | (simp; done) | (simp; omega)) | (simp (disch := omega) only [hS.glob, wraps, plain, Int.ofNat_eq_natCast, Vx.toN]; omega))) | (refine ptq ?_ ?_ ?_ <;> (first | rfl | omega | (simp (disch := omega) only [hS.glob, wraps, plain, Int.ofNat_eq_natCast]; first | done | rfl | omega | (simp; done) | (simp; omega)) | (simp (disch := omega) only [hS.glob, wraps, plain, Int.ofNat_eq_natCast, Vx.toN]; omega))) | (refine blq ?_; (first | rfl | omega | (simp (disch := omega) only [hS.glob, wraps, plain, Int.ofNat_eq_natCast]; first | done | rfl | omega | (simp; done) | (simp; omega)) | (simp (disch := omega) only [hS.glob, wraps, plain, Int.ofNat_eq_natCast, Vx.toN]; omega))))) rfl (by unfold H14; rw [hst3]; (repeat' first | exact trivial | rfl | exact Nat.le_refl _ | exact (fun _ _ => rfl) | (refine And.intro ?_ ?_) | (simp only [hS.glob, plain]; first | done | omega))) (by rw [hC]; exact Nat.zero_le _)
              · conv => cbv
                repeat (refine ⟨by first | (rw [hW]; show ordOk _ _ _ = true; kernel_rfl) | (first | trivial | omega | (simp (disch := omega) only [hS.glob, wraps, plain, Int.ofNat_eq_natCast]; first | done | omega | trivial | (simp; done) | (simp; omega) | (constructor <;> omega)) | (simp (disch := omega) only [hS.glob, wraps, plain, Int.ofNat_eq_natCast, Vx.toN]; omega)), ?_⟩)
                try simp only [hS.tidy]
                rw [hVV]
                clear hVV hVA VV VA hW W
                refine V.call rfl rfl rfl rfl rfl Try.func24 rfl (by decide) [1] (by decide) (all_lt (by rfl)) (by (first | rfl | ((conv => cbv); (repeat' apply And.intro) <;> first | rfl | trivial | (first | rfl | omega | (simp (disch := omega) only [hS.glob, wraps, plain, Int.ofNat_eq_natCast]; first | done | rfl | omega | (simp; done) | (simp; omega)) | (simp (disch := omega) only [hS.glob, wraps, plain, Int.ofNat_eq_natCast, Vx.toN]; omega))))) (by rfl) (f24_z ln o (by omega) (G i) first (a i) q3 (by omega) A hA) ?_
                rintro r Hc ⟨rfl, rfl⟩
                refine V.goF (by first | exact trivial | assumption) Try.func14 tl_ok mixed hS.ops [] 400 ?_
                intro VV VA W hVV hVA hW
                conv => cbv
                cases h11 : ieq A ot
                · conv => cbv
                  simp (disch := first | omega | (simp only [hS.glob, wraps, plain, Int.ofNat_eq_natCast]; omega)) only [hS.glob, wraps, plain, Int.ofNat_eq_natCast] at h11
                  have hst3 : G (i + 1) = setF came (setF came (G i) o side) e side := by rw [hst2]; simp [pairSd, pairL, show A = side by omega]
                  obtain ⟨l1, hl1⟩ : ∃ l1, l1 = setF came (G i) o side := ⟨_, rfl⟩
                  rw [← hl1] at hst3
                  cases h10 : ine side 13
                  · conv => cbv
                    simp (disch := first | omega | (simp only [hS.glob, wraps, plain, Int.ofNat_eq_natCast]; omega)) only [hS.glob, wraps, plain, Int.ofNat_eq_natCast] at h10
                    omega
                  · conv => cbv
                    repeat (refine ⟨by first | (rw [hW]; show ordOk _ _ _ = true; kernel_rfl) | (first | trivial | omega | (simp (disch := omega) only [hS.glob, wraps, plain, Int.ofNat_eq_natCast]; first | done | omega | trivial | (simp; done) | (simp; omega) | (constructor <;> omega)) | (simp (disch := omega) only [hS.glob, wraps, plain, Int.ofNat_eq_natCast, Vx.toN]; omega)), ?_⟩)
                    try simp only [hS.tidy]
                    rw [hVV]
                    clear hVV hVA VV VA hW W
                    refine V.call rfl rfl rfl rfl rfl Try.func25 rfl (by decide) [1] (by decide) (all_lt (by rfl)) (by (first | rfl | ((conv => cbv); (repeat' apply And.intro) <;> first | rfl | trivial | (first | rfl | omega | (simp (disch := omega) only [hS.glob, wraps, plain, Int.ofNat_eq_natCast]; first | done | rfl | omega | (simp; done) | (simp; omega)) | (simp (disch := omega) only [hS.glob, wraps, plain, Int.ofNat_eq_natCast, Vx.toN]; omega))))) (by rfl) (f25_z ln o (by omega) (by omega) (G i) came side (a i) q3 l1 (fun j _ => by rw [hl1])) ?_
                    rintro r Hc ⟨rfl, rfl⟩
                    refine V.goF (by first | exact trivial | assumption) Try.func14 tl_ok mixed hS.ops [] 400 ?_
                    intro VV VA W hVV hVA hW
                    conv => cbv
                    repeat (refine ⟨by first | (rw [hW]; show ordOk _ _ _ = true; kernel_rfl) | (first | trivial | omega | (simp (disch := omega) only [hS.glob, wraps, plain, Int.ofNat_eq_natCast]; first | done | omega | trivial | (simp; done) | (simp; omega) | (constructor <;> omega)) | (simp (disch := omega) only [hS.glob, wraps, plain, Int.ofNat_eq_natCast, Vx.toN]; omega)), ?_⟩)
                    try simp only [hS.tidy]
                    rw [hVV]
                    clear hVV hVA VV VA hW W
                    refine V.call rfl rfl rfl rfl rfl Try.func25 rfl (by decide) [1] (by decide) (all_lt (by rfl)) (by (first | rfl | ((conv => cbv); (repeat' apply And.intro) <;> first | rfl | trivial | (first | rfl | omega | (simp (disch := omega) only [hS.glob, wraps, plain, Int.ofNat_eq_natCast]; first | done | rfl | omega | (simp; done) | (simp; omega)) | (simp (disch := omega) only [hS.glob, wraps, plain, Int.ofNat_eq_natCast, Vx.toN]; omega))))) (by rfl) (f25_z ln e (by omega) (by omega) l1 came side (b i) q4 (G (i + 1)) (fun j _ => by rw [hst3])) ?_
                    rintro r Hc ⟨rfl, rfl⟩
                    refine V.goF (by first | exact trivial | assumption) Try.func14 tl_ok mixed hS.ops [] 400 ?_
                    intro VV VA W hVV hVA hW
                    conv => cbv
                    rw [hVV]
                    clear hVV hVA VV VA hW W
                    exact V.to (hback (i + 1) (by omega) (by omega)) (by (repeat' first | exact trivial | rfl | (refine And.intro ?_ ?_) | (refine sti ?_; (first | rfl | omega | (simp (disch := omega) only [hS.glob, wraps, plain, Int.ofNat_eq_natCast]; first | done | rfl | omega | (simp; done) | (simp; omega)) | (simp (disch := omega) only [hS.glob, wraps, plain, Int.ofNat_eq_natCast, Vx.toN]; omega))) | (refine slq ?_ ?_ ?_ <;> (first | rfl | omega | (simp (disch := omega) only [hS.glob, wraps, plain, Int.ofNat_eq_natCast]; first | done | rfl | omega | (simp; done) | (simp; omega)) | (simp (disch := omega) only [hS.glob, wraps, plain, Int.ofNat_eq_natCast, Vx.toN]; omega))) | (refine ptq ?_ ?_ ?_ <;> (first | rfl | omega | (simp (disch := omega) only [hS.glob, wraps, plain, Int.ofNat_eq_natCast]; first | done | rfl | omega | (simp; done) | (simp; omega)) | (simp (disch := omega) only [hS.glob, wraps, plain, Int.ofNat_eq_natCast, Vx.toN]; omega))) | (refine blq ?_; (first | rfl | omega | (simp (disch := omega) only [hS.glob, wraps, plain, Int.ofNat_eq_natCast]; first | done | rfl | omega | (simp; done) | (simp; omega)) | (simp (disch := omega) only [hS.glob, wraps, plain, Int.ofNat_eq_natCast, Vx.toN]; omega))))) rfl (by unfold H14; (repeat' first | exact trivial | rfl | exact Nat.le_refl _ | exact (fun _ _ => rfl) | (refine And.intro ?_ ?_) | (simp only [hS.glob, plain]; first | done | omega))) (by rw [hC]; exact Nat.zero_le _)
                · conv => cbv
                  simp (disch := first | omega | (simp only [hS.glob, wraps, plain, Int.ofNat_eq_natCast]; omega)) only [hS.glob, wraps, plain, Int.ofNat_eq_natCast] at h11
                  have hst3 : G (i + 1) = setF came (setF came (G i) o ot) e ot := by rw [hst2]; simp [pairSd, pairL, show ¬ A = side by omega, ← hot]
                  obtain ⟨l1, hl1⟩ : ∃ l1, l1 = setF came (G i) o ot := ⟨_, rfl⟩
                  rw [← hl1] at hst3
                  cases h10 : ine ot 13
                  · conv => cbv
                    simp (disch := first | omega | (simp only [hS.glob, wraps, plain, Int.ofNat_eq_natCast]; omega)) only [hS.glob, wraps, plain, Int.ofNat_eq_natCast] at h10
                    omega
                  · conv => cbv
                    repeat (refine ⟨by first | (rw [hW]; show ordOk _ _ _ = true; kernel_rfl) | (first | trivial | omega | (simp (disch := omega) only [hS.glob, wraps, plain, Int.ofNat_eq_natCast]; first | done | omega | trivial | (simp; done) | (simp; omega) | (constructor <;> omega)) | (simp (disch := omega) only [hS.glob, wraps, plain, Int.ofNat_eq_natCast, Vx.toN]; omega)), ?_⟩)
                    try simp only [hS.tidy]
                    rw [hVV]
                    clear hVV hVA VV VA hW W
                    refine V.call rfl rfl rfl rfl rfl Try.func25 rfl (by decide) [1] (by decide) (all_lt (by rfl)) (by (first | rfl | ((conv => cbv); (repeat' apply And.intro) <;> first | rfl | trivial | (first | rfl | omega | (simp (disch := omega) only [hS.glob, wraps, plain, Int.ofNat_eq_natCast]; first | done | rfl | omega | (simp; done) | (simp; omega)) | (simp (disch := omega) only [hS.glob, wraps, plain, Int.ofNat_eq_natCast, Vx.toN]; omega))))) (by rfl) (f25_z ln o (by omega) (by omega) (G i) came ot (a i) q3 l1 (fun j _ => by rw [hl1])) ?_
                    rintro r Hc ⟨rfl, rfl⟩
                    refine V.goF (by first | exact trivial | assumption) Try.func14 tl_ok mixed hS.ops [] 400 ?_
                    intro VV VA W hVV hVA hW
                    conv => cbv
                    repeat (refine ⟨by first | (rw [hW]; show ordOk _ _ _ = true; kernel_rfl) | (first | trivial | omega | (simp (disch := omega) only [hS.glob, wraps, plain, Int.ofNat_eq_natCast]; first | done | omega | trivial | (simp; done) | (simp; omega) | (constructor <;> omega)) | (simp (disch := omega) only [hS.glob, wraps, plain, Int.ofNat_eq_natCast, Vx.toN]; omega)), ?_⟩)
                    try simp only [hS.tidy]
                    rw [hVV]
                    clear hVV hVA VV VA hW W
                    refine V.call rfl rfl rfl rfl rfl Try.func25 rfl (by decide) [1] (by decide) (all_lt (by rfl)) (by (first | rfl | ((conv => cbv); (repeat' apply And.intro) <;> first | rfl | trivial | (first | rfl | omega | (simp (disch := omega) only [hS.glob, wraps, plain, Int.ofNat_eq_natCast]; first | done | rfl | omega | (simp; done) | (simp; omega)) | (simp (disch := omega) only [hS.glob, wraps, plain, Int.ofNat_eq_natCast, Vx.toN]; omega))))) (by rfl) (f25_z ln e (by omega) (by omega) l1 came ot (b i) q4 (G (i + 1)) (fun j _ => by rw [hst3])) ?_
                    rintro r Hc ⟨rfl, rfl⟩
                    refine V.goF (by first | exact trivial | assumption) Try.func14 tl_ok mixed hS.ops [] 400 ?_
                    intro VV VA W hVV hVA hW
                    conv => cbv
                    rw [hVV]
                    clear hVV hVA VV VA hW W
                    exact V.to (hback (i + 1) (by omega) (by omega)) (by (repeat' first | exact trivial | rfl | (refine And.intro ?_ ?_) | (refine sti ?_; (first | rfl | omega | (simp (disch := omega) only [hS.glob, wraps, plain, Int.ofNat_eq_natCast]; first | done | rfl | omega | (simp; done) | (simp; omega)) | (simp (disch := omega) only [hS.glob, wraps, plain, Int.ofNat_eq_natCast, Vx.toN]; omega))) | (refine slq ?_ ?_ ?_ <;> (first | rfl | omega | (simp (disch := omega) only [hS.glob, wraps, plain, Int.ofNat_eq_natCast]; first | done | rfl | omega | (simp; done) | (simp; omega)) | (simp (disch := omega) only [hS.glob, wraps, plain, Int.ofNat_eq_natCast, Vx.toN]; omega))) | (refine ptq ?_ ?_ ?_ <;> (first | rfl | omega | (simp (disch := omega) only [hS.glob, wraps, plain, Int.ofNat_eq_natCast]; first | done | rfl | omega | (simp; done) | (simp; omega)) | (simp (disch := omega) only [hS.glob, wraps, plain, Int.ofNat_eq_natCast, Vx.toN]; omega))) | (refine blq ?_; (first | rfl | omega | (simp (disch := omega) only [hS.glob, wraps, plain, Int.ofNat_eq_natCast]; first | done | rfl | omega | (simp; done) | (simp; omega)) | (simp (disch := omega) only [hS.glob, wraps, plain, Int.ofNat_eq_natCast, Vx.toN]; omega))))) rfl (by unfold H14; (repeat' first | exact trivial | rfl | exact Nat.le_refl _ | exact (fun _ _ => rfl) | (refine And.intro ?_ ?_) | (simp only [hS.glob, plain]; first | done | omega))) (by rw [hC]; exact Nat.zero_le _)
            · conv => cbv
              have hst3 : G (i + 1) = setF came (setF came (G i) o side) e side := by rw [hst2]; simp [pairSd, pairL]
              obtain ⟨l1, hl1⟩ : ∃ l1, l1 = setF came (G i) o side := ⟨_, rfl⟩
              rw [← hl1] at hst3
              cases h10 : ine side 13
              · conv => cbv
                simp (disch := first | omega | (simp only [hS.glob, wraps, plain, Int.ofNat_eq_natCast]; omega)) only [hS.glob, wraps, plain, Int.ofNat_eq_natCast] at h10
                omega
              · conv => cbv
                repeat (refine ⟨by first | (rw [hW]; show ordOk _ _ _ = true; kernel_rfl) | (first | trivial | omega | (simp (disch := omega) only [hS.glob, wraps, plain, Int.ofNat_eq_natCast]; first | done | omega | trivial | (simp; done) | (simp; omega) | (constructor <;> omega)) | (simp (disch := omega) only [hS.glob, wraps, plain, Int.ofNat_eq_natCast, Vx.toN]; omega)), ?_⟩)
                try simp only [hS.tidy]
                rw [hVV]
                clear hVV hVA VV VA hW W
                refine V.call rfl rfl rfl rfl rfl Try.func25 rfl (by decide) [1] (by decide) (all_lt (by rfl)) (by (first | rfl | ((conv => cbv); (repeat' apply And.intro) <;> first | rfl | trivial | (first | rfl | omega | (simp (disch := omega) only [hS.glob, wraps, plain, Int.ofNat_eq_natCast]; first | done | rfl | omega | (simp; done) | (simp; omega)) | (simp (disch := omega) only [hS.glob, wraps, plain, Int.ofNat_eq_natCast, Vx.toN]; omega))))) (by rfl) (f25_z ln o (by omega) (by omega) (G i) came side (a i) q3 l1 (fun j _ => by rw [hl1])) ?_
                rintro r Hc ⟨rfl, rfl⟩
                refine V.goF (by first | exact trivial | assumption) Try.func14 tl_ok mixed hS.ops [] 400 ?_
                intro VV VA W hVV hVA hW
                conv => cbv
                repeat (refine ⟨by first | (rw [hW]; show ordOk _ _ _ = true; kernel_rfl) | (first | trivial | omega | (simp (disch := omega) only [hS.glob, wraps, plain, Int.ofNat_eq_natCast]; first | done | omega | trivial | (simp; done) | (simp; omega) | (constructor <;> omega)) | (simp (disch := omega) only [hS.glob, wraps, plain, Int.ofNat_eq_natCast, Vx.toN]; omega)), ?_⟩)
                try simp only [hS.tidy]
                rw [hVV]
                clear hVV hVA VV VA hW W
                refine V.call rfl rfl rfl rfl rfl Try.func25 rfl (by decide) [1] (by decide) (all_lt (by rfl)) (by (first | rfl | ((conv => cbv); (repeat' apply And.intro) <;> first | rfl | trivial | (first | rfl | omega | (simp (disch := omega) only [hS.glob, wraps, plain, Int.ofNat_eq_natCast]; first | done | rfl | omega | (simp; done) | (simp; omega)) | (simp (disch := omega) only [hS.glob, wraps, plain, Int.ofNat_eq_natCast, Vx.toN]; omega))))) (by rfl) (f25_z ln e (by omega) (by omega) l1 came side (b i) q4 (G (i + 1)) (fun j _ => by rw [hst3])) ?_
                rintro r Hc ⟨rfl, rfl⟩
                refine V.goF (by first | exact trivial | assumption) Try.func14 tl_ok mixed hS.ops [] 400 ?_
                intro VV VA W hVV hVA hW
                conv => cbv
                rw [hVV]
                clear hVV hVA VV VA hW W
                exact V.to (hback (i + 1) (by omega) (by omega)) (by (repeat' first | exact trivial | rfl | (refine And.intro ?_ ?_) | (refine sti ?_; (first | rfl | omega | (simp (disch := omega) only [hS.glob, wraps, plain, Int.ofNat_eq_natCast]; first | done | rfl | omega | (simp; done) | (simp; omega)) | (simp (disch := omega) only [hS.glob, wraps, plain, Int.ofNat_eq_natCast, Vx.toN]; omega))) | (refine slq ?_ ?_ ?_ <;> (first | rfl | omega | (simp (disch := omega) only [hS.glob, wraps, plain, Int.ofNat_eq_natCast]; first | done | rfl | omega | (simp; done) | (simp; omega)) | (simp (disch := omega) only [hS.glob, wraps, plain, Int.ofNat_eq_natCast, Vx.toN]; omega))) | (refine ptq ?_ ?_ ?_ <;> (first | rfl | omega | (simp (disch := omega) only [hS.glob, wraps, plain, Int.ofNat_eq_natCast]; first | done | rfl | omega | (simp; done) | (simp; omega)) | (simp (disch := omega) only [hS.glob, wraps, plain, Int.ofNat_eq_natCast, Vx.toN]; omega))) | (refine blq ?_; (first | rfl | omega | (simp (disch := omega) only [hS.glob, wraps, plain, Int.ofNat_eq_natCast]; first | done | rfl | omega | (simp; done) | (simp; omega)) | (simp (disch := omega) only [hS.glob, wraps, plain, Int.ofNat_eq_natCast, Vx.toN]; omega))))) rfl (by unfold H14; (repeat' first | exact trivial | rfl | exact Nat.le_refl _ | exact (fun _ _ => rfl) | (refine And.intro ?_ ?_) | (simp only [hS.glob, plain]; first | done | omega))) (by rw [hC]; exact Nat.zero_le _)
        · conv => cbv
          simp (disch := first | omega | (simp only [hS.glob, wraps, plain, Int.ofNat_eq_natCast]; omega)) only [hS.glob, wraps, plain, Int.ofNat_eq_natCast] at h8
          have e0 : (1 : Int) = side := by rw [hside, sideOf, if_pos h8]
          have e1 : (0 : Int) = ot := by rw [hot, ← e0]; rfl
          rw [hVV]
          clear hVV hVA VV VA hW W
          refine V.to (s' := [(45, .rows 2 mn (icol2 kd id)), (44, .rows 1 ln (icol .i64 l)), (12, .sl 1 0 ln), (13, .int .i64 side), (14, .int .i64 ot), (0, .rows 1 ln (icol .i64 came)), (4, .int .i64 first)]) (H' := [none, some ⟨32, 1, .arr ln (icol .i64 l)⟩]) ?_ (by rw [← e1, ← e0]; (repeat' first | exact trivial | rfl | (refine And.intro ?_ ?_) | (refine sti ?_; (first | rfl | omega | (simp (disch := omega) only [hS.glob, wraps, plain, Int.ofNat_eq_natCast]; first | done | rfl | omega | (simp; done) | (simp; omega)) | (simp (disch := omega) only [hS.glob, wraps, plain, Int.ofNat_eq_natCast, Vx.toN]; omega))) | (refine slq ?_ ?_ ?_ <;> (first | rfl | omega | (simp (disch := omega) only [hS.glob, wraps, plain, Int.ofNat_eq_natCast]; first | done | rfl | omega | (simp; done) | (simp; omega)) | (simp (disch := omega) only [hS.glob, wraps, plain, Int.ofNat_eq_natCast, Vx.toN]; omega))) | (refine ptq ?_ ?_ ?_ <;> (first | rfl | omega | (simp (disch := omega) only [hS.glob, wraps, plain, Int.ofNat_eq_natCast]; first | done | rfl | omega | (simp; done) | (simp; omega)) | (simp (disch := omega) only [hS.glob, wraps, plain, Int.ofNat_eq_natCast, Vx.toN]; omega))) | (refine blq ?_; (first | rfl | omega | (simp (disch := omega) only [hS.glob, wraps, plain, Int.ofNat_eq_natCast]; first | done | rfl | omega | (simp; done) | (simp; omega)) | (simp (disch := omega) only [hS.glob, wraps, plain, Int.ofNat_eq_natCast, Vx.toN]; omega))))) rfl ⟨⟨rfl, rfl, ⟨Nat.le_refl _, fun j hj => by simp [hS.glob, Vx.ltB]⟩, rfl⟩, trivial⟩ (by rw [hC]; exact Nat.zero_le _)
          clear e0 e1
          refine V.call rfl rfl rfl rfl rfl Try.func12 rfl (by decide) [] (by simp) (by simp) (by (first | rfl | ((conv => cbv); (repeat' apply And.intro) <;> first | rfl | trivial | (first | rfl | omega | (simp (disch := omega) only [hS.glob, wraps, plain, Int.ofNat_eq_natCast]; first | done | rfl | omega | (simp; done) | (simp; omega)) | (simp (disch := omega) only [hS.glob, wraps, plain, Int.ofNat_eq_natCast, Vx.toN]; omega))))) rfl (f12_ok ln mn hm hl l kd id) ?_
          rintro r Hc ⟨m, a, b, rfl, rfl, htab⟩
          refine V.goF (by first | exact trivial | assumption) Try.func14 tl_ok mixed hS.ops [] 400 ?_
          intro VV VA W hVV hVA hW
          conv => cbv
          rw [← hps] at htab
          obtain ⟨G, hG0, hGs, hGm⟩ := foldG came side first l ps
          have hml : m = ps.length := by have := congrArg List.length htab; simpa [tab] using this
          have hm3 : m ≤ 1000000 := by have := pairsL_len ln mn l kd id; rw [← hps] at this; omega
          rw [hVV]
          clear hVV hVA VV VA hW W
          refine V.to (s' := [(16, .int .i64 (ofN 0)), (15, .sl 2 0 m), (12, .sl 1 0 ln), (13, .int .i64 side), (14, .int .i64 ot), (0, .rows 1 ln (icol .i64 came)), (4, .int .i64 first)]) (H' := H14 ln m (G 0) a b) ?_ (by (repeat' first | exact trivial | rfl | (refine And.intro ?_ ?_) | (refine sti ?_; (first | rfl | omega | (simp (disch := omega) only [hS.glob, wraps, plain, Int.ofNat_eq_natCast]; first | done | rfl | omega | (simp; done) | (simp; omega)) | (simp (disch := omega) only [hS.glob, wraps, plain, Int.ofNat_eq_natCast, Vx.toN]; omega))) | (refine slq ?_ ?_ ?_ <;> (first | rfl | omega | (simp (disch := omega) only [hS.glob, wraps, plain, Int.ofNat_eq_natCast]; first | done | rfl | omega | (simp; done) | (simp; omega)) | (simp (disch := omega) only [hS.glob, wraps, plain, Int.ofNat_eq_natCast, Vx.toN]; omega))) | (refine ptq ?_ ?_ ?_ <;> (first | rfl | omega | (simp (disch := omega) only [hS.glob, wraps, plain, Int.ofNat_eq_natCast]; first | done | rfl | omega | (simp; done) | (simp; omega)) | (simp (disch := omega) only [hS.glob, wraps, plain, Int.ofNat_eq_natCast, Vx.toN]; omega))) | (refine blq ?_; (first | rfl | omega | (simp (disch := omega) only [hS.glob, wraps, plain, Int.ofNat_eq_natCast]; first | done | rfl | omega | (simp; done) | (simp; omega)) | (simp (disch := omega) only [hS.glob, wraps, plain, Int.ofNat_eq_natCast, Vx.toN]; omega))))) rfl (by rw [hG0]; unfold H14; (repeat' first | exact trivial | rfl | exact Nat.le_refl _ | exact (fun _ _ => rfl) | (refine And.intro ?_ ?_) | (simp only [hS.glob, plain]; first | done | omega))) (by rw [hC]; exact Nat.zero_le _)
          refine V.loop (γ := Nat) (fun i => i ≤ m) (fun i => [(16, .int .i64 (ofN i)), (15, .sl 2 0 m), (12, .sl 1 0 ln), (13, .int .i64 side), (14, .int .i64 ot), (0, .rows 1 ln (icol .i64 came)), (4, .int .i64 first)]) (fun i => H14 ln m (G i) a b) (fun i => m - i) ?_ 0 (Nat.zero_le _)
          rintro i hi hback
          refine V.goF (by first | exact trivial | assumption) Try.func14 tl_ok mixed hS.ops [] 400 ?_
          intro VV VA W hVV hVA hW
          conv => cbv
          cases h9 : ilt (ofN i) (ofN m)
          · conv => cbv
            simp (disch := first | omega | (simp only [hS.glob, wraps, plain, Int.ofNat_eq_natCast]; omega)) only [hS.glob, wraps, plain, Int.ofNat_eq_natCast] at h9
            rw [hQ, hl', ← hGm, ← hml, show i = m by omega]
            exact .inr ⟨hb, rfl, _, _, rfl⟩
          · conv => cbv
            simp (disch := first | omega | (simp only [hS.glob, wraps, plain, Int.ofNat_eq_natCast]; omega)) only [hS.glob, wraps, plain, Int.ofNat_eq_natCast] at h9
            repeat (refine ⟨by first | (rw [hW]; show ordOk _ _ _ = true; kernel_rfl) | (first | trivial | omega | (simp (disch := omega) only [hS.glob, wraps, plain, Int.ofNat_eq_natCast]; first | done | omega | trivial | (simp; done) | (simp; omega) | (constructor <;> omega)) | (simp (disch := omega) only [hS.glob, wraps, plain, Int.ofNat_eq_natCast, Vx.toN]; omega)), ?_⟩)
            simp only [hS.tidy]
            have hi2 : i < ps.length := by omega
            obtain ⟨q1, q2, q3, q4⟩ := hpair i hi2 a b htab
            have hst := hGs i hi2
            generalize ps[i] = p at q1 q2 q3 q4 hst
            obtain ⟨o, e⟩ := p
            simp only at q1 q2 q3 q4
            obtain ⟨own, hown⟩ : ∃ b : Bool, b = true ↔ hasL (G i) (o + 1) (e - (o + 1)) side := bool_of _
            obtain ⟨trn, htrn⟩ : ∃ b : Bool, b = true ↔ hasL (G i) (o + 1) (e - (o + 1)) ot := bool_of _
            obtain ⟨A, hA⟩ : ∃ A, A = aheadL (G i) first o := ⟨_, rfl⟩
            have hA2 := aheadL_two (G i) first hf o
            rw [← hA] at hA2
            have hst2 : G (i + 1) = pairL came (G i) o e (pairSd own trn side A) := by
              rw [hst, stepR, hA, ← hot]
              congr 2
              · exact Bool.eq_iff_iff.2 (by rw [hown]; simp)
              · exact Bool.eq_iff_iff.2 (by rw [htrn]; simp)
            clear hst
            rw [hVV]
            clear hVV hVA VV VA hW W
            refine V.call rfl rfl rfl rfl rfl Try.func23 rfl (by decide) [1] (by decide) (all_lt (by rfl)) (by (first | rfl | ((conv => cbv); (repeat' apply And.intro) <;> first | rfl | trivial | (first | rfl | omega | (simp (disch := omega) only [hS.glob, wraps, plain, Int.ofNat_eq_natCast]; first | done | rfl | omega | (simp; done) | (simp; omega)) | (simp (disch := omega) only [hS.glob, wraps, plain, Int.ofNat_eq_natCast, Vx.toN]; omega))))) (by rfl) (f23_z ln o e q1 (by omega) (G i) side (a i) (b i) q3 q4 (by omega) own hown) ?_
            rintro r Hc ⟨rfl, rfl⟩
            refine V.goF (by first | exact trivial | assumption) Try.func14 tl_ok mixed hS.ops [] 400 ?_
            intro VV VA W hVV hVA hW
            conv => cbv
            rw [hVV]
            clear hVV hVA VV VA hW W
            refine V.call rfl rfl rfl rfl rfl Try.func23 rfl (by decide) [1] (by decide) (all_lt (by rfl)) (by (first | rfl | ((conv => cbv); (repeat' apply And.intro) <;> first | rfl | trivial | (first | rfl | omega | (simp (disch := omega) only [hS.glob, wraps, plain, Int.ofNat_eq_natCast]; first | done | rfl | omega | (simp; done) | (simp; omega)) | (simp (disch := omega) only [hS.glob, wraps, plain, Int.ofNat_eq_natCast, Vx.toN]; omega))))) (by rfl) (f23_z ln o e q1 (by omega) (G i) ot (a i) (b i) q3 q4 (by omega) trn htrn) ?_
            rintro r Hc ⟨rfl, rfl⟩
            refine V.goF (by first | exact trivial | assumption) Try.func14 tl_ok mixed hS.ops [] 400 ?_
            intro VV VA W hVV hVA hW
            conv => cbv
            cases own
            · conv => cbv
              cases trn
              · conv => cbv
                have hst3 : G (i + 1) = G i := by rw [hst2]; simp [pairSd, pairL]
                have e13 : ine 13 13 = false := by simp (disch := first | omega | (simp only [hS.glob, wraps, plain, Int.ofNat_eq_natCast]; omega)) only [hS.glob, wraps, plain, Int.ofNat_eq_natCast]
                simp only [e13]
                conv => cbv
                rw [hVV]
                clear hVV hVA VV VA hW W
                exact V.to (hback (i + 1) (by omega) (by omega)) (by (repeat' first | exact trivial | rfl | (refine And.intro ?_ ?_) | (refine sti ?_; (first | rfl | omega | (simp (disch := omega) only [hS.glob, wraps, plain, Int.ofNat_eq_natCast]; first | done | rfl | omega | (simp; done) | (simp; omega)) | (simp (disch := omega) only [hS.glob, wraps, plain, Int.ofNat_eq_natCast, Vx.toN]; omega))) | (refine slq ?_ ?_ ?_ <;> (first | rfl | omega | (simp (disch := omega) only [hS.glob, wraps, plain, Int.ofNat_eq_natCast]; first | done | rfl | omega | (simp; done) | (simp; omega)) | (simp (disch := omega) only [hS.glob, wraps, plain, Int.ofNat_eq_natCast, Vx.toN]; omega))) | (refine ptq ?_ ?_ ?_ <;> (first | rfl | omega | (simp (disch := omega) only [hS.glob, wraps, plain, Int.ofNat_eq_natCast]; first | done | rfl | omega | (simp; done) | (simp; omega)) | (simp (disch := omega) only [hS.glob, wraps, plain, Int.ofNat_eq_natCast, Vx.toN]; omega))) | (refine blq ?_; (first | rfl | omega | (simp (disch := omega) only [hS.glob, wraps, plain, Int.ofNat_eq_natCast]; first | done | rfl | omega | (simp; done) | (simp; omega)) | (simp (disch := omega) only [hS.glob, wraps, plain, Int.ofNat_eq_natCast, Vx.toN]; omega))))) rfl (by unfold H14; rw [hst3]; (repeat' first | exact trivial | rfl | exact Nat.le_refl _ | exact (fun _ _ => rfl) | (refine And.intro ?_ ?_) | (simp only [hS.glob, plain]; first | done | omega))) (by rw [hC]; exact Nat.zero_le _)
              · conv => cbv
                repeat (refine ⟨by first | (rw [hW]; show ordOk _ _ _ = true; kernel_rfl) | (first | trivial | omega | (simp (disch := omega) only [hS.glob, wraps, plain, Int.ofNat_eq_natCast]; first | done | omega | trivial | (simp; done) | (simp; omega) | (constructor <;> omega)) | (simp (disch := omega) only [hS.glob, wraps, plain, Int.ofNat_eq_natCast, Vx.toN]; omega)), ?_⟩)
                try simp only [hS.tidy]
                rw [hVV]
                clear hVV hVA VV VA hW W
                refine V.call rfl rfl rfl rfl rfl Try.func24 rfl (by decide) [1] (by decide) (all_lt (by rfl)) (by (first | rfl | ((conv => cbv); (repeat' apply And.intro) <;> first | rfl | trivial | (first | rfl | omega | (simp (disch := omega) only [hS.glob, wraps, plain, Int.ofNat_eq_natCast]; first | done | rfl | omega | (simp; done) | (simp; omega)) | (simp (disch := omega) only [hS.glob, wraps, plain, Int.ofNat_eq_natCast, Vx.toN]; omega))))) (by rfl) (f24_z ln o (by omega) (G i) first (a i) q3 (by omega) A hA) ?_
                rintro r Hc ⟨rfl, rfl⟩
                refine V.goF (by first | exact trivial | assumption) Try.func14 tl_ok mixed hS.ops [] 400 ?_
                intro VV VA W hVV hVA hW
                conv => cbv
                cases h11 : ieq A ot
                · conv => cbv
                  simp (disch := first | omega | (simp only [hS.glob, wraps, plain, Int.ofNat_eq_natCast]; omega)) only [hS.glob, wraps, plain, Int.ofNat_eq_natCast] at h11
                  have hst3 : G (i + 1) = setF came (setF came (G i) o side) e side := by rw [hst2]; simp [pairSd, pairL, show A = side by omega]
                  obtain ⟨l1, hl1⟩ : ∃ l1, l1 = setF came (G i) o side := ⟨_, rfl⟩
                  rw [← hl1] at hst3
                  cases h10 : ine side 13
                  · conv => cbv
                    simp (disch := first | omega | (simp only [hS.glob, wraps, plain, Int.ofNat_eq_natCast]; omega)) only [hS.glob, wraps, plain, Int.ofNat_eq_natCast] at h10
                    omega
                  · conv => cbv
                    repeat (refine ⟨by first | (rw [hW]; show ordOk _ _ _ = true; kernel_rfl) | (first | trivial | omega | (simp (disch := omega) only [hS.glob, wraps, plain, Int.ofNat_eq_natCast]; first | done | omega | trivial | (simp; done) | (simp; omega) | (constructor <;> omega)) | (simp (disch := omega) only [hS.glob, wraps, plain, Int.ofNat_eq_natCast, Vx.toN]; omega)), ?_⟩)
                    try simp only [hS.tidy]
                    rw [hVV]
                    clear hVV hVA VV VA hW W
                    refine V.call rfl rfl rfl rfl rfl Try.func25 rfl (by decide) [1] (by decide) (all_lt (by rfl)) (by (first | rfl | ((conv => cbv); (repeat' apply And.intro) <;> first | rfl | trivial | (first | rfl | omega | (simp (disch := omega) only [hS.glob, wraps, plain, Int.ofNat_eq_natCast]; first | done | rfl | omega | (simp; done) | (simp; omega)) | (simp (disch := omega) only [hS.glob, wraps, plain, Int.ofNat_eq_natCast, Vx.toN]; omega))))) (by rfl) (f25_z ln o (by omega) (by omega) (G i) came side (a i) q3 l1 (fun j _ => by rw [hl1])) ?_
                    rintro r Hc ⟨rfl, rfl⟩
                    refine V.goF (by first | exact trivial | assumption) Try.func14 tl_ok mixed hS.ops [] 400 ?_
                    intro VV VA W hVV hVA hW
                    conv => cbv
                    repeat (refine ⟨by first | (rw [hW]; show ordOk _ _ _ = true; kernel_rfl) | (first | trivial | omega | (simp (disch := omega) only [hS.glob, wraps, plain, Int.ofNat_eq_natCast]; first | done | omega | trivial | (simp; done) | (simp; omega) | (constructor <;> omega)) | (simp (disch := omega) only [hS.glob, wraps, plain, Int.ofNat_eq_natCast, Vx.toN]; omega)), ?_⟩)
                    try simp only [hS.tidy]
                    rw [hVV]
                    clear hVV hVA VV VA hW W
                    refine V.call rfl rfl rfl rfl rfl Try.func25 rfl (by decide) [1] (by decide) (all_lt (by rfl)) (by (first | rfl | ((conv => cbv); (repeat' apply And.intro) <;> first | rfl | trivial | (first | rfl | omega | (simp (disch := omega) only [hS.glob, wraps, plain, Int.ofNat_eq_natCast]; first | done | rfl | omega | (simp; done) | (simp; omega)) | (simp (disch := omega) only [hS.glob, wraps, plain, Int.ofNat_eq_natCast, Vx.toN]; omega))))) (by rfl) (f25_z ln e (by omega) (by omega) l1 came side (b i) q4 (G (i + 1)) (fun j _ => by rw [hst3])) ?_
                    rintro r Hc ⟨rfl, rfl⟩
                    refine V.goF (by first | exact trivial | assumption) Try.func14 tl_ok mixed hS.ops [] 400 ?_
                    intro VV VA W hVV hVA hW
                    conv => cbv
                    rw [hVV]
                    clear hVV hVA VV VA hW W
                    exact V.to (hback (i + 1) (by omega) (by omega)) (by (repeat' first | exact trivial | rfl | (refine And.intro ?_ ?_) | (refine sti ?_; (first | rfl | omega | (simp (disch := omega) only [hS.glob, wraps, plain, Int.ofNat_eq_natCast]; first | done | rfl | omega | (simp; done) | (simp; omega)) | (simp (disch := omega) only [hS.glob, wraps, plain, Int.ofNat_eq_natCast, Vx.toN]; omega))) | (refine slq ?_ ?_ ?_ <;> (first | rfl | omega | (simp (disch := omega) only [hS.glob, wraps, plain, Int.ofNat_eq_natCast]; first | done | rfl | omega | (simp; done) | (simp; omega)) | (simp (disch := omega) only [hS.glob, wraps, plain, Int.ofNat_eq_natCast, Vx.toN]; omega))) | (refine ptq ?_ ?_ ?_ <;> (first | rfl | omega | (simp (disch := omega) only [hS.glob, wraps, plain, Int.ofNat_eq_natCast]; first | done | rfl | omega | (simp; done) | (simp; omega)) | (simp (disch := omega) only [hS.glob, wraps, plain, Int.ofNat_eq_natCast, Vx.toN]; omega))) | (refine blq ?_; (first | rfl | omega | (simp (disch := omega) only [hS.glob, wraps, plain, Int.ofNat_eq_natCast]; first | done | rfl | omega | (simp; done) | (simp; omega)) | (simp (disch := omega) only [hS.glob, wraps, plain, Int.ofNat_eq_natCast, Vx.toN]; omega))))) rfl (by unfold H14; (repeat' first | exact trivial | rfl | exact Nat.le_refl _ | exact (fun _ _ => rfl) | (refine And.intro ?_ ?_) | (simp only [hS.glob, plain]; first | done | omega))) (by rw [hC]; exact Nat.zero_le _)
                · conv => cbv
                  simp (disch := first | omega | (simp only [hS.glob, wraps, plain, Int.ofNat_eq_natCast]; omega)) only [hS.glob, wraps, plain, Int.ofNat_eq_natCast] at h11
                  have hst3 : G (i + 1) = setF came (setF came (G i) o ot) e ot := by rw [hst2]; simp [pairSd, pairL, show ¬ A = side by omega, ← hot]
                  obtain ⟨l1, hl1⟩ : ∃ l1, l1 = setF came (G i) o ot := ⟨_, rfl⟩
                  rw [← hl1] at hst3
                  cases h10 : ine ot 13
                  · conv => cbv
                    simp (disch := first | omega | (simp only [hS.glob, wraps, plain, Int.ofNat_eq_natCast]; omega)) only [hS.glob, wraps, plain, Int.ofNat_eq_natCast] at h10
                    omega
                  · conv => cbv
                    repeat (refine ⟨by first | (rw [hW]; show ordOk _ _ _ = true; kernel_rfl) | (first | trivial | omega | (simp (disch := omega) only [hS.glob, wraps, plain, Int.ofNat_eq_natCast]; first | done | omega | trivial | (simp; done) | (simp; omega) | (constructor <;> omega)) | (simp (disch := omega) only [hS.glob, wraps, plain, Int.ofNat_eq_natCast, Vx.toN]; omega)), ?_⟩)
                    try simp only [hS.tidy]
                    rw [hVV]
                    clear hVV hVA VV VA hW W
                    refine V.call rfl rfl rfl rfl rfl Try.func25 rfl (by decide) [1] (by decide) (all_lt (by rfl)) (by (first | rfl | ((conv => cbv); (repeat' apply And.intro) <;> first | rfl | trivial | (first | rfl | omega | (simp (disch := omega) only [hS.glob, wraps, plain, Int.ofNat_eq_natCast]; first | done | rfl | omega | (simp; done) | (simp; omega)) | (simp (disch := omega) only [hS.glob, wraps, plain, Int.ofNat_eq_natCast, Vx.toN]; omega))))) (by rfl) (f25_z ln o (by omega) (by omega) (G i) came ot (a i) q3 l1 (fun j _ => by rw [hl1])) ?_
                    rintro r Hc ⟨rfl, rfl⟩
                    refine V.goF (by first | exact trivial | assumption) Try.func14 tl_ok mixed hS.ops [] 400 ?_
                    intro VV VA W hVV hVA hW
                    conv => cbv
                    repeat (refine ⟨by first | (rw [hW]; show ordOk _ _ _ = true; kernel_rfl) | (first | trivial | omega | (simp (disch := omega) only [hS.glob, wraps, plain, Int.ofNat_eq_natCast]; first | done | omega | trivial | (simp; done) | (simp; omega) | (constructor <;> omega)) | (simp (disch := omega) only [hS.glob, wraps, plain, Int.ofNat_eq_natCast, Vx.toN]; omega)), ?_⟩)
                    try simp only [hS.tidy]
                    rw [hVV]
                    clear hVV hVA VV VA hW W
                    refine V.call rfl rfl rfl rfl rfl Try.func25 rfl (by decide) [1] (by decide) (all_lt (by rfl)) (by (first | rfl | ((conv => cbv); (repeat' apply And.intro) <;> first | rfl | trivial | (first | rfl | omega | (simp (disch := omega) only [hS.glob, wraps, plain, Int.ofNat_eq_natCast]; first | done | rfl | omega | (simp; done) | (simp; omega)) | (simp (disch := omega) only [hS.glob, wraps, plain, Int.ofNat_eq_natCast, Vx.toN]; omega))))) (by rfl) (f25_z ln e (by omega) (by omega) l1 came ot (b i) q4 (G (i + 1)) (fun j _ => by rw [hst3])) ?_
                    rintro r Hc ⟨rfl, rfl⟩
                    refine V.goF (by first | exact trivial | assumption) Try.func14 tl_ok mixed hS.ops [] 400 ?_
                    intro VV VA W hVV hVA hW
                    conv => cbv
                    rw [hVV]
                    clear hVV hVA VV VA hW W
                    exact V.to (hback (i + 1) (by omega) (by omega)) (by (repeat' first | exact trivial | rfl | (refine And.intro ?_ ?_) | (refine sti ?_; (first | rfl | omega | (simp (disch := omega) only [hS.glob, wraps, plain, Int.ofNat_eq_natCast]; first | done | rfl | omega | (simp; done) | (simp; omega)) | (simp (disch := omega) only [hS.glob, wraps, plain, Int.ofNat_eq_natCast, Vx.toN]; omega))) | (refine slq ?_ ?_ ?_ <;> (first | rfl | omega | (simp (disch := omega) only [hS.glob, wraps, plain, Int.ofNat_eq_natCast]; first | done | rfl | omega | (simp; done) | (simp; omega)) | (simp (disch := omega) only [hS.glob, wraps, plain, Int.ofNat_eq_natCast, Vx.toN]; omega))) | (refine ptq ?_ ?_ ?_ <;> (first | rfl | omega | (simp (disch := omega) only [hS.glob, wraps, plain, Int.ofNat_eq_natCast]; first | done | rfl | omega | (simp; done) | (simp; omega)) | (simp (disch := omega) only [hS.glob, wraps, plain, Int.ofNat_eq_natCast, Vx.toN]; omega))) | (refine blq ?_; (first | rfl | omega | (simp (disch := omega) only [hS.glob, wraps, plain, Int.ofNat_eq_natCast]; first | done | rfl | omega | (simp; done) | (simp; omega)) | (simp (disch := omega) only [hS.glob, wraps, plain, Int.ofNat_eq_natCast, Vx.toN]; omega))))) rfl (by unfold H14; (repeat' first | exact trivial | rfl | exact Nat.le_refl _ | exact (fun _ _ => rfl) | (refine And.intro ?_ ?_) | (simp only [hS.glob, plain]; first | done | omega))) (by rw [hC]; exact Nat.zero_le _)
            · conv => cbv
              have hst3 : G (i + 1) = setF came (setF came (G i) o side) e side := by rw [hst2]; simp [pairSd, pairL]
              obtain ⟨l1, hl1⟩ : ∃ l1, l1 = setF came (G i) o side := ⟨_, rfl⟩
              rw [← hl1] at hst3
              cases h10 : ine side 13
              · conv => cbv
                simp (disch := first | omega | (simp only [hS.glob, wraps, plain, Int.ofNat_eq_natCast]; omega)) only [hS.glob, wraps, plain, Int.ofNat_eq_natCast] at h10
                omega
              · conv => cbv
                repeat (refine ⟨by first | (rw [hW]; show ordOk _ _ _ = true; kernel_rfl) | (first | trivial | omega | (simp (disch := omega) only [hS.glob, wraps, plain, Int.ofNat_eq_natCast]; first | done | omega | trivial | (simp; done) | (simp; omega) | (constructor <;> omega)) | (simp (disch := omega) only [hS.glob, wraps, plain, Int.ofNat_eq_natCast, Vx.toN]; omega)), ?_⟩)
                try simp only [hS.tidy]
                rw [hVV]
                clear hVV hVA VV VA hW W
                refine V.call rfl rfl rfl rfl rfl Try.func25 rfl (by decide) [1] (by decide) (all_lt (by rfl)) (by (first | rfl | ((conv => cbv); (repeat' apply And.intro) <;> first | rfl | trivial | (first | rfl | omega | (simp (disch := omega) only [hS.glob, wraps, plain, Int.ofNat_eq_natCast]; first | done | rfl | omega | (simp; done) | (simp; omega)) | (simp (disch := omega) only [hS.glob, wraps, plain, Int.ofNat_eq_natCast, Vx.toN]; omega))))) (by rfl) (f25_z ln o (by omega) (by omega) (G i) came side (a i) q3 l1 (fun j _ => by rw [hl1])) ?_
                rintro r Hc ⟨rfl, rfl⟩
                refine V.goF (by first | exact trivial | assumption) Try.func14 tl_ok mixed hS.ops [] 400 ?_
                intro VV VA W hVV hVA hW
                conv => cbv
                repeat (refine ⟨by first | (rw [hW]; show ordOk _ _ _ = true; kernel_rfl) | (first | trivial | omega | (simp (disch := omega) only [hS.glob, wraps, plain, Int.ofNat_eq_natCast]; first | done | omega | trivial | (simp; done) | (simp; omega) | (constructor <;> omega)) | (simp (disch := omega) only [hS.glob, wraps, plain, Int.ofNat_eq_natCast, Vx.toN]; omega)), ?_⟩)
                try simp only [hS.tidy]
                rw [hVV]
                clear hVV hVA VV VA hW W
                refine V.call rfl rfl rfl rfl rfl Try.func25 rfl (by decide) [1] (by decide) (all_lt (by rfl)) (by (first | rfl | ((conv => cbv); (repeat' apply And.intro) <;> first | rfl | trivial | (first | rfl | omega | (simp (disch := omega) only [hS.glob, wraps, plain, Int.ofNat_eq_natCast]; first | done | rfl | omega | (simp; done) | (simp; omega)) | (simp (disch := omega) only [hS.glob, wraps, plain, Int.ofNat_eq_natCast, Vx.toN]; omega))))) (by rfl) (f25_z ln e (by omega) (by omega) l1 came side (b i) q4 (G (i + 1)) (fun j _ => by rw [hst3])) ?_
                rintro r Hc ⟨rfl, rfl⟩
                refine V.goF (by first | exact trivial | assumption) Try.func14 tl_ok mixed hS.ops [] 400 ?_
                intro VV VA W hVV hVA hW
                conv => cbv
                rw [hVV]
                clear hVV hVA VV VA hW W
                exact V.to (hback (i + 1) (by omega) (by omega)) (by (repeat' first | exact trivial | rfl | (refine And.intro ?_ ?_) | (refine sti ?_; (first | rfl | omega | (simp (disch := omega) only [hS.glob, wraps, plain, Int.ofNat_eq_natCast]; first | done | rfl | omega | (simp; done) | (simp; omega)) | (simp (disch := omega) only [hS.glob, wraps, plain, Int.ofNat_eq_natCast, Vx.toN]; omega))) | (refine slq ?_ ?_ ?_ <;> (first | rfl | omega | (simp (disch := omega) only [hS.glob, wraps, plain, Int.ofNat_eq_natCast]; first | done | rfl | omega | (simp; done) | (simp; omega)) | (simp (disch := omega) only [hS.glob, wraps, plain, Int.ofNat_eq_natCast, Vx.toN]; omega))) | (refine ptq ?_ ?_ ?_ <;> (first | rfl | omega | (simp (disch := omega) only [hS.glob, wraps, plain, Int.ofNat_eq_natCast]; first | done | rfl | omega | (simp; done) | (simp; omega)) | (simp (disch := omega) only [hS.glob, wraps, plain, Int.ofNat_eq_natCast, Vx.toN]; omega))) | (refine blq ?_; (first | rfl | omega | (simp (disch := omega) only [hS.glob, wraps, plain, Int.ofNat_eq_natCast]; first | done | rfl | omega | (simp; done) | (simp; omega)) | (simp (disch := omega) only [hS.glob, wraps, plain, Int.ofNat_eq_natCast, Vx.toN]; omega))))) rfl (by unfold H14; (repeat' first | exact trivial | rfl | exact Nat.le_refl _ | exact (fun _ _ => rfl) | (refine And.intro ?_ ?_) | (simp only [hS.glob, plain]; first | done | omega))) (by rw [hC]; exact Nat.zero_le _)
      · conv => cbv
        simp (disch := first | omega | (simp only [hS.glob, wraps, plain, Int.ofNat_eq_natCast]; omega)) only [hS.glob, wraps, plain, Int.ofNat_eq_natCast] at h3
        cases h4 : ine first 1
        · conv => cbv
          simp (disch := first | omega | (simp only [hS.glob, wraps, plain, Int.ofNat_eq_natCast]; omega)) only [hS.glob, wraps, plain, Int.ofNat_eq_natCast] at h4
          obtain hb : bad = false := by cases bad with | false => rfl | true => have := hbad.1 rfl; omega
          have hf : first = 0 ∨ first = 1 := .inr h4
          repeat (refine ⟨by first | (rw [hW]; show ordOk _ _ _ = true; kernel_rfl) | (first | trivial | omega | (simp (disch := omega) only [hS.glob, wraps, plain, Int.ofNat_eq_natCast]; first | done | omega | trivial | (simp; done) | (simp; omega) | (constructor <;> omega)) | (simp (disch := omega) only [hS.glob, wraps, plain, Int.ofNat_eq_natCast, Vx.toN]; omega)), ?_⟩)
          try simp only [hS.tidy]
          cases h8 : ieq (irem level 2) 1
          · conv => cbv
            simp (disch := first | omega | (simp only [hS.glob, wraps, plain, Int.ofNat_eq_natCast]; omega)) only [hS.glob, wraps, plain, Int.ofNat_eq_natCast] at h8
            have e0 : (0 : Int) = side := by rw [hside, sideOf, if_neg h8]
            have e1 : (1 : Int) = ot := by rw [hot, ← e0]; rfl
            rw [hVV]
            clear hVV hVA VV VA hW W
            refine V.to (s' := [(45, .rows 2 mn (icol2 kd id)), (44, .rows 1 ln (icol .i64 l)), (12, .sl 1 0 ln), (13, .int .i64 side), (14, .int .i64 ot), (0, .rows 1 ln (icol .i64 came)), (4, .int .i64 first)]) (H' := [none, some ⟨32, 1, .arr ln (icol .i64 l)⟩]) ?_ (by rw [← e1, ← e0]; (repeat' first | exact trivial | rfl | (refine And.intro ?_ ?_) | (refine sti ?_; (first | rfl | omega | (simp (disch := omega) only [hS.glob, wraps, plain, Int.ofNat_eq_natCast]; first | done | rfl | omega | (simp; done) | (simp; omega)) | (simp (disch := omega) only [hS.glob, wraps, plain, Int.ofNat_eq_natCast, Vx.toN]; omega))) | (refine slq ?_ ?_ ?_ <;> (first | rfl | omega | (simp (disch := omega) only [hS.glob, wraps, plain, Int.ofNat_eq_natCast]; first | done | rfl | omega | (simp; done) | (simp; omega)) | (simp (disch := omega) only [hS.glob, wraps, plain, Int.ofNat_eq_natCast, Vx.toN]; omega))) | (refine ptq ?_ ?_ ?_ <;> (first | rfl | omega | (simp (disch := omega) only [hS.glob, wraps, plain, Int.ofNat_eq_natCast]; first | done | rfl | omega | (simp; done) | (simp; omega)) | (simp (disch := omega) only [hS.glob, wraps, plain, Int.ofNat_eq_natCast, Vx.toN]; omega))) | (refine blq ?_; (first | rfl | omega | (simp (disch := omega) only [hS.glob, wraps, plain, Int.ofNat_eq_natCast]; first | done | rfl | omega | (simp; done) | (simp; omega)) | (simp (disch := omega) only [hS.glob, wraps, plain, Int.ofNat_eq_natCast, Vx.toN]; omega))))) rfl ⟨⟨rfl, rfl, ⟨Nat.le_refl _, fun j hj => by simp [hS.glob, Vx.ltB]⟩, rfl⟩, trivial⟩ (by rw [hC]; exact Nat.zero_le _)
            clear e0 e1
            refine V.call rfl rfl rfl rfl rfl Try.func12 rfl (by decide) [] (by simp) (by simp) (by (first | rfl | ((conv => cbv); (repeat' apply And.intro) <;> first | rfl | trivial | (first | rfl | omega | (simp (disch := omega) only [hS.glob, wraps, plain, Int.ofNat_eq_natCast]; first | done | rfl | omega | (simp; done) | (simp; omega)) | (simp (disch := omega) only [hS.glob, wraps, plain, Int.ofNat_eq_natCast, Vx.toN]; omega))))) rfl (f12_ok ln mn hm hl l kd id) ?_
            rintro r Hc ⟨m, a, b, rfl, rfl, htab⟩
            refine V.goF (by first | exact trivial | assumption) Try.func14 tl_ok mixed hS.ops [] 400 ?_
            intro VV VA W hVV hVA hW
            conv => cbv
            rw [← hps] at htab
            obtain ⟨G, hG0, hGs, hGm⟩ := foldG came side first l ps
            have hml : m = ps.length := by have := congrArg List.length htab; simpa [tab] using this
            have hm3 : m ≤ 1000000 := by have := pairsL_len ln mn l kd id; rw [← hps] at this; omega
            rw [hVV]
            clear hVV hVA VV VA hW W
            refine V.to (s' := [(16, .int .i64 (ofN 0)), (15, .sl 2 0 m), (12, .sl 1 0 ln), (13, .int .i64 side), (14, .int .i64 ot), (0, .rows 1 ln (icol .i64 came)), (4, .int .i64 first)]) (H' := H14 ln m (G 0) a b) ?_ (by (repeat' first | exact trivial | rfl | (refine And.intro ?_ ?_) | (refine sti ?_; (first | rfl | omega | (simp (disch := omega) only [hS.glob, wraps, plain, Int.ofNat_eq_natCast]; first | done | rfl | omega | (simp; done) | (simp; omega)) | (simp (disch := omega) only [hS.glob, wraps, plain, Int.ofNat_eq_natCast, Vx.toN]; omega))) | (refine slq ?_ ?_ ?_ <;> (first | rfl | omega | (simp (disch := omega) only [hS.glob, wraps, plain, Int.ofNat_eq_natCast]; first | done | rfl | omega | (simp; done) | (simp; omega)) | (simp (disch := omega) only [hS.glob, wraps, plain, Int.ofNat_eq_natCast, Vx.toN]; omega))) | (refine ptq ?_ ?_ ?_ <;> (first | rfl | omega | (simp (disch := omega) only [hS.glob, wraps, plain, Int.ofNat_eq_natCast]; first | done | rfl | omega | (simp; done) | (simp; omega)) | (simp (disch := omega) only [hS.glob, wraps, plain, Int.ofNat_eq_natCast, Vx.toN]; omega))) | (refine blq ?_; (first | rfl | omega | (simp (disch := omega) only [hS.glob, wraps, plain, Int.ofNat_eq_natCast]; first | done | rfl | omega | (simp; done) | (simp; omega)) | (simp (disch := omega) only [hS.glob, wraps, plain, Int.ofNat_eq_natCast, Vx.toN]; omega))))) rfl (by rw [hG0]; unfold H14; (repeat' first | exact trivial | rfl | exact Nat.le_refl _ | exact (fun _ _ => rfl) | (refine And.intro ?_ ?_) | (simp only [hS.glob, plain]; first | done | omega))) (by rw [hC]; exact Nat.zero_le _)
            refine V.loop (γ := Nat) (fun i => i ≤ m) (fun i => [(16, .int .i64 (ofN i)), (15, .sl 2 0 m), (12, .sl 1 0 ln), (13, .int .i64 side), (14, .int .i64 ot), (0, .rows 1 ln (icol .i64 came)), (4, .int .i64 first)]) (fun i => H14 ln m (G i) a b) (fun i => m - i) ?_ 0 (Nat.zero_le _)
            rintro i hi hback
            refine V.goF (by first | exact trivial | assumption) Try.func14 tl_ok mixed hS.ops [] 400 ?_
            intro VV VA W hVV hVA hW
            conv => cbv
            cases h9 : ilt (ofN i) (ofN m)
            · conv => cbv
              simp (disch := first | omega | (simp only [hS.glob, wraps, plain, Int.ofNat_eq_natCast]; omega)) only [hS.glob, wraps, plain, Int.ofNat_eq_natCast] at h9
              rw [hQ, hl', ← hGm, ← hml, show i = m by omega]
              exact .inr ⟨hb, rfl, _, _, rfl⟩
            · conv => cbv
              simp (disch := first | omega | (simp only [hS.glob, wraps, plain, Int.ofNat_eq_natCast]; omega)) only [hS.glob, wraps, plain, Int.ofNat_eq_natCast] at h9
              repeat (refine ⟨by first | (rw [hW]; show ordOk _ _ _ = true; kernel_rfl) | (first | trivial | omega | (simp (disch := omega) only [hS.glob, wraps, plain, Int.ofNat_eq_natCast]; first | done | omega | trivial | (simp; done) | (simp; omega) | (constructor <;> omega)) | (simp (disch := omega) only [hS.glob, wraps, plain, Int.ofNat_eq_natCast, Vx.toN]; omega)), ?_⟩)
              simp only [hS.tidy]
              have hi2 : i < ps.length := by omega
              obtain ⟨q1, q2, q3, q4⟩ := hpair i hi2 a b htab
              have hst := hGs i hi2
              generalize ps[i] = p at q1 q2 q3 q4 hst
              obtain ⟨o, e⟩ := p
              simp only at q1 q2 q3 q4
              obtain ⟨own, hown⟩ : ∃ b : Bool, b = true ↔ hasL (G i) (o + 1) (e - (o + 1)) side := bool_of _
              obtain ⟨trn, htrn⟩ : ∃ b : Bool, b = true ↔ hasL (G i) (o + 1) (e - (o + 1)) ot := bool_of _
              obtain ⟨A, hA⟩ : ∃ A, A = aheadL (G i) first o := ⟨_, rfl⟩
              have hA2 := aheadL_two (G i) first hf o
              rw [← hA] at hA2
              have hst2 : G (i + 1) = pairL came (G i) o e (pairSd own trn side A) := by
                rw [hst, stepR, hA, ← hot]
                congr 2
                · exact Bool.eq_iff_iff.2 (by rw [hown]; simp)
                · exact Bool.eq_iff_iff.2 (by rw [htrn]; simp)
              clear hst
              rw [hVV]
              clear hVV hVA VV VA hW W
              refine V.call rfl rfl rfl rfl rfl Try.func23 rfl (by decide) [1] (by decide) (all_lt (by rfl)) (by (first | rfl | ((conv => cbv); (repeat' apply And.intro) <;> first | rfl | trivial | (first | rfl | omega | (simp (disch := omega) only [hS.glob, wraps, plain, Int.ofNat_eq_natCast]; first | done | rfl | omega | (simp; done) | (simp; omega)) | (simp (disch := omega) only [hS.glob, wraps, plain, Int.ofNat_eq_natCast, Vx.toN]; omega))))) (by rfl) (f23_z ln o e q1 (by omega) (G i) side (a i) (b i) q3 q4 (by omega) own hown) ?_
              rintro r Hc ⟨rfl, rfl⟩
              refine V.goF (by first | exact trivial | assumption) Try.func14 tl_ok mixed hS.ops [] 400 ?_
              intro VV VA W hVV hVA hW
              conv => cbv
              rw [hVV]
              clear hVV hVA VV VA hW W
              refine V.call rfl rfl rfl rfl rfl Try.func23 rfl (by decide) [1] (by decide) (all_lt (by rfl)) (by (first | rfl | ((conv => cbv); (repeat' apply And.intro) <;> first | rfl | trivial | (first | rfl | omega | (simp (disch := omega) only [hS.glob, wraps, plain, Int.ofNat_eq_natCast]; first | done | rfl | omega | (simp; done) | (simp; omega)) | (simp (disch := omega) only [hS.glob, wraps, plain, Int.ofNat_eq_natCast, Vx.toN]; omega))))) (by rfl) (f23_z ln o e q1 (by omega) (G i) ot (a i) (b i) q3 q4 (by omega) trn htrn) ?_
              rintro r Hc ⟨rfl, rfl⟩
              refine V.goF (by first | exact trivial | assumption) Try.func14 tl_ok mixed hS.ops [] 400 ?_
              intro VV VA W hVV hVA hW
              conv => cbv
              cases own
              · conv => cbv
                cases trn
                · conv => cbv
                  have hst3 : G (i + 1) = G i := by rw [hst2]; simp [pairSd, pairL]
                  have e13 : ine 13 13 = false := by simp (disch := first | omega | (simp only [hS.glob, wraps, plain, Int.ofNat_eq_natCast]; omega)) only [hS.glob, wraps, plain, Int.ofNat_eq_natCast]
                  simp only [e13]
                  conv => cbv
                  rw [hVV]
                  clear hVV hVA VV VA hW W
                  exact V.to (hback (i + 1) (by omega) (by omega)) (by (repeat' first | exact trivial | rfl | (refine And.intro ?_ ?_) | (refine sti ?_; (first | rfl | omega | (simp (disch := omega) only [hS.glob, wraps, plain, Int.ofNat_eq_natCast]; first | done | rfl | omega | (simp; done) | (simp; omega)) | (simp (disch := omega) only [hS.glob, wraps, plain, Int.ofNat_eq_natCast, Vx.toN]; omega))) | (refine slq ?_ ?_ ?_ <;> (first | rfl | omega | (simp (disch := omega) only [hS.glob, wraps, plain, Int.ofNat_eq_natCast]; first | done | rfl | omega | (simp; done) | (simp; omega)) | (simp (disch := omega) only [hS.glob, wraps, plain, Int.ofNat_eq_natCast, Vx.toN]; omega))) | (refine ptq ?_ ?_ ?_ <;> (first | rfl | omega | (simp (disch := omega) only [hS.glob, wraps, plain, Int.ofNat_eq_natCast]; first | done | rfl | omega | (simp; done) | (simp; omega)) | (simp (disch := omega) only [hS.glob, wraps, plain, Int.ofNat_eq_natCast, Vx.toN]; omega))) | (refine blq ?_; (first | rfl | omega | (simp (disch := omega) only [hS.glob, wraps, plain, Int.ofNat_eq_natCast]; first | done | rfl | omega | (simp; done) | (simp; omega)) | (simp (disch := omega) only [hS.glob, wraps, plain, Int.ofNat_eq_natCast, Vx.toN]; omega))))) rfl (by unfold H14; rw [hst3]; (repeat' first | exact trivial | rfl | exact Nat.le_refl _ | exact (fun _ _ => rfl) | (refine And.intro ?_ ?_) | (simp only [hS.glob, plain]; first | done | omega))) (by rw [hC]; exact Nat.zero_le _)
                · conv => cbv
                  repeat (refine ⟨by first | (rw [hW]; show ordOk _ _ _ = true; kernel_rfl) | (first | trivial | omega | (simp (disch := omega) only [hS.glob, wraps, plain, Int.ofNat_eq_natCast]; first | done | omega | trivial | (simp; done) | (simp; omega) | (constructor <;> omega)) | (simp (disch := omega) only [hS.glob, wraps, plain, Int.ofNat_eq_natCast, Vx.toN]; omega)), ?_⟩)
                  try simp only [hS.tidy]
                  rw [hVV]
                  clear hVV hVA VV VA hW W
                  refine V.call rfl rfl rfl rfl rfl Try.func24 rfl (by decide) [1] (by decide) (all_lt (by rfl)) (by (first | rfl | ((conv => cbv); (repeat' apply And.intro) <;> first | rfl | trivial | (first | rfl | omega | (simp (disch := omega) only [hS.glob, wraps, plain, Int.ofNat_eq_natCast]; first | done | rfl | omega | (simp; done) | (simp; omega)) | (simp (disch := omega) only [hS.glob, wraps, plain, Int.ofNat_eq_natCast, Vx.toN]; omega))))) (by rfl) (f24_z ln o (by omega) (G i) first (a i) q3 (by omega) A hA) ?_
                  rintro r Hc ⟨rfl, rfl⟩
                  refine V.goF (by first | exact trivial | assumption) Try.func14 tl_ok mixed hS.ops [] 400 ?_
                  intro VV VA W hVV hVA hW
                  conv => cbv
                  cases h11 : ieq A ot
                  · conv => cbv
                    simp (disch := first | omega | (simp only [hS.glob, wraps, plain, Int.ofNat_eq_natCast]; omega)) only [hS.glob, wraps, plain, Int.ofNat_eq_natCast] at h11
                    have hst3 : G (i + 1) = setF came (setF came (G i) o side) e side := by rw [hst2]; simp [pairSd, pairL, show A = side by omega]
                    obtain ⟨l1, hl1⟩ : ∃ l1, l1 = setF came (G i) o side := ⟨_, rfl⟩
                    rw [← hl1] at hst3
                    cases h10 : ine side 13
                    · conv => cbv
                      simp (disch := first | omega | (simp only [hS.glob, wraps, plain, Int.ofNat_eq_natCast]; omega)) only [hS.glob, wraps, plain, Int.ofNat_eq_natCast] at h10
                      omega
                    · conv => cbv
                      repeat (refine ⟨by first | (rw [hW]; show ordOk _ _ _ = true; kernel_rfl) | (first | trivial | omega | (simp (disch := omega) only [hS.glob, wraps, plain, Int.ofNat_eq_natCast]; first | done | omega | trivial | (simp; done) | (simp; omega) | (constructor <;> omega)) | (simp (disch := omega) only [hS.glob, wraps, plain, Int.ofNat_eq_natCast, Vx.toN]; omega)), ?_⟩)
                      try simp only [hS.tidy]
                      rw [hVV]
                      clear hVV hVA VV VA hW W
                      refine V.call rfl rfl rfl rfl rfl Try.func25 rfl (by decide) [1] (by decide) (all_lt (by rfl)) (by (first | rfl | ((conv => cbv); (repeat' apply And.intro) <;> first | rfl | trivial | (first | rfl | omega | (simp (disch := omega) only [hS.glob, wraps, plain, Int.ofNat_eq_natCast]; first | done | rfl | omega | (simp; done) | (simp; omega)) | (simp (disch := omega) only [hS.glob, wraps, plain, Int.ofNat_eq_natCast, Vx.toN]; omega))))) (by rfl) (f25_z ln o (by omega) (by omega) (G i) came side (a i) q3 l1 (fun j _ => by rw [hl1])) ?_
                      rintro r Hc ⟨rfl, rfl⟩
                      refine V.goF (by first | exact trivial | assumption) Try.func14 tl_ok mixed hS.ops [] 400 ?_
                      intro VV VA W hVV hVA hW
                      conv => cbv
                      repeat (refine ⟨by first | (rw [hW]; show ordOk _ _ _ = true; kernel_rfl) | (first | trivial | omega | (simp (disch := omega) only [hS.glob, wraps, plain, Int.ofNat_eq_natCast]; first | done | omega | trivial | (simp; done) | (simp; omega) | (constructor <;> omega)) | (simp (disch := omega) only [hS.glob, wraps, plain, Int.ofNat_eq_natCast, Vx.toN]; omega)), ?_⟩)
                      try simp only [hS.tidy]
                      rw [hVV]
                      clear hVV hVA VV VA hW W
                      refine V.call rfl rfl rfl rfl rfl Try.func25 rfl (by decide) [1] (by decide) (all_lt (by rfl)) (by (first | rfl | ((conv => cbv); (repeat' apply And.intro) <;> first | rfl | trivial | (first | rfl | omega | (simp (disch := omega) only [hS.glob, wraps, plain, Int.ofNat_eq_natCast]; first | done | rfl | omega | (simp; done) | (simp; omega)) | (simp (disch := omega) only [hS.glob, wraps, plain, Int.ofNat_eq_natCast, Vx.toN]; omega))))) (by rfl) (f25_z ln e (by omega) (by omega) l1 came side (b i) q4 (G (i + 1)) (fun j _ => by rw [hst3])) ?_
                      rintro r Hc ⟨rfl, rfl⟩
                      refine V.goF (by first | exact trivial | assumption) Try.func14 tl_ok mixed hS.ops [] 400 ?_
                      intro VV VA W hVV hVA hW
                      conv => cbv
                      rw [hVV]
                      clear hVV hVA VV VA hW W
                      exact V.to (hback (i + 1) (by omega) (by omega)) (by (repeat' first | exact trivial | rfl | (refine And.intro ?_ ?_) | (refine sti ?_; (first | rfl | omega | (simp (disch := omega) only [hS.glob, wraps, plain, Int.ofNat_eq_natCast]; first | done | rfl | omega | (simp; done) | (simp; omega)) | (simp (disch := omega) only [hS.glob, wraps, plain, Int.ofNat_eq_natCast, Vx.toN]; omega))) | (refine slq ?_ ?_ ?_ <;> (first | rfl | omega | (simp (disch := omega) only [hS.glob, wraps, plain, Int.ofNat_eq_natCast]; first | done | rfl | omega | (simp; done) | (simp; omega)) | (simp (disch := omega) only [hS.glob, wraps, plain, Int.ofNat_eq_natCast, Vx.toN]; omega))) | (refine ptq ?_ ?_ ?_ <;> (first | rfl | omega | (simp (disch := omega) only [hS.glob, wraps, plain, Int.ofNat_eq_natCast]; first | done | rfl | omega | (simp; done) | (simp; omega)) | (simp (disch := omega) only [hS.glob, wraps, plain, Int.ofNat_eq_natCast, Vx.toN]; omega))) | (refine blq ?_; (first | rfl | omega | (simp (disch := omega) only [hS.glob, wraps, plain, Int.ofNat_eq_natCast]; first | done | rfl | omega | (simp; done) | (simp; omega)) | (simp (disch := omega) only [hS.glob, wraps, plain, Int.ofNat_eq_natCast, Vx.toN]; omega))))) rfl (by unfold H14; (repeat' first | exact trivial | rfl | exact Nat.le_refl _ | exact (fun _ _ => rfl) | (refine And.intro ?_ ?_) | (simp only [hS.glob, plain]; first | done | omega))) (by rw [hC]; exact Nat.zero_le _)
                  · conv => cbv
                    simp (disch := first | omega | (simp only [hS.glob, wraps, plain, Int.ofNat_eq_natCast]; omega)) only [hS.glob, wraps, plain, Int.ofNat_eq_natCast] at h11
                    have hst3 : G (i + 1) = setF came (setF came (G i) o ot) e ot := by rw [hst2]; simp [pairSd, pairL, show ¬ A = side by omega, ← hot]
                    obtain ⟨l1, hl1⟩ : ∃ l1, l1 = setF came (G i) o ot := ⟨_, rfl⟩
                    rw [← hl1] at hst3
                    cases h10 : ine ot 13
                    · conv => cbv
                      simp (disch := first | omega | (simp only [hS.glob, wraps, plain, Int.ofNat_eq_natCast]; omega)) only [hS.glob, wraps, plain, Int.ofNat_eq_natCast] at h10
                      omega
                    · conv => cbv
                      repeat (refine ⟨by first | (rw [hW]; show ordOk _ _ _ = true; kernel_rfl) | (first | trivial | omega | (simp (disch := omega) only [hS.glob, wraps, plain, Int.ofNat_eq_natCast]; first | done | omega | trivial | (simp; done) | (simp; omega) | (constructor <;> omega)) | (simp (disch := omega) only [hS.glob, wraps, plain, Int.ofNat_eq_natCast, Vx.toN]; omega)), ?_⟩)
                      try simp only [hS.tidy]
                      rw [hVV]
                      clear hVV hVA VV VA hW W
                      refine V.call rfl rfl rfl rfl rfl Try.func25 rfl (by decide) [1] (by decide) (all_lt (by rfl)) (by (first | rfl | ((conv => cbv); (repeat' apply And.intro) <;> first | rfl | trivial | (first | rfl | omega | (simp (disch := omega) only [hS.glob, wraps, plain, Int.ofNat_eq_natCast]; first | done | rfl | omega | (simp; done) | (simp; omega)) | (simp (disch := omega) only [hS.glob, wraps, plain, Int.ofNat_eq_natCast, Vx.toN]; omega))))) (by rfl) (f25_z ln o (by omega) (by omega) (G i) came ot (a i) q3 l1 (fun j _ => by rw [hl1])) ?_
                      rintro r Hc ⟨rfl, rfl⟩
                      refine V.goF (by first | exact trivial | assumption) Try.func14 tl_ok mixed hS.ops [] 400 ?_
                      intro VV VA W hVV hVA hW
                      conv => cbv
                      repeat (refine ⟨by first | (rw [hW]; show ordOk _ _ _ = true; kernel_rfl) | (first | trivial | omega | (simp (disch := omega) only [hS.glob, wraps, plain, Int.ofNat_eq_natCast]; first | done | omega | trivial | (simp; done) | (simp; omega) | (constructor <;> omega)) | (simp (disch := omega) only [hS.glob, wraps, plain, Int.ofNat_eq_natCast, Vx.toN]; omega)), ?_⟩)
                      try simp only [hS.tidy]
                      rw [hVV]
                      clear hVV hVA VV VA hW W
                      refine V.call rfl rfl rfl rfl rfl Try.func25 rfl (by decide) [1] (by decide) (all_lt (by rfl)) (by (first | rfl | ((conv => cbv); (repeat' apply And.intro) <;> first | rfl | trivial | (first | rfl | omega | (simp (disch := omega) only [hS.glob, wraps, plain, Int.ofNat_eq_natCast]; first | done | rfl | omega | (simp; done) | (simp; omega)) | (simp (disch := omega) only [hS.glob, wraps, plain, Int.ofNat_eq_natCast, Vx.toN]; omega))))) (by rfl) (f25_z ln e (by omega) (by omega) l1 came ot (b i) q4 (G (i + 1)) (fun j _ => by rw [hst3])) ?_
                      rintro r Hc ⟨rfl, rfl⟩
                      refine V.goF (by first | exact trivial | assumption) Try.func14 tl_ok mixed hS.ops [] 400 ?_
                      intro VV VA W hVV hVA hW
                      conv => cbv
                      rw [hVV]
                      clear hVV hVA VV VA hW W
                      exact V.to (hback (i + 1) (by omega) (by omega)) (by (repeat' first | exact trivial | rfl | (refine And.intro ?_ ?_) | (refine sti ?_; (first | rfl | omega | (simp (disch := omega) only [hS.glob, wraps, plain, Int.ofNat_eq_natCast]; first | done | rfl | omega | (simp; done) | (simp; omega)) | (simp (disch := omega) only [hS.glob, wraps, plain, Int.ofNat_eq_natCast, Vx.toN]; omega))) | (refine slq ?_ ?_ ?_ <;> (first | rfl | omega | (simp (disch := omega) only [hS.glob, wraps, plain, Int.ofNat_eq_natCast]; first | done | rfl | omega | (simp; done) | (simp; omega)) | (simp (disch := omega) only [hS.glob, wraps, plain, Int.ofNat_eq_natCast, Vx.toN]; omega))) | (refine ptq ?_ ?_ ?_ <;> (first | rfl | omega | (simp (disch := omega) only [hS.glob, wraps, plain, Int.ofNat_eq_natCast]; first | done | rfl | omega | (simp; done) | (simp; omega)) | (simp (disch := omega) only [hS.glob, wraps, plain, Int.ofNat_eq_natCast, Vx.toN]; omega))) | (refine blq ?_; (first | rfl | omega | (simp (disch := omega) only [hS.glob, wraps, plain, Int.ofNat_eq_natCast]; first | done | rfl | omega | (simp; done) | (simp; omega)) | (simp (disch := omega) only [hS.glob, wraps, plain, Int.ofNat_eq_natCast, Vx.toN]; omega))))) rfl (by unfold H14; (repeat' first | exact trivial | rfl | exact Nat.le_refl _ | exact (fun _ _ => rfl) | (refine And.intro ?_ ?_) | (simp only [hS.glob, plain]; first | done | omega))) (by rw [hC]; exact Nat.zero_le _)
              · conv => cbv
                have hst3 : G (i + 1) = setF came (setF came (G i) o side) e side := by rw [hst2]; simp [pairSd, pairL]
                obtain ⟨l1, hl1⟩ : ∃ l1, l1 = setF came (G i) o side := ⟨_, rfl⟩
                rw [← hl1] at hst3
                cases h10 : ine side 13
                · conv => cbv
                  simp (disch := first | omega | (simp only [hS.glob, wraps, plain, Int.ofNat_eq_natCast]; omega)) only [hS.glob, wraps, plain, Int.ofNat_eq_natCast] at h10
                  omega
                · conv => cbv
                  repeat (refine ⟨by first | (rw [hW]; show ordOk _ _ _ = true; kernel_rfl) | (first | trivial | omega | (simp (disch := omega) only [hS.glob, wraps, plain, Int.ofNat_eq_natCast]; first | done | omega | trivial | (simp; done) | (simp; omega) | (constructor <;> omega)) | (simp (disch := omega) only [hS.glob, wraps, plain, Int.ofNat_eq_natCast, Vx.toN]; omega)), ?_⟩)
                  try simp only [hS.tidy]
                  rw [hVV]
                  clear hVV hVA VV VA hW W
                  refine V.call rfl rfl rfl rfl rfl Try.func25 rfl (by decide) [1] (by decide) (all_lt (by rfl)) (by (first | rfl | ((conv => cbv); (repeat' apply And.intro) <;> first | rfl | trivial | (first | rfl | omega | (simp (disch := omega) only [hS.glob, wraps, plain, Int.ofNat_eq_natCast]; first | done | rfl | omega | (simp; done) | (simp; omega)) | (simp (disch := omega) only [hS.glob, wraps, plain, Int.ofNat_eq_natCast, Vx.toN]; omega))))) (by rfl) (f25_z ln o (by omega) (by omega) (G i) came side (a i) q3 l1 (fun j _ => by rw [hl1])) ?_
                  rintro r Hc ⟨rfl, rfl⟩
                  refine V.goF (by first | exact trivial | assumption) Try.func14 tl_ok mixed hS.ops [] 400 ?_
                  intro VV VA W hVV hVA hW
                  conv => cbv
                  repeat (refine ⟨by first | (rw [hW]; show ordOk _ _ _ = true; kernel_rfl) | (first | trivial | omega | (simp (disch := omega) only [hS.glob, wraps, plain, Int.ofNat_eq_natCast]; first | done | omega | trivial | (simp; done) | (simp; omega) | (constructor <;> omega)) | (simp (disch := omega) only [hS.glob, wraps, plain, Int.ofNat_eq_natCast, Vx.toN]; omega)), ?_⟩)
                  try simp only [hS.tidy]
                  rw [hVV]
                  clear hVV hVA VV VA hW W
                  refine V.call rfl rfl rfl rfl rfl Try.func25 rfl (by decide) [1] (by decide) (all_lt (by rfl)) (by (first | rfl | ((conv => cbv); (repeat' apply And.intro) <;> first | rfl | trivial | (first | rfl | omega | (simp (disch := omega) only [hS.glob, wraps, plain, Int.ofNat_eq_natCast]; first | done | rfl | omega | (simp; done) | (simp; omega)) | (simp (disch := omega) only [hS.glob, wraps, plain, Int.ofNat_eq_natCast, Vx.toN]; omega))))) (by rfl) (f25_z ln e (by omega) (by omega) l1 came side (b i) q4 (G (i + 1)) (fun j _ => by rw [hst3])) ?_
                  rintro r Hc ⟨rfl, rfl⟩
                  refine V.goF (by first | exact trivial | assumption) Try.func14 tl_ok mixed hS.ops [] 400 ?_
                  intro VV VA W hVV hVA hW
                  conv => cbv
                  rw [hVV]
                  clear hVV hVA VV VA hW W
                  exact V.to (hback (i + 1) (by omega) (by omega)) (by (repeat' first | exact trivial | rfl | (refine And.intro ?_ ?_) | (refine sti ?_; (first | rfl | omega | (simp (disch := omega) only [hS.glob, wraps, plain, Int.ofNat_eq_natCast]; first | done | rfl | omega | (simp; done) | (simp; omega)) | (simp (disch := omega) only [hS.glob, wraps, plain, Int.ofNat_eq_natCast, Vx.toN]; omega))) | (refine slq ?_ ?_ ?_ <;> (first | rfl | omega | (simp (disch := omega) only [hS.glob, wraps, plain, Int.ofNat_eq_natCast]; first | done | rfl | omega | (simp; done) | (simp; omega)) | (simp (disch := omega) only [hS.glob, wraps, plain, Int.ofNat_eq_natCast, Vx.toN]; omega))) | (refine ptq ?_ ?_ ?_ <;> (first | rfl | omega | (simp (disch := omega) only [hS.glob, wraps, plain, Int.ofNat_eq_natCast]; first | done | rfl | omega | (simp; done) | (simp; omega)) | (simp (disch := omega) only [hS.glob, wraps, plain, Int.ofNat_eq_natCast, Vx.toN]; omega))) | (refine blq ?_; (first | rfl | omega | (simp (disch := omega) only [hS.glob, wraps, plain, Int.ofNat_eq_natCast]; first | done | rfl | omega | (simp; done) | (simp; omega)) | (simp (disch := omega) only [hS.glob, wraps, plain, Int.ofNat_eq_natCast, Vx.toN]; omega))))) rfl (by unfold H14; (repeat' first | exact trivial | rfl | exact Nat.le_refl _ | exact (fun _ _ => rfl) | (refine And.intro ?_ ?_) | (simp only [hS.glob, plain]; first | done | omega))) (by rw [hC]; exact Nat.zero_le _)
          · conv => cbv
            simp (disch := first | omega | (simp only [hS.glob, wraps, plain, Int.ofNat_eq_natCast]; omega)) only [hS.glob, wraps, plain, Int.ofNat_eq_natCast] at h8
            have e0 : (1 : Int) = side := by rw [hside, sideOf, if_pos h8]
            have e1 : (0 : Int) = ot := by rw [hot, ← e0]; rfl
            rw [hVV]
            clear hVV hVA VV VA hW W
            refine V.to (s' := [(45, .rows 2 mn (icol2 kd id)), (44, .rows 1 ln (icol .i64 l)), (12, .sl 1 0 ln), (13, .int .i64 side), (14, .int .i64 ot), (0, .rows 1 ln (icol .i64 came)), (4, .int .i64 first)]) (H' := [none, some ⟨32, 1, .arr ln (icol .i64 l)⟩]) ?_ (by rw [← e1, ← e0]; (repeat' first | exact trivial | rfl | (refine And.intro ?_ ?_) | (refine sti ?_; (first | rfl | omega | (simp (disch := omega) only [hS.glob, wraps, plain, Int.ofNat_eq_natCast]; first | done | rfl | omega | (simp; done) | (simp; omega)) | (simp (disch := omega) only [hS.glob, wraps, plain, Int.ofNat_eq_natCast, Vx.toN]; omega))) | (refine slq ?_ ?_ ?_ <;> (first | rfl | omega | (simp (disch := omega) only [hS.glob, wraps, plain, Int.ofNat_eq_natCast]; first | done | rfl | omega | (simp; done) | (simp; omega)) | (simp (disch := omega) only [hS.glob, wraps, plain, Int.ofNat_eq_natCast, Vx.toN]; omega))) | (refine ptq ?_ ?_ ?_ <;> (first | rfl | omega | (simp (disch := omega) only [hS.glob, wraps, plain, Int.ofNat_eq_natCast]; first | done | rfl | omega | (simp; done) | (simp; omega)) | (simp (disch := omega) only [hS.glob, wraps, plain, Int.ofNat_eq_natCast, Vx.toN]; omega))) | (refine blq ?_; (first | rfl | omega | (simp (disch := omega) only [hS.glob, wraps, plain, Int.ofNat_eq_natCast]; first | done | rfl | omega | (simp; done) | (simp; omega)) | (simp (disch := omega) only [hS.glob, wraps, plain, Int.ofNat_eq_natCast, Vx.toN]; omega))))) rfl ⟨⟨rfl, rfl, ⟨Nat.le_refl _, fun j hj => by simp [hS.glob, Vx.ltB]⟩, rfl⟩, trivial⟩ (by rw [hC]; exact Nat.zero_le _)
            clear e0 e1
            refine V.call rfl rfl rfl rfl rfl Try.func12 rfl (by decide) [] (by simp) (by simp) (by (first | rfl | ((conv => cbv); (repeat' apply And.intro) <;> first | rfl | trivial | (first | rfl | omega | (simp (disch := omega) only [hS.glob, wraps, plain, Int.ofNat_eq_natCast]; first | done | rfl | omega | (simp; done) | (simp; omega)) | (simp (disch := omega) only [hS.glob, wraps, plain, Int.ofNat_eq_natCast, Vx.toN]; omega))))) rfl (f12_ok ln mn hm hl l kd id) ?_
            rintro r Hc ⟨m, a, b, rfl, rfl, htab⟩
            refine V.goF (by first | exact trivial | assumption) Try.func14 tl_ok mixed hS.ops [] 400 ?_
            intro VV VA W hVV hVA hW
            conv => cbv
            rw [← hps] at htab
            obtain ⟨G, hG0, hGs, hGm⟩ := foldG came side first l ps
            have hml : m = ps.length := by have := congrArg List.length htab; simpa [tab] using this
            have hm3 : m ≤ 1000000 := by have := pairsL_len ln mn l kd id; rw [← hps] at this; omega
            rw [hVV]
            clear hVV hVA VV VA hW W
            refine V.to (s' := [(16, .int .i64 (ofN 0)), (15, .sl 2 0 m), (12, .sl 1 0 ln), (13, .int .i64 side), (14, .int .i64 ot), (0, .rows 1 ln (icol .i64 came)), (4, .int .i64 first)]) (H' := H14 ln m (G 0) a b) ?_ (by (repeat' first | exact trivial | rfl | (refine And.intro ?_ ?_) | (refine sti ?_; (first | rfl | omega | (simp (disch := omega) only [hS.glob, wraps, plain, Int.ofNat_eq_natCast]; first | done | rfl | omega | (simp; done) | (simp; omega)) | (simp (disch := omega) only [hS.glob, wraps, plain, Int.ofNat_eq_natCast, Vx.toN]; omega))) | (refine slq ?_ ?_ ?_ <;> (first | rfl | omega | (simp (disch := omega) only [hS.glob, wraps, plain, Int.ofNat_eq_natCast]; first | done | rfl | omega | (simp; done) | (simp; omega)) | (simp (disch := omega) only [hS.glob, wraps, plain, Int.ofNat_eq_natCast, Vx.toN]; omega))) | (refine ptq ?_ ?_ ?_ <;> (first | rfl | omega | (simp (disch := omega) only [hS.glob, wraps, plain, Int.ofNat_eq_natCast]; first | done | rfl | omega | (simp; done) | (simp; omega)) | (simp (disch := omega) only [hS.glob, wraps, plain, Int.ofNat_eq_natCast, Vx.toN]; omega))) | (refine blq ?_; (first | rfl | omega | (simp (disch := omega) only [hS.glob, wraps, plain, Int.ofNat_eq_natCast]; first | done | rfl | omega | (simp; done) | (simp; omega)) | (simp (disch := omega) only [hS.glob, wraps, plain, Int.ofNat_eq_natCast, Vx.toN]; omega))))) rfl (by rw [hG0]; unfold H14; (repeat' first | exact trivial | rfl | exact Nat.le_refl _ | exact (fun _ _ => rfl) | (refine And.intro ?_ ?_) | (simp only [hS.glob, plain]; first | done | omega))) (by rw [hC]; exact Nat.zero_le _)
            refine V.loop (γ := Nat) (fun i => i ≤ m) (fun i => [(16, .int .i64 (ofN i)), (15, .sl 2 0 m), (12, .sl 1 0 ln), (13, .int .i64 side), (14, .int .i64 ot), (0, .rows 1 ln (icol .i64 came)), (4, .int .i64 first)]) (fun i => H14 ln m (G i) a b) (fun i => m - i) ?_ 0 (Nat.zero_le _)
            rintro i hi hback
            refine V.goF (by first | exact trivial | assumption) Try.func14 tl_ok mixed hS.ops [] 400 ?_
            intro VV VA W hVV hVA hW
            conv => cbv
            cases h9 : ilt (ofN i) (ofN m)
            · conv => cbv
              simp (disch := first | omega | (simp only [hS.glob, wraps, plain, Int.ofNat_eq_natCast]; omega)) only [hS.glob, wraps, plain, Int.ofNat_eq_natCast] at h9
              rw [hQ, hl', ← hGm, ← hml, show i = m by omega]
              exact .inr ⟨hb, rfl, _, _, rfl⟩
            · conv => cbv
              simp (disch := first | omega | (simp only [hS.glob, wraps, plain, Int.ofNat_eq_natCast]; omega)) only [hS.glob, wraps, plain, Int.ofNat_eq_natCast] at h9
              repeat (refine ⟨by first | (rw [hW]; show ordOk _ _ _ = true; kernel_rfl) | (first | trivial | omega | (simp (disch := omega) only [hS.glob, wraps, plain, Int.ofNat_eq_natCast]; first | done | omega | trivial | (simp; done) | (simp; omega) | (constructor <;> omega)) | (simp (disch := omega) only [hS.glob, wraps, plain, Int.ofNat_eq_natCast, Vx.toN]; omega)), ?_⟩)
              simp only [hS.tidy]
              have hi2 : i < ps.length := by omega
              obtain ⟨q1, q2, q3, q4⟩ := hpair i hi2 a b htab
              have hst := hGs i hi2
              generalize ps[i] = p at q1 q2 q3 q4 hst
              obtain ⟨o, e⟩ := p
              simp only at q1 q2 q3 q4
              obtain ⟨own, hown⟩ : ∃ b : Bool, b = true ↔ hasL (G i) (o + 1) (e - (o + 1)) side := bool_of _
              obtain ⟨trn, htrn⟩ : ∃ b : Bool, b = true ↔ hasL (G i) (o + 1) (e - (o + 1)) ot := bool_of _
              obtain ⟨A, hA⟩ : ∃ A, A = aheadL (G i) first o := ⟨_, rfl⟩
              have hA2 := aheadL_two (G i) first hf o
              rw [← hA] at hA2
              have hst2 : G (i + 1) = pairL came (G i) o e (pairSd own trn side A) := by
                rw [hst, stepR, hA, ← hot]
                congr 2
                · exact Bool.eq_iff_iff.2 (by rw [hown]; simp)
                · exact Bool.eq_iff_iff.2 (by rw [htrn]; simp)
              clear hst
              rw [hVV]
              clear hVV hVA VV VA hW W
              refine V.call rfl rfl rfl rfl rfl Try.func23 rfl (by decide) [1] (by decide) (all_lt (by rfl)) (by (first | rfl | ((conv => cbv); (repeat' apply And.intro) <;> first | rfl | trivial | (first | rfl | omega | (simp (disch := omega) only [hS.glob, wraps, plain, Int.ofNat_eq_natCast]; first | done | rfl | omega | (simp; done) | (simp; omega)) | (simp (disch := omega) only [hS.glob, wraps, plain, Int.ofNat_eq_natCast, Vx.toN]; omega))))) (by rfl) (f23_z ln o e q1 (by omega) (G i) side (a i) (b i) q3 q4 (by omega) own hown) ?_
              rintro r Hc ⟨rfl, rfl⟩
              refine V.goF (by first | exact trivial | assumption) Try.func14 tl_ok mixed hS.ops [] 400 ?_
              intro VV VA W hVV hVA hW
              conv => cbv
              rw [hVV]
              clear hVV hVA VV VA hW W
              refine V.call rfl rfl rfl rfl rfl Try.func23 rfl (by decide) [1] (by decide) (all_lt (by rfl)) (by (first | rfl | ((conv => cbv); (repeat' apply And.intro) <;> first | rfl | trivial | (first | rfl | omega | (simp (disch := omega) only [hS.glob, wraps, plain, Int.ofNat_eq_natCast]; first | done | rfl | omega | (simp; done) | (simp; omega)) | (simp (disch := omega) only [hS.glob, wraps, plain, Int.ofNat_eq_natCast, Vx.toN]; omega))))) (by rfl) (f23_z ln o e q1 (by omega) (G i) ot (a i) (b i) q3 q4 (by omega) trn htrn) ?_
              rintro r Hc ⟨rfl, rfl⟩
              refine V.goF (by first | exact trivial | assumption) Try.func14 tl_ok mixed hS.ops [] 400 ?_
              intro VV VA W hVV hVA hW
              conv => cbv
              cases own
              · conv => cbv
                cases trn
                · conv => cbv
                  have hst3 : G (i + 1) = G i := by rw [hst2]; simp [pairSd, pairL]
                  have e13 : ine 13 13 = false := by simp (disch := first | omega | (simp only [hS.glob, wraps, plain, Int.ofNat_eq_natCast]; omega)) only [hS.glob, wraps, plain, Int.ofNat_eq_natCast]
                  simp only [e13]
                  conv => cbv
                  rw [hVV]
                  clear hVV hVA VV VA hW W
                  exact V.to (hback (i + 1) (by omega) (by omega)) (by (repeat' first | exact trivial | rfl | (refine And.intro ?_ ?_) | (refine sti ?_; (first | rfl | omega | (simp (disch := omega) only [hS.glob, wraps, plain, Int.ofNat_eq_natCast]; first | done | rfl | omega | (simp; done) | (simp; omega)) | (simp (disch := omega) only [hS.glob, wraps, plain, Int.ofNat_eq_natCast, Vx.toN]; omega))) | (refine slq ?_ ?_ ?_ <;> (first | rfl | omega | (simp (disch := omega) only [hS.glob, wraps, plain, Int.ofNat_eq_natCast]; first | done | rfl | omega | (simp; done) | (simp; omega)) | (simp (disch := omega) only [hS.glob, wraps, plain, Int.ofNat_eq_natCast, Vx.toN]; omega))) | (refine ptq ?_ ?_ ?_ <;> (first | rfl | omega | (simp (disch := omega) only [hS.glob, wraps, plain, Int.ofNat_eq_natCast]; first | done | rfl | omega | (simp; done) | (simp; omega)) | (simp (disch := omega) only [hS.glob, wraps, plain, Int.ofNat_eq_natCast, Vx.toN]; omega))) | (refine blq ?_; (first | rfl | omega | (simp (disch := omega) only [hS.glob, wraps, plain, Int.ofNat_eq_natCast]; first | done | rfl | omega | (simp; done) | (simp; omega)) | (simp (disch := omega) only [hS.glob, wraps, plain, Int.ofNat_eq_natCast, Vx.toN]; omega))))) rfl (by unfold H14; rw [hst3]; (repeat' first | exact trivial | rfl | exact Nat.le_refl _ | exact (fun _ _ => rfl) | (refine And.intro ?_ ?_) | (simp only [hS.glob, plain]; first | done | omega))) (by rw [hC]; exact Nat.zero_le _)
                · conv => cbv
                  repeat (refine ⟨by first | (rw [hW]; show ordOk _ _ _ = true; kernel_rfl) | (first | trivial | omega | (simp (disch := omega) only [hS.glob, wraps, plain, Int.ofNat_eq_natCast]; first | done | omega | trivial | (simp; done) | (simp; omega) | (constructor <;> omega)) | (simp (disch := omega) only [hS.glob, wraps, plain, Int.ofNat_eq_natCast, Vx.toN]; omega)), ?_⟩)
                  try simp only [hS.tidy]
                  rw [hVV]
                  clear hVV hVA VV VA hW W
                  refine V.call rfl rfl rfl rfl rfl Try.func24 rfl (by decide) [1] (by decide) (all_lt (by rfl)) (by (first | rfl | ((conv => cbv); (repeat' apply And.intro) <;> first | rfl | trivial | (first | rfl | omega | (simp (disch := omega) only [hS.glob, wraps, plain, Int.ofNat_eq_natCast]; first | done | rfl | omega | (simp; done) | (simp; omega)) | (simp (disch := omega) only [hS.glob, wraps, plain, Int.ofNat_eq_natCast, Vx.toN]; omega))))) (by rfl) (f24_z ln o (by omega) (G i) first (a i) q3 (by omega) A hA) ?_
                  rintro r Hc ⟨rfl, rfl⟩
                  refine V.goF (by first | exact trivial | assumption) Try.func14 tl_ok mixed hS.ops [] 400 ?_
                  intro VV VA W hVV hVA hW
                  conv => cbv
                  cases h11 : ieq A ot
                  · conv => cbv
                    simp (disch := first | omega | (simp only [hS.glob, wraps, plain, Int.ofNat_eq_natCast]; omega)) only [hS.glob, wraps, plain, Int.ofNat_eq_natCast] at h11
                    have hst3 : G (i + 1) = setF came (setF came (G i) o side) e side := by rw [hst2]; simp [pairSd, pairL, show A = side by omega]
                    obtain ⟨l1, hl1⟩ : ∃ l1, l1 = setF came (G i) o side := ⟨_, rfl⟩
                    rw [← hl1] at hst3
                    cases h10 : ine side 13
                    · conv => cbv
                      simp (disch := first | omega | (simp only [hS.glob, wraps, plain, Int.ofNat_eq_natCast]; omega)) only [hS.glob, wraps, plain, Int.ofNat_eq_natCast] at h10
                      omega
                    · conv => cbv
                      repeat (refine ⟨by first | (rw [hW]; show ordOk _ _ _ = true; kernel_rfl) | (first | trivial | omega | (simp (disch := omega) only [hS.glob, wraps, plain, Int.ofNat_eq_natCast]; first | done | omega | trivial | (simp; done) | (simp; omega) | (constructor <;> omega)) | (simp (disch := omega) only [hS.glob, wraps, plain, Int.ofNat_eq_natCast, Vx.toN]; omega)), ?_⟩)
                      try simp only [hS.tidy]
                      rw [hVV]
                      clear hVV hVA VV VA hW W
                      refine V.call rfl rfl rfl rfl rfl Try.func25 rfl (by decide) [1] (by decide) (all_lt (by rfl)) (by (first | rfl | ((conv => cbv); (repeat' apply And.intro) <;> first | rfl | trivial | (first | rfl | omega | (simp (disch := omega) only [hS.glob, wraps, plain, Int.ofNat_eq_natCast]; first | done | rfl | omega | (simp; done) | (simp; omega)) | (simp (disch := omega) only [hS.glob, wraps, plain, Int.ofNat_eq_natCast, Vx.toN]; omega))))) (by rfl) (f25_z ln o (by omega) (by omega) (G i) came side (a i) q3 l1 (fun j _ => by rw [hl1])) ?_
                      rintro r Hc ⟨rfl, rfl⟩
                      refine V.goF (by first | exact trivial | assumption) Try.func14 tl_ok mixed hS.ops [] 400 ?_
                      intro VV VA W hVV hVA hW
                      conv => cbv
                      repeat (refine ⟨by first | (rw [hW]; show ordOk _ _ _ = true; kernel_rfl) | (first | trivial | omega | (simp (disch := omega) only [hS.glob, wraps, plain, Int.ofNat_eq_natCast]; first | done | omega | trivial | (simp; done) | (simp; omega) | (constructor <;> omega)) | (simp (disch := omega) only [hS.glob, wraps, plain, Int.ofNat_eq_natCast, Vx.toN]; omega)), ?_⟩)
                      try simp only [hS.tidy]
                      rw [hVV]
                      clear hVV hVA VV VA hW W
                      refine V.call rfl rfl rfl rfl rfl Try.func25 rfl (by decide) [1] (by decide) (all_lt (by rfl)) (by (first | rfl | ((conv => cbv); (repeat' apply And.intro) <;> first | rfl | trivial | (first | rfl | omega | (simp (disch := omega) only [hS.glob, wraps, plain, Int.ofNat_eq_natCast]; first | done | rfl | omega | (simp; done) | (simp; omega)) | (simp (disch := omega) only [hS.glob, wraps, plain, Int.ofNat_eq_natCast, Vx.toN]; omega))))) (by rfl) (f25_z ln e (by omega) (by omega) l1 came side (b i) q4 (G (i + 1)) (fun j _ => by rw [hst3])) ?_
                      rintro r Hc ⟨rfl, rfl⟩
                      refine V.goF (by first | exact trivial | assumption) Try.func14 tl_ok mixed hS.ops [] 400 ?_
                      intro VV VA W hVV hVA hW
                      conv => cbv
                      rw [hVV]
                      clear hVV hVA VV VA hW W
                      exact V.to (hback (i + 1) (by omega) (by omega)) (by (repeat' first | exact trivial | rfl | (refine And.intro ?_ ?_) | (refine sti ?_; (first | rfl | omega | (simp (disch := omega) only [hS.glob, wraps, plain, Int.ofNat_eq_natCast]; first | done | rfl | omega | (simp; done) | (simp; omega)) | (simp (disch := omega) only [hS.glob, wraps, plain, Int.ofNat_eq_natCast, Vx.toN]; omega))) | (refine slq ?_ ?_ ?_ <;> (first | rfl | omega | (simp (disch := omega) only [hS.glob, wraps, plain, Int.ofNat_eq_natCast]; first | done | rfl | omega | (simp; done) | (simp; omega)) | (simp (disch := omega) only [hS.glob, wraps, plain, Int.ofNat_eq_natCast, Vx.toN]; omega))) | (refine ptq ?_ ?_ ?_ <;> (first | rfl | omega | (simp (disch := omega) only [hS.glob, wraps, plain, Int.ofNat_eq_natCast]; first | done | rfl | omega | (simp; done) | (simp; omega)) | (simp (disch := omega) only [hS.glob, wraps, plain, Int.ofNat_eq_natCast, Vx.toN]; omega))) | (refine blq ?_; (first | rfl | omega | (simp (disch := omega) only [hS.glob, wraps, plain, Int.ofNat_eq_natCast]; first | done | rfl | omega | (simp; done) | (simp; omega)) | (simp (disch := omega) only [hS.glob, wraps, plain, Int.ofNat_eq_natCast, Vx.toN]; omega))))) rfl (by unfold H14; (repeat' first | exact trivial | rfl | exact Nat.le_refl _ | exact (fun _ _ => rfl) | (refine And.intro ?_ ?_) | (simp only [hS.glob, plain]; first | done | omega))) (by rw [hC]; exact Nat.zero_le _)
                  · conv => cbv
                    simp (disch := first | omega | (simp only [hS.glob, wraps, plain, Int.ofNat_eq_natCast]; omega)) only [hS.glob, wraps, plain, Int.ofNat_eq_natCast] at h11
                    have hst3 : G (i + 1) = setF came (setF came (G i) o ot) e ot := by rw [hst2]; simp [pairSd, pairL, show ¬ A = side by omega, ← hot]
                    obtain ⟨l1, hl1⟩ : ∃ l1, l1 = setF came (G i) o ot := ⟨_, rfl⟩
                    rw [← hl1] at hst3
                    cases h10 : ine ot 13
                    · conv => cbv
                      simp (disch := first | omega | (simp only [hS.glob, wraps, plain, Int.ofNat_eq_natCast]; omega)) only [hS.glob, wraps, plain, Int.ofNat_eq_natCast] at h10
                      omega
                    · conv => cbv
                      repeat (refine ⟨by first | (rw [hW]; show ordOk _ _ _ = true; kernel_rfl) | (first | trivial | omega | (simp (disch := omega) only [hS.glob, wraps, plain, Int.ofNat_eq_natCast]; first | done | omega | trivial | (simp; done) | (simp; omega) | (constructor <;> omega)) | (simp (disch := omega) only [hS.glob, wraps, plain, Int.ofNat_eq_natCast, Vx.toN]; omega)), ?_⟩)
                      try simp only [hS.tidy]
                      rw [hVV]
                      clear hVV hVA VV VA hW W
                      refine V.call rfl rfl rfl rfl rfl Try.func25 rfl (by decide) [1] (by decide) (all_lt (by rfl)) (by (first | rfl | ((conv => cbv); (repeat' apply And.intro) <;> first | rfl | trivial | (first | rfl | omega | (simp (disch := omega) only [hS.glob, wraps, plain, Int.ofNat_eq_natCast]; first | done | rfl | omega | (simp; done) | (simp; omega)) | (simp (disch := omega) only [hS.glob, wraps, plain, Int.ofNat_eq_natCast, Vx.toN]; omega))))) (by rfl) (f25_z ln o (by omega) (by omega) (G i) came ot (a i) q3 l1 (fun j _ => by rw [hl1])) ?_
                      rintro r Hc ⟨rfl, rfl⟩
                      refine V.goF (by first | exact trivial | assumption) Try.func14 tl_ok mixed hS.ops [] 400 ?_
                      intro VV VA W hVV hVA hW
                      conv => cbv
                      repeat (refine ⟨by first | (rw [hW]; show ordOk _ _ _ = true; kernel_rfl) | (first | trivial | omega | (simp (disch := omega) only [hS.glob, wraps, plain, Int.ofNat_eq_natCast]; first | done | omega | trivial | (simp; done) | (simp; omega) | (constructor <;> omega)) | (simp (disch := omega) only [hS.glob, wraps, plain, Int.ofNat_eq_natCast, Vx.toN]; omega)), ?_⟩)
                      try simp only [hS.tidy]
                      rw [hVV]
                      clear hVV hVA VV VA hW W
                      refine V.call rfl rfl rfl rfl rfl Try.func25 rfl (by decide) [1] (by decide) (all_lt (by rfl)) (by (first | rfl | ((conv => cbv); (repeat' apply And.intro) <;> first | rfl | trivial | (first | rfl | omega | (simp (disch := omega) only [hS.glob, wraps, plain, Int.ofNat_eq_natCast]; first | done | rfl | omega | (simp; done) | (simp; omega)) | (simp (disch := omega) only [hS.glob, wraps, plain, Int.ofNat_eq_natCast, Vx.toN]; omega))))) (by rfl) (f25_z ln e (by omega) (by omega) l1 came ot (b i) q4 (G (i + 1)) (fun j _ => by rw [hst3])) ?_
                      rintro r Hc ⟨rfl, rfl⟩
                      refine V.goF (by first | exact trivial | assumption) Try.func14 tl_ok mixed hS.ops [] 400 ?_
                      intro VV VA W hVV hVA hW
                      conv => cbv
                      rw [hVV]
                      clear hVV hVA VV VA hW W
                      exact V.to (hback (i + 1) (by omega) (by omega)) (by (repeat' first | exact trivial | rfl | (refine And.intro ?_ ?_) | (refine sti ?_; (first | rfl | omega | (simp (disch := omega) only [hS.glob, wraps, plain, Int.ofNat_eq_natCast]; first | done | rfl | omega | (simp; done) | (simp; omega)) | (simp (disch := omega) only [hS.glob, wraps, plain, Int.ofNat_eq_natCast, Vx.toN]; omega))) | (refine slq ?_ ?_ ?_ <;> (first | rfl | omega | (simp (disch := omega) only [hS.glob, wraps, plain, Int.ofNat_eq_natCast]; first | done | rfl | omega | (simp; done) | (simp; omega)) | (simp (disch := omega) only [hS.glob, wraps, plain, Int.ofNat_eq_natCast, Vx.toN]; omega))) | (refine ptq ?_ ?_ ?_ <;> (first | rfl | omega | (simp (disch := omega) only [hS.glob, wraps, plain, Int.ofNat_eq_natCast]; first | done | rfl | omega | (simp; done) | (simp; omega)) | (simp (disch := omega) only [hS.glob, wraps, plain, Int.ofNat_eq_natCast, Vx.toN]; omega))) | (refine blq ?_; (first | rfl | omega | (simp (disch := omega) only [hS.glob, wraps, plain, Int.ofNat_eq_natCast]; first | done | rfl | omega | (simp; done) | (simp; omega)) | (simp (disch := omega) only [hS.glob, wraps, plain, Int.ofNat_eq_natCast, Vx.toN]; omega))))) rfl (by unfold H14; (repeat' first | exact trivial | rfl | exact Nat.le_refl _ | exact (fun _ _ => rfl) | (refine And.intro ?_ ?_) | (simp only [hS.glob, plain]; first | done | omega))) (by rw [hC]; exact Nat.zero_le _)
              · conv => cbv
                have hst3 : G (i + 1) = setF came (setF came (G i) o side) e side := by rw [hst2]; simp [pairSd, pairL]
                obtain ⟨l1, hl1⟩ : ∃ l1, l1 = setF came (G i) o side := ⟨_, rfl⟩
                rw [← hl1] at hst3
                cases h10 : ine side 13
                · conv => cbv
                  simp (disch := first | omega | (simp only [hS.glob, wraps, plain, Int.ofNat_eq_natCast]; omega)) only [hS.glob, wraps, plain, Int.ofNat_eq_natCast] at h10
                  omega
                · conv => cbv
                  repeat (refine ⟨by first | (rw [hW]; show ordOk _ _ _ = true; kernel_rfl) | (first | trivial | omega | (simp (disch := omega) only [hS.glob, wraps, plain, Int.ofNat_eq_natCast]; first | done | omega | trivial | (simp; done) | (simp; omega) | (constructor <;> omega)) | (simp (disch := omega) only [hS.glob, wraps, plain, Int.ofNat_eq_natCast, Vx.toN]; omega)), ?_⟩)
                  try simp only [hS.tidy]
                  rw [hVV]
                  clear hVV hVA VV VA hW W
                  refine V.call rfl rfl rfl rfl rfl Try.func25 rfl (by decide) [1] (by decide) (all_lt (by rfl)) (by (first | rfl | ((conv => cbv); (repeat' apply And.intro) <;> first | rfl | trivial | (first | rfl | omega | (simp (disch := omega) only [hS.glob, wraps, plain, Int.ofNat_eq_natCast]; first | done | rfl | omega | (simp; done) | (simp; omega)) | (simp (disch := omega) only [hS.glob, wraps, plain, Int.ofNat_eq_natCast, Vx.toN]; omega))))) (by rfl) (f25_z ln o (by omega) (by omega) (G i) came side (a i) q3 l1 (fun j _ => by rw [hl1])) ?_
                  rintro r Hc ⟨rfl, rfl⟩
                  refine V.goF (by first | exact trivial | assumption) Try.func14 tl_ok mixed hS.ops [] 400 ?_
                  intro VV VA W hVV hVA hW
                  conv => cbv
                  repeat (refine ⟨by first | (rw [hW]; show ordOk _ _ _ = true; kernel_rfl) | (first | trivial | omega | (simp (disch := omega) only [hS.glob, wraps, plain, Int.ofNat_eq_natCast]; first | done | omega | trivial | (simp; done) | (simp; omega) | (constructor <;> omega)) | (simp (disch := omega) only [hS.glob, wraps, plain, Int.ofNat_eq_natCast, Vx.toN]; omega)), ?_⟩)
                  try simp only [hS.tidy]
                  rw [hVV]
                  clear hVV hVA VV VA hW W
                  refine V.call rfl rfl rfl rfl rfl Try.func25 rfl (by decide) [1] (by decide) (all_lt (by rfl)) (by (first | rfl | ((conv => cbv); (repeat' apply And.intro) <;> first | rfl | trivial | (first | rfl | omega | (simp (disch := omega) only [hS.glob, wraps, plain, Int.ofNat_eq_natCast]; first | done | rfl | omega | (simp; done) | (simp; omega)) | (simp (disch := omega) only [hS.glob, wraps, plain, Int.ofNat_eq_natCast, Vx.toN]; omega))))) (by rfl) (f25_z ln e (by omega) (by omega) l1 came side (b i) q4 (G (i + 1)) (fun j _ => by rw [hst3])) ?_
                  rintro r Hc ⟨rfl, rfl⟩
                  refine V.goF (by first | exact trivial | assumption) Try.func14 tl_ok mixed hS.ops [] 400 ?_
                  intro VV VA W hVV hVA hW
                  conv => cbv
                  rw [hVV]
                  clear hVV hVA VV VA hW W
                  exact V.to (hback (i + 1) (by omega) (by omega)) (by (repeat' first | exact trivial | rfl | (refine And.intro ?_ ?_) | (refine sti ?_; (first | rfl | omega | (simp (disch := omega) only [hS.glob, wraps, plain, Int.ofNat_eq_natCast]; first | done | rfl | omega | (simp; done) | (simp; omega)) | (simp (disch := omega) only [hS.glob, wraps, plain, Int.ofNat_eq_natCast, Vx.toN]; omega))) | (refine slq ?_ ?_ ?_ <;> (first | rfl | omega | (simp (disch := omega) only [hS.glob, wraps, plain, Int.ofNat_eq_natCast]; first | done | rfl | omega | (simp; done) | (simp; omega)) | (simp (disch := omega) only [hS.glob, wraps, plain, Int.ofNat_eq_natCast, Vx.toN]; omega))) | (refine ptq ?_ ?_ ?_ <;> (first | rfl | omega | (simp (disch := omega) only [hS.glob, wraps, plain, Int.ofNat_eq_natCast]; first | done | rfl | omega | (simp; done) | (simp; omega)) | (simp (disch := omega) only [hS.glob, wraps, plain, Int.ofNat_eq_natCast, Vx.toN]; omega))) | (refine blq ?_; (first | rfl | omega | (simp (disch := omega) only [hS.glob, wraps, plain, Int.ofNat_eq_natCast]; first | done | rfl | omega | (simp; done) | (simp; omega)) | (simp (disch := omega) only [hS.glob, wraps, plain, Int.ofNat_eq_natCast, Vx.toN]; omega))))) rfl (by unfold H14; (repeat' first | exact trivial | rfl | exact Nat.le_refl _ | exact (fun _ _ => rfl) | (refine And.intro ?_ ?_) | (simp only [hS.glob, plain]; first | done | omega))) (by rw [hC]; exact Nat.zero_le _)
        · conv => cbv
          simp (disch := first | omega | (simp only [hS.glob, wraps, plain, Int.ofNat_eq_natCast]; omega)) only [hS.glob, wraps, plain, Int.ofNat_eq_natCast] at h4
          rw [hQ]
          exact .inl ⟨hbad.2 (.inr (.inr ⟨h3, h4⟩)), rfl, rfl⟩
    · conv => cbv
      simp (disch := first | omega | (simp only [hS.glob, wraps, plain, Int.ofNat_eq_natCast]; omega)) only [hS.glob, wraps, plain, Int.ofNat_eq_natCast] at h2
      rw [hQ]
      exact .inl ⟨hbad.2 (.inr (.inl h2)), rfl, rfl⟩
  · conv => cbv
    simp (disch := first | omega | (simp only [hS.glob, wraps, plain, Int.ofNat_eq_natCast]; omega)) only [hS.glob, wraps, plain, Int.ofNat_eq_natCast] at h1
    rw [hQ]
    exact .inl ⟨hbad.2 (.inl (by omega)), rfl, rfl⟩
end Go.Proofs.Ytcoanfhjgmndcaa

/- The reference's Resolve, and the marks. -/
namespace Go.Proofs.Ytcoanfhjgmndcaa
open Go Vx

theorem f14_ok (cn ln mn : Nat) (hc : cn ≤ 1000000) (hm : mn ≤ 1000000) (hl : ln ≤ 1000000) (came l kd id : Nat → Int) (level first : Int) (bad : Bool) (hbad : bad = true ↔ cn ≠ ln ∨ level < 0 ∨ (first ≠ 0 ∧ first ≠ 1)) (l' : Nat → Int) (hl' : l' = resR came (sideOf level) first l (pairsL ln mn l kd id)) :
    FSpec Try.prog 14 [.rows 1 cn (icol .i64 came), .rows 1 ln (icol .i64 l), .rows 2 mn (icol2 kd id), .int .i64 level, .int .i64 first] [] (fun r H' => (bad = true ∧ r = .tup [.nil .slice, .int .i64 1] ∧ H' = []) ∨ (bad = false ∧ r = .tup [.sl 0 0 ln, .int .i64 0] ∧ H' = [some ⟨32, 1, .arr ln (icol .i64 l')⟩])) := by
  refine FSpec.repick (FSpec.weaken (f14_ok1 cn ln mn hc hm hl came l kd id level first _ rfl bad hbad _ rfl l' hl') (Q' := fun r H' => (bad = true ∧ r = .tup [.nil .slice, .int .i64 1] ∧ H' = []) ∨ (bad = false ∧ r = .tup [.sl 1 0 ln, .int .i64 0] ∧ H' = [none, some ⟨32, 1, .arr ln (icol .i64 l')⟩])) ?_) ?_
  · rintro r H' (⟨hb, rfl, rfl⟩ | ⟨hb, rfl, x, t, rfl⟩)
    · exact ⟨[], trivial, rfl, Nat.le_refl _, .inl ⟨hb, rfl, rfl⟩⟩
    · exact ⟨[none, some ⟨32, 1, .arr ln (icol .i64 l')⟩], ⟨⟨rfl, rfl, ⟨Nat.le_refl _, fun _ _ => rfl⟩, rfl⟩, by cases t with | nil => trivial | cons x t => cases x <;> trivial⟩, rfl, by simp, .inr ⟨hb, rfl, rfl⟩⟩
  · rintro r H' (⟨hb, rfl, rfl⟩ | ⟨hb, rfl, rfl⟩)
    · exact ⟨[], by decide, fun k hk => by simp at hk, .inl ⟨hb, rfl, rfl⟩⟩
    · exact ⟨[1], by decide, fun k hk => by simp at hk, .inr ⟨hb, rfl, rfl⟩⟩
theorem f11_ok (mn : Nat) (hm : mn ≤ 8796093022208) (kd id : Nat → Int) : FSpec Try.prog 11 [.rows 2 mn (icol2 kd id)] [] (fun r H' => r = .sl 0 0 mn ∧ H' = [some ⟨45, 2, .arr mn (icol2 kd id)⟩]) := by
  refine (show FSpec Try.prog 11 [.rows 2 mn (icol2 kd id)] [] (fun r H' => ∃ a b, r = .sl 0 0 mn ∧ H' = [some ⟨45, 2, .arr mn (icol2 a b)⟩] ∧ ∀ j, j < mn → a j = kd j ∧ b j = id j) from ?_).weaken ?_
  · refine FSpec.of (fn := Try.f11) Try.func11 rfl rfl (by simp) fun C hC => ?_
    obtain ⟨iadd, isub, imul, iquo, irem, iband, ibor, ibxor, ibandn, ishl, ishr, iconv, ieq, ine, ilt, ile, igt, ige, bbeq, bbne, bnot, bband, sseq, ssne, sscat, sssub, sslen, sssz, ssbyte, toN, ofN, addN, subN, eqN, ltB, leN, imx, imn, inb, leb, sslt, ltN, fit, ne0, ge0, ssfit, minN, inR, hS⟩ := names
    refine V.goF (by first | exact trivial | assumption) Try.func11 tl_ok mixed hS.ops [] 400 ?_
    intro VV VA W hVV hVA hW
    conv => cbv
    rw [hVV]
    refine V.phantom 3 45 2 (icol2 (fun _ => 0) (fun _ => 0)) rfl ?_
    clear hVV hVA VV VA hW W
    refine V.to (s' := [(4, .int .i64 (ofN 0)), (3, .sl 0 0 0), (0, .rows 2 mn (icol2 kd id))]) (H' := [some ⟨45, 2, .arr 0 (icol2 (fun _ => 0) (fun _ => 0))⟩]) ?_ (by (repeat' first | exact trivial | rfl | (refine And.intro ?_ ?_) | (refine sti ?_; (first | rfl | omega | (simp (disch := omega) only [hS.glob, wraps, plain, Int.ofNat_eq_natCast]; first | done | rfl | omega | (simp; done) | (simp; omega)) | (simp (disch := omega) only [hS.glob, wraps, plain, Int.ofNat_eq_natCast, Vx.toN]; omega))) | (refine slq ?_ ?_ ?_ <;> (first | rfl | omega | (simp (disch := omega) only [hS.glob, wraps, plain, Int.ofNat_eq_natCast]; first | done | rfl | omega | (simp; done) | (simp; omega)) | (simp (disch := omega) only [hS.glob, wraps, plain, Int.ofNat_eq_natCast, Vx.toN]; omega))) | (refine ptq ?_ ?_ ?_ <;> (first | rfl | omega | (simp (disch := omega) only [hS.glob, wraps, plain, Int.ofNat_eq_natCast]; first | done | rfl | omega | (simp; done) | (simp; omega)) | (simp (disch := omega) only [hS.glob, wraps, plain, Int.ofNat_eq_natCast, Vx.toN]; omega))) | (refine blq ?_; (first | rfl | omega | (simp (disch := omega) only [hS.glob, wraps, plain, Int.ofNat_eq_natCast]; first | done | rfl | omega | (simp; done) | (simp; omega)) | (simp (disch := omega) only [hS.glob, wraps, plain, Int.ofNat_eq_natCast, Vx.toN]; omega))))) rfl (by (repeat' first | exact trivial | rfl | exact Nat.le_refl _ | exact (fun _ _ => rfl) | (refine And.intro ?_ ?_) | (simp only [hS.glob, plain]; first | done | omega))) (by rw [hC]; exact Nat.zero_le _)
    refine V.loop (γ := Nat × (Nat → Int) × (Nat → Int)) (fun g => g.1 ≤ mn ∧ ∀ j, j < g.1 → g.2.1 j = kd j ∧ g.2.2 j = id j) (fun g => [(4, .int .i64 (ofN g.1)), (3, .sl 0 0 g.1), (0, .rows 2 mn (icol2 kd id))]) (fun g => [some ⟨45, 2, .arr g.1 (icol2 g.2.1 g.2.2)⟩]) (fun g => mn - g.1) ?_ (0, (fun _ => 0), (fun _ => 0)) ⟨Nat.zero_le _, fun j hj => absurd hj (Nat.not_lt_zero _)⟩
    rintro ⟨i, a, b⟩ ⟨hi, hab⟩ hback
    dsimp only at hi hab hback ⊢
    refine V.goF (by first | exact trivial | assumption) Try.func11 tl_ok mixed hS.ops [(5, .one 0 .none (.one 1 .none (.one 2 .none (.one 3 .none (.one 4 .none (.one 5 .none (.one 6 .none (.one 7 .none (.one 8 .none (.one 9 .none (.one 10 .none (.one 11 .none (.one 12 .none (.one 13 .none (.one 14 .none .done)))))))))))))))] 400 ?_
    intro VV VA W hVV hVA hW
    conv => cbv
    cases h1 : ilt (ofN i) (ofN mn)
    · conv => cbv
      simp (disch := first | omega | (simp only [hS.glob, wraps, plain, Int.ofNat_eq_natCast]; omega)) only [hS.glob, wraps, plain, Int.ofNat_eq_natCast] at h1
      obtain rfl : i = mn := by omega
      exact ⟨a, b, rfl, rfl, hab⟩
    · conv => cbv
      simp (disch := first | omega | (simp only [hS.glob, wraps, plain, Int.ofNat_eq_natCast]; omega)) only [hS.glob, wraps, plain, Int.ofNat_eq_natCast] at h1
      repeat (refine ⟨by first | (rw [hW]; show ordOk _ _ _ = true; kernel_rfl) | (first | trivial | omega | (simp (disch := omega) only [hS.glob, wraps, plain, Int.ofNat_eq_natCast]; first | done | omega | trivial | (simp; done) | (simp; omega) | (constructor <;> omega)) | (simp (disch := omega) only [hS.glob, wraps, plain, Int.ofNat_eq_natCast, Vx.toN]; omega)), ?_⟩)
      try simp only [hS.tidy]
      obtain ⟨a', s1, s2⟩ := snocF a i (kd i)
      obtain ⟨b', u1, u2⟩ := snocF b i (id i)
      have ea : addN i 1 = i + 1 := by simp [hS.glob, Vx.addN]
      simp only [ea]
      rw [hVV]
      clear hVV hVA VV VA hW W
      refine V.pick [2] (by decide) (by rw [hC]; exact begins_of rfl) (by rfl) (by rfl) ?_
      refine V.to (hback (i + 1, a', b') ⟨by simp only; omega, fun j hj => ?_⟩ (by simp only; omega)) (by (repeat' first | exact trivial | rfl | (refine And.intro ?_ ?_) | (refine sti ?_; (first | rfl | omega | (simp (disch := omega) only [hS.glob, wraps, plain, Int.ofNat_eq_natCast]; first | done | rfl | omega | (simp; done) | (simp; omega)) | (simp (disch := omega) only [hS.glob, wraps, plain, Int.ofNat_eq_natCast, Vx.toN]; omega))) | (refine slq ?_ ?_ ?_ <;> (first | rfl | omega | (simp (disch := omega) only [hS.glob, wraps, plain, Int.ofNat_eq_natCast]; first | done | rfl | omega | (simp; done) | (simp; omega)) | (simp (disch := omega) only [hS.glob, wraps, plain, Int.ofNat_eq_natCast, Vx.toN]; omega))) | (refine ptq ?_ ?_ ?_ <;> (first | rfl | omega | (simp (disch := omega) only [hS.glob, wraps, plain, Int.ofNat_eq_natCast]; first | done | rfl | omega | (simp; done) | (simp; omega)) | (simp (disch := omega) only [hS.glob, wraps, plain, Int.ofNat_eq_natCast, Vx.toN]; omega))) | (refine blq ?_; (first | rfl | omega | (simp (disch := omega) only [hS.glob, wraps, plain, Int.ofNat_eq_natCast]; first | done | rfl | omega | (simp; done) | (simp; omega)) | (simp (disch := omega) only [hS.glob, wraps, plain, Int.ofNat_eq_natCast, Vx.toN]; omega))))) rfl ⟨⟨rfl, rfl, ⟨Nat.le_refl _, fun j hj => leafR (by simp [hS.glob]) (by simp [hS.glob]) [.int .i64 (kd i), .int .i64 (id i)] (icol2 a b) (icol2 a' b') i (fun j hj => by simp only [icol2]; rw [s1 j hj, u1 j hj]) (by simp only [icol2]; rw [s2, u2]) j hj⟩, rfl⟩, trivial⟩ (by rw [hC]; exact Nat.zero_le _)
      simp only at hj ⊢
      rcases Nat.lt_succ_iff_lt_or_eq.1 hj with h | rfl
      · rw [s1 j h, u1 j h]; exact hab j h
      · exact ⟨s2, u2⟩
  · rintro r H' ⟨a, b, rfl, rfl, h⟩
    exact ⟨[some ⟨45, 2, .arr mn (icol2 kd id)⟩], ⟨⟨rfl, rfl, ⟨Nat.le_refl _, fun j hj => by simp only [icol2]; rw [(h j hj).1, (h j hj).2]⟩, rfl⟩, trivial⟩, rfl, by simp, rfl, rfl⟩
end Go.Proofs.Ytcoanfhjgmndcaa

/- It works at all. -/
namespace Go.Proofs.Ytcoanfhjgmndcaa
open Go Vx

theorem FSpec.args {P : Program} {g : FuncId} {args args' : List AV} {H : Hp} {Q : AV → Hp → Prop} (h : FSpec P g args H Q) (hl : args'.length = args.length) (hr : ∀ ρ μ j v, j < args.length → RelV ρ μ (args'.getD j .top) v → RelV ρ μ (args.getD j .top) v) : FSpec P g args' H Q :=
  fun ρ μ w vs h1 h2 h3 => h ρ μ w vs (h1.trans hl) (fun j hj => hr ρ μ j _ hj (h2 j (by rw [hl]; exact hj))) h3
theorem rel_nil0 {ρ : Rho} {μ : Mu} {v : Value} {sz : Nat} (hs : 0 < sz) (f : Nat → List AV) (h : RelV ρ μ (.nil .slice) v) : RelV ρ μ (.rows sz 0 f) v := by
  cases h
  exact .rows ρ μ 0 f none 0 sz 0 0 (fun _ _ => undef) (fun i hi => by omega) hs (fun i j hi => by omega) (fun i j hi => by omega) (Nat.le_refl _) (Nat.zero_le _)
def AL : Nat → Int := fun i => [1, 13, 0, 13, 0].getD i 0
def AK : Nat → Int := fun i => [0, 1, 0, 2].getD i 0
def AI : Nat → Int := fun i => [0, 7, 0, 7].getD i 0
theorem al_rows : ∀ i, i < 5 → icol .i64 AL i = [[.int .i64 1], [.int .i64 13], [.int .i64 0], [.int .i64 13], [AV.int .i64 0]].getD i [] := by
  intro i hi
  match i, hi with
  | 0, _ => rfl
  | 1, _ => rfl
  | 2, _ => rfl
  | 3, _ => rfl
  | 4, _ => rfl
theorem am_rows : ∀ i, i < 4 → icol2 AK AI i = [[.int .i64 0, .int .i64 0], [.int .i64 1, .int .i64 7], [.int .i64 0, .int .i64 0], [.int .i64 2, AV.int .i64 7]].getD i [] := by
  intro i hi
  match i, hi with
  | 0, _ => rfl
  | 1, _ => rfl
  | 2, _ => rfl
  | 3, _ => rfl
theorem al_pairs : pairsL 5 4 AL AK AI = [(1, 3)] := by decide
theorem al_one : resR AL (sideOf 1) 1 AL (pairsL 5 4 AL AK AI) 1 = 1 := by
  have h1 : ¬ hasL AL 2 1 1 := by
    rintro ⟨j, hj, h⟩
    obtain rfl : j = 0 := by omega
    exact absurd h (by decide)
  have h2 : hasL AL 2 1 0 := ⟨0, by decide, by decide⟩
  rw [al_pairs]
  simp only [resR, List.foldl_cons, List.foldl_nil, stepR, show sideOf 1 = 1 from rfl, show turnC 1 = 0 from rfl, h1, h2, decide_true, decide_false, pairSd, show aheadL AL 1 1 = 1 from rfl]
  simp [pairL, setF, inSet]
theorem al_zero : resR AL (sideOf 0) 1 AL (pairsL 5 4 AL AK AI) 3 = 0 := by
  have h2 : hasL AL 2 1 0 := ⟨0, by decide, by decide⟩
  rw [al_pairs]
  simp only [resR, List.foldl_cons, List.foldl_nil, stepR, show sideOf 0 = 0 from rfl, h2, decide_true, pairSd]
  simp [pairL, setF, inSet]

theorem f8_ok1 : FSpec Try.prog 8 [] [] (fun r H' => r = .bool true) := by
  have h10 := f10_ok 5 4 (by decide) (by decide) AL AK AI
  obtain ⟨l1, hl1⟩ : ∃ l1, l1 = resR AL (sideOf 1) 1 AL (pairsL 5 4 AL AK AI) := ⟨_, rfl⟩
  obtain ⟨l0, hl0⟩ : ∃ l0, l0 = resR AL (sideOf 0) 1 AL (pairsL 5 4 AL AK AI) := ⟨_, rfl⟩
  have h13a := f13_ok 5 5 4 (by decide) (by decide) (by decide) AL AL AK AI 1 1 false (by decide) l1 hl1
  have h13b := f13_ok 5 5 4 (by decide) (by decide) (by decide) AL AL AK AI 0 1 false (by decide) l0 hl0
  have h13c := FSpec.args (f13_ok 0 5 4 (by decide) (by decide) (by decide) AL AL AK AI 0 1 true (by decide) _ rfl) (args' := [.nil .slice, .rows 1 5 (icol .i64 AL), .rows 2 4 (icol2 AK AI), .int .i64 0, .int .i64 1]) rfl (fun ρ μ j v hj h => by
    match j, hj with
    | 0, _ => exact rel_nil0 (by decide) _ h
    | j + 1, _ => exact h)
  have q1 := al_one
  have q0 := al_zero
  rw [← hl1] at q1
  rw [← hl0] at q0
  rw [al_pairs] at h10
  clear hl1 hl0
  have ha := al_rows
  have hm := am_rows
  generalize AL = A at h10 h13a h13b h13c ha
  generalize AK = K at h10 h13a h13b h13c hm
  generalize AI = I at h10 h13a h13b h13c hm
  refine FSpec.of (fn := Try.f8) Try.func8 rfl rfl (by simp) fun C hC => ?_
  obtain ⟨iadd, isub, imul, iquo, irem, iband, ibor, ibxor, ibandn, ishl, ishr, iconv, ieq, ine, ilt, ile, igt, ige, bbeq, bbne, bnot, bband, sseq, ssne, sscat, sssub, sslen, sssz, ssbyte, toN, ofN, addN, subN, eqN, ltB, leN, imx, imn, inb, leb, sslt, ltN, fit, ne0, ge0, ssfit, minN, inR, hS⟩ := names
  refine V.goF (by first | exact trivial | assumption) Try.func8 tl_ok mixed hS.ops [] 17 ?_
  intro VV VA W hVV hVA hW
  conv => cbv
  rw [hVV]
  clear hVV hVA VV VA hW W
  refine V.to (s' := [(1, .sl 0 0 5), (2, .sl 1 0 4)]) (H' := [some ⟨32, 1, .arr 5 (icol .i64 A)⟩, some ⟨45, 2, .arr 4 (icol2 K I)⟩]) ?_ (by (repeat' first | exact trivial | rfl | (refine And.intro ?_ ?_) | (refine sti ?_; (first | rfl | omega | (simp (disch := omega) only [hS.glob, wraps, plain, Int.ofNat_eq_natCast]; first | done | rfl | omega | (simp; done) | (simp; omega)) | (simp (disch := omega) only [hS.glob, wraps, plain, Int.ofNat_eq_natCast, Vx.toN]; omega))) | (refine slq ?_ ?_ ?_ <;> (first | rfl | omega | (simp (disch := omega) only [hS.glob, wraps, plain, Int.ofNat_eq_natCast]; first | done | rfl | omega | (simp; done) | (simp; omega)) | (simp (disch := omega) only [hS.glob, wraps, plain, Int.ofNat_eq_natCast, Vx.toN]; omega))) | (refine ptq ?_ ?_ ?_ <;> (first | rfl | omega | (simp (disch := omega) only [hS.glob, wraps, plain, Int.ofNat_eq_natCast]; first | done | rfl | omega | (simp; done) | (simp; omega)) | (simp (disch := omega) only [hS.glob, wraps, plain, Int.ofNat_eq_natCast, Vx.toN]; omega))) | (refine blq ?_; (first | rfl | omega | (simp (disch := omega) only [hS.glob, wraps, plain, Int.ofNat_eq_natCast]; first | done | rfl | omega | (simp; done) | (simp; omega)) | (simp (disch := omega) only [hS.glob, wraps, plain, Int.ofNat_eq_natCast, Vx.toN]; omega))))) rfl ⟨⟨rfl, rfl, ⟨Nat.le_refl _, rfl, ha⟩, rfl⟩, ⟨rfl, rfl, ⟨Nat.le_refl _, rfl, hm⟩, rfl⟩, trivial⟩ (by rw [hC]; simp)
  refine V.freeze0 1 0 5 (by rfl) (by rfl) (by rfl) (by first | decide | omega | exact (Nat.succ_pos _)) (by rfl) (by rfl) (by first | exact Nat.le_refl _ | decide | omega | (simp only [Cont.n]; omega)) ?_
  refine V.freeze0 2 1 4 (by rfl) (by rfl) (by rfl) (by first | decide | omega | exact (Nat.succ_pos _)) (by rfl) (by rfl) (by first | exact Nat.le_refl _ | decide | omega | (simp only [Cont.n]; omega)) ?_
  refine V.goF (by first | exact trivial | assumption) Try.func8 tl_ok mixed hS.ops [] 400 ?_
  intro VV VA W hVV hVA hW
  conv => cbv
  rw [hVV]
  clear hVV hVA VV VA hW W
  refine V.call rfl rfl rfl rfl rfl Try.func10 rfl (by decide) [] (by simp) (by simp) (by (first | rfl | ((conv => cbv); (repeat' apply And.intro) <;> first | rfl | trivial | (first | rfl | omega | (simp (disch := omega) only [hS.glob, wraps, plain, Int.ofNat_eq_natCast]; first | done | rfl | omega | (simp; done) | (simp; omega)) | (simp (disch := omega) only [hS.glob, wraps, plain, Int.ofNat_eq_natCast, Vx.toN]; omega))))) rfl h10 ?_
  rintro r Hc ⟨m, a, b, rfl, rfl, htab⟩
  obtain rfl : m = 1 := by simpa [tab] using congrArg List.length htab
  obtain ⟨ha0, hb0⟩ : a 0 = 1 ∧ b 0 = 3 := by simpa [tab, castP] using htab
  clear htab
  refine V.goF (by first | exact trivial | assumption) Try.func8 tl_ok mixed hS.ops [] 400 ?_
  intro VV VA W hVV hVA hW
  conv => cbv
  rw [hVV]
  clear hVV hVA VV VA hW W
  refine V.call rfl rfl rfl rfl rfl Try.func13 rfl (by decide) [] (by simp) (by simp) (by (first | rfl | ((conv => cbv); (repeat' apply And.intro) <;> first | rfl | trivial | (first | rfl | omega | (simp (disch := omega) only [hS.glob, wraps, plain, Int.ofNat_eq_natCast]; first | done | rfl | omega | (simp; done) | (simp; omega)) | (simp (disch := omega) only [hS.glob, wraps, plain, Int.ofNat_eq_natCast, Vx.toN]; omega))))) rfl h13a ?_
  rintro r Hc (⟨h, _⟩ | ⟨_, rfl, rfl⟩)
  · cases h
  refine V.goF (by first | exact trivial | assumption) Try.func8 tl_ok mixed hS.ops [] 400 ?_
  intro VV VA W hVV hVA hW
  conv => cbv
  rw [hVV]
  clear hVV hVA VV VA hW W
  refine V.call rfl rfl rfl rfl rfl Try.func13 rfl (by decide) [] (by simp) (by simp) (by (first | rfl | ((conv => cbv); (repeat' apply And.intro) <;> first | rfl | trivial | (first | rfl | omega | (simp (disch := omega) only [hS.glob, wraps, plain, Int.ofNat_eq_natCast]; first | done | rfl | omega | (simp; done) | (simp; omega)) | (simp (disch := omega) only [hS.glob, wraps, plain, Int.ofNat_eq_natCast, Vx.toN]; omega))))) rfl h13b ?_
  rintro r Hc (⟨h, _⟩ | ⟨_, rfl, rfl⟩)
  · cases h
  refine V.goF (by first | exact trivial | assumption) Try.func8 tl_ok mixed hS.ops [] 400 ?_
  intro VV VA W hVV hVA hW
  conv => cbv
  rw [hVV]
  clear hVV hVA VV VA hW W
  refine V.call rfl rfl rfl rfl rfl Try.func13 rfl (by decide) [] (by simp) (by simp) (by (first | rfl | ((conv => cbv); (repeat' apply And.intro) <;> first | rfl | trivial | (first | rfl | omega | (simp (disch := omega) only [hS.glob, wraps, plain, Int.ofNat_eq_natCast]; first | done | rfl | omega | (simp; done) | (simp; omega)) | (simp (disch := omega) only [hS.glob, wraps, plain, Int.ofNat_eq_natCast, Vx.toN]; omega))))) rfl h13c ?_
  rintro r Hc (⟨_, rfl, rfl⟩ | ⟨h, _⟩)
  · refine V.goF (by first | exact trivial | assumption) Try.func8 tl_ok mixed hS.ops [] 400 ?_
    intro VV VA W hVV hVA hW
    conv => cbv
    have e00 : ieq 0 0 = true := by simp (disch := first | omega | (simp only [hS.glob, wraps, plain, Int.ofNat_eq_natCast]; omega)) only [hS.glob, wraps, plain, Int.ofNat_eq_natCast]
    have e11 : ieq 1 1 = true := by simp (disch := first | omega | (simp only [hS.glob, wraps, plain, Int.ofNat_eq_natCast]; omega)) only [hS.glob, wraps, plain, Int.ofNat_eq_natCast]
    have e33 : ieq 3 3 = true := by simp (disch := first | omega | (simp only [hS.glob, wraps, plain, Int.ofNat_eq_natCast]; omega)) only [hS.glob, wraps, plain, Int.ofNat_eq_natCast]
    have el : ieq (ofN 1) 1 = true := by simp (disch := first | omega | (simp only [hS.glob, wraps, plain, Int.ofNat_eq_natCast]; omega)) only [hS.glob, wraps, plain, Int.ofNat_eq_natCast]; rfl
    have x1 : a (addN 0 (toN 0)) = 1 := by rw [show addN 0 (toN 0) = 0 by simp (disch := first | omega | (simp only [hS.glob, wraps, plain, Int.ofNat_eq_natCast]; omega)) only [hS.glob, wraps, plain, Int.ofNat_eq_natCast]]; exact ha0
    have x2 : b (addN 0 (toN 0)) = 3 := by rw [show addN 0 (toN 0) = 0 by simp (disch := first | omega | (simp only [hS.glob, wraps, plain, Int.ofNat_eq_natCast]; omega)) only [hS.glob, wraps, plain, Int.ofNat_eq_natCast]]; exact hb0
    have x3 : l1 (addN 0 (toN 1)) = 1 := by rw [show addN 0 (toN 1) = 1 by simp (disch := first | omega | (simp only [hS.glob, wraps, plain, Int.ofNat_eq_natCast]; omega)) only [hS.glob, wraps, plain, Int.ofNat_eq_natCast]]; exact q1
    have x4 : l0 (addN 0 (toN 3)) = 0 := by rw [show addN 0 (toN 3) = 3 by simp (disch := first | omega | (simp only [hS.glob, wraps, plain, Int.ofNat_eq_natCast]; omega)) only [hS.glob, wraps, plain, Int.ofNat_eq_natCast]]; exact q0
    simp only [e00]
    conv => cbv
    simp only [e00]
    conv => cbv
    simp only [e11]
    conv => cbv
    simp only [el]
    conv => cbv
    repeat (refine ⟨by first | (rw [hW]; show ordOk _ _ _ = true; kernel_rfl) | (first | trivial | omega | (simp (disch := omega) only [hS.glob, wraps, plain, Int.ofNat_eq_natCast]; first | done | omega | trivial | (simp; done) | (simp; omega) | (constructor <;> omega)) | (simp (disch := omega) only [hS.glob, wraps, plain, Int.ofNat_eq_natCast, Vx.toN]; omega)), ?_⟩)
    simp only [x1, e11]
    conv => cbv
    repeat (refine ⟨by first | (rw [hW]; show ordOk _ _ _ = true; kernel_rfl) | (first | trivial | omega | (simp (disch := omega) only [hS.glob, wraps, plain, Int.ofNat_eq_natCast]; first | done | omega | trivial | (simp; done) | (simp; omega) | (constructor <;> omega)) | (simp (disch := omega) only [hS.glob, wraps, plain, Int.ofNat_eq_natCast, Vx.toN]; omega)), ?_⟩)
    simp only [x2, e33]
    conv => cbv
    repeat (refine ⟨by first | (rw [hW]; show ordOk _ _ _ = true; kernel_rfl) | (first | trivial | omega | (simp (disch := omega) only [hS.glob, wraps, plain, Int.ofNat_eq_natCast]; first | done | omega | trivial | (simp; done) | (simp; omega) | (constructor <;> omega)) | (simp (disch := omega) only [hS.glob, wraps, plain, Int.ofNat_eq_natCast, Vx.toN]; omega)), ?_⟩)
    simp only [x3, e11]
    conv => cbv
    repeat (refine ⟨by first | (rw [hW]; show ordOk _ _ _ = true; kernel_rfl) | (first | trivial | omega | (simp (disch := omega) only [hS.glob, wraps, plain, Int.ofNat_eq_natCast]; first | done | omega | trivial | (simp; done) | (simp; omega) | (constructor <;> omega)) | (simp (disch := omega) only [hS.glob, wraps, plain, Int.ofNat_eq_natCast, Vx.toN]; omega)), ?_⟩)
    rw [x4, e00]
  · cases h
theorem f8_ok : FSpec Try.prog 8 [] [] (fun r H' => r = .bool true ∧ H' = []) := by
  refine f8_ok1.weaken ?_
  rintro r H' rfl
  exact ⟨[], by cases H' <;> simp [heapCov], rfl, Nat.le_refl _, rfl, rfl⟩
end Go.Proofs.Ytcoanfhjgmndcaa
