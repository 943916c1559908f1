/- Contracts of functions by an evaluator of the model: its part T8. -/
import Derived.Test.YtcoanfhjgmndcaaT7
import Derived.Test.YtcoanfhjgmndcaaV2
set_option linter.all false
/- The law of resolving. -/
namespace Go.Proofs.Ytcoanfhjgmndcaa
open Go Vx

theorem f4_ok1 (cn ln mn : Nat) (came l kd id : Nat → Int) (level first : Int) (m0 : cn ≤ 140737488355328) (m1 : ln ≤ 140737488355328) (m2 : mn ≤ 140737488355328) : FSpec Try.prog 4 [.agg [.rows 1 cn (icol .i64 came), .rows 1 ln (icol .i64 l), .int .i64 level, .int .i64 first], .rows 2 mn (icol2 kd id)] [] (fun r H' => r = .bool true) := by
  have h8 := f8_ok
  refine FSpec.of (fn := Try.f4) Try.func4 rfl rfl (by simp) fun C hC => ?_
  obtain ⟨iadd, isub, imul, iquo, irem, iband, ibor, ibxor, ibandn, ishl, ishr, iconv, ieq, ine, ilt, ile, igt, ige, bbeq, bbne, bnot, bband, sseq, ssne, sscat, sssub, sslen, sssz, ssbyte, toN, ofN, addN, subN, eqN, ltB, leN, imx, imn, inb, leb, sslt, ltN, fit, ne0, ge0, ssfit, minN, inR, hS⟩ := names
  refine V.goF (by first | exact trivial | assumption) Try.func4 tl_ok mixed hS.ops [] 43 ?_
  intro VV VA W hVV hVA hW
  conv => cbv
  cases g1 : igt (ofN ln) 200
  · conv => cbv
    cases g2 : igt (ofN cn) 200
    · conv => cbv
      cases g3 : igt (ofN mn) 200
      · conv => cbv
        simp (disch := first | omega | (simp only [hS.glob, wraps, plain, Int.ofNat_eq_natCast]; omega)) only [hS.glob, wraps, plain, Int.ofNat_eq_natCast] at g1 g2 g3
        repeat (refine ⟨by first | (rw [hW]; show ordOk _ _ _ = true; kernel_rfl) | (first | trivial | omega | (simp (disch := omega) only [hS.glob, wraps, plain, Int.ofNat_eq_natCast]; first | done | omega | trivial | (simp; done) | (simp; omega) | (constructor <;> omega)) | (simp (disch := omega) only [hS.glob, wraps, plain, Int.ofNat_eq_natCast, Vx.toN]; omega)), ?_⟩)
        have e1 : addN 0 ln = ln := by simp [hS.glob, Vx.addN]
        have e2 : addN 0 cn = cn := by simp [hS.glob, Vx.addN]
        simp only [e1, e2]
        rw [hVV]
        clear hVV hVA VV VA hW W e1 e2
        refine V.to (s' := [(5, .sl 2 0 ln), (6, .sl 4 0 cn), (2, .ptr 0 0 0), (1, .rows 2 mn (icol2 kd id))]) (H' := [some ⟨34, 4, .lit [[.rows 1 cn (icol .i64 came), .rows 1 ln (icol .i64 l), .int .i64 level, .int .i64 first]]⟩, none, some ⟨32, 1, .arr ln (icol .i64 l)⟩, none, some ⟨32, 1, .arr cn (icol .i64 came)⟩]) ?_ (by (repeat' first | exact trivial | rfl | (refine And.intro ?_ ?_) | (refine sti ?_; (first | rfl | omega | (simp (disch := omega) only [hS.glob, wraps, plain, Int.ofNat_eq_natCast]; first | done | rfl | omega | (simp; done) | (simp; omega)) | (simp (disch := omega) only [hS.glob, wraps, plain, Int.ofNat_eq_natCast, Vx.toN]; omega))) | (refine slq ?_ ?_ ?_ <;> (first | rfl | omega | (simp (disch := omega) only [hS.glob, wraps, plain, Int.ofNat_eq_natCast]; first | done | rfl | omega | (simp; done) | (simp; omega)) | (simp (disch := omega) only [hS.glob, wraps, plain, Int.ofNat_eq_natCast, Vx.toN]; omega))) | (refine ptq ?_ ?_ ?_ <;> (first | rfl | omega | (simp (disch := omega) only [hS.glob, wraps, plain, Int.ofNat_eq_natCast]; first | done | rfl | omega | (simp; done) | (simp; omega)) | (simp (disch := omega) only [hS.glob, wraps, plain, Int.ofNat_eq_natCast, Vx.toN]; omega))) | (refine blq ?_; (first | rfl | omega | (simp (disch := omega) only [hS.glob, wraps, plain, Int.ofNat_eq_natCast]; first | done | rfl | omega | (simp; done) | (simp; omega)) | (simp (disch := omega) only [hS.glob, wraps, plain, Int.ofNat_eq_natCast, Vx.toN]; omega))))) rfl ⟨⟨rfl, rfl, rfl, rfl⟩, ⟨rfl, rfl, ⟨Nat.le_refl _, fun j hj => by simp [hS.glob, Vx.ltB, Vx.subN]⟩, rfl⟩, ⟨rfl, rfl, ⟨Nat.le_refl _, fun j hj => by simp [hS.glob, Vx.ltB, Vx.subN]⟩, rfl⟩, trivial⟩ (by rw [hC]; exact Nat.zero_le _)
        refine V.freeze0 5 2 ln (by rfl) (by rfl) (by rfl) (by first | decide | omega | exact (Nat.succ_pos _)) (by rfl) (by rfl) (by first | exact Nat.le_refl _ | decide | omega | (simp only [Cont.n]; omega)) ?_
        refine V.freeze0 6 4 cn (by rfl) (by rfl) (by rfl) (by first | decide | omega | exact (Nat.succ_pos _)) (by rfl) (by rfl) (by first | exact Nat.le_refl _ | decide | omega | (simp only [Cont.n]; omega)) ?_
        refine V.pick [0] (by decide) (by rw [hC]; exact begins_of rfl) (by rfl) (by rfl) ?_
        obtain ⟨bad, hbad⟩ := bool_of (cn ≠ ln ∨ level < 0 ∨ (first ≠ 0 ∧ first ≠ 1))
        obtain ⟨l', hl'⟩ : ∃ l', l' = resR came (sideOf level) first l (pairsL ln mn l kd id) := ⟨_, rfl⟩
        have h13 := f13_ok cn ln mn (by omega) (by omega) (by omega) came l kd id level first bad hbad l' hl'
        have h14 := f14_ok cn ln mn (by omega) (by omega) (by omega) came l kd id level first bad hbad l' hl'
        have h15 := FSpec.args (f15_ok 0 0 (fun _ => 0) (fun _ => 0) true ⟨fun _ => ⟨rfl, fun _ _ => rfl⟩, fun _ => rfl⟩) (args' := [.nil .slice, .nil .slice]) rfl (fun ρ μ j v hj h => by
          match j, hj with
          | 0, _ => exact rel_nil0 (by decide) _ h
          | 1, _ => exact rel_nil0 (by decide) _ h)
        have h11 := FSpec.freeze (by decide) (f11_ok mn (by omega) kd id)
        refine V.to (s' := [(5, .rows 1 ln (icol .i64 l)), (6, .rows 1 cn (icol .i64 came)), (2, .ptr 0 0 0), (1, .rows 2 mn (icol2 kd id))]) (H' := [some ⟨34, 4, .lit [[.rows 1 cn (icol .i64 came), .rows 1 ln (icol .i64 l), .int .i64 level, .int .i64 first]]⟩]) ?_ (by (repeat' first | exact trivial | rfl | (refine And.intro ?_ ?_) | (refine sti ?_; (first | rfl | omega | (simp (disch := omega) only [hS.glob, wraps, plain, Int.ofNat_eq_natCast]; first | done | rfl | omega | (simp; done) | (simp; omega)) | (simp (disch := omega) only [hS.glob, wraps, plain, Int.ofNat_eq_natCast, Vx.toN]; omega))) | (refine slq ?_ ?_ ?_ <;> (first | rfl | omega | (simp (disch := omega) only [hS.glob, wraps, plain, Int.ofNat_eq_natCast]; first | done | rfl | omega | (simp; done) | (simp; omega)) | (simp (disch := omega) only [hS.glob, wraps, plain, Int.ofNat_eq_natCast, Vx.toN]; omega))) | (refine ptq ?_ ?_ ?_ <;> (first | rfl | omega | (simp (disch := omega) only [hS.glob, wraps, plain, Int.ofNat_eq_natCast]; first | done | rfl | omega | (simp; done) | (simp; omega)) | (simp (disch := omega) only [hS.glob, wraps, plain, Int.ofNat_eq_natCast, Vx.toN]; omega))) | (refine blq ?_; (first | rfl | omega | (simp (disch := omega) only [hS.glob, wraps, plain, Int.ofNat_eq_natCast]; first | done | rfl | omega | (simp; done) | (simp; omega)) | (simp (disch := omega) only [hS.glob, wraps, plain, Int.ofNat_eq_natCast, Vx.toN]; omega))))) rfl (by (repeat' first | exact trivial | rfl | exact Nat.le_refl _ | exact (fun _ _ => rfl) | (refine And.intro ?_ ?_) | (simp only [hS.glob, plain]; first | done | omega))) (by rw [hC]; exact Nat.zero_le _)
        refine V.drawnK tl_ok mixed (.one 0 .none (.one 2 .none (.one 4 .none (.one 6 .none (.one 8 .none (.alt 1 (.alt 3 (.alt 5 (.one 7 .none (.one 9 .none (.one 10 .none (.one 11 .none (.one 12 .none (.one 13 .none (.one 14 .none (.one 15 .none .done)))))))) (.alt 7 (.alt 5 (.one 9 .none (.one 10 .none (.one 11 .none (.one 12 .none (.one 13 .none (.one 14 .none (.one 15 .none .done))))))) (.alt 9 (.one 5 .none (.one 10 .none (.one 11 .none (.one 12 .none (.one 13 .none (.one 14 .none (.one 15 .none .done))))))) .none)) (.alt 9 (.alt 5 (.one 7 .none (.one 10 .none (.one 11 .none (.one 12 .none (.one 13 .none (.one 14 .none (.one 15 .none .done))))))) (.alt 7 (.one 5 .none (.one 10 .none (.one 11 .none (.one 12 .none (.one 13 .none (.one 14 .none (.one 15 .none .done))))))) .none)) .none))) (.alt 5 (.one 3 .none (.one 7 .none (.one 9 .none (.one 10 .none (.one 11 .none (.one 12 .none (.one 13 .none (.one 14 .none (.one 15 .none .done))))))))) (.alt 7 (.alt 3 (.alt 5 (.one 9 .none (.one 10 .none (.one 11 .none (.one 12 .none (.one 13 .none (.one 14 .none (.one 15 .none .done))))))) (.alt 9 (.one 5 .none (.one 10 .none (.one 11 .none (.one 12 .none (.one 13 .none (.one 14 .none (.one 15 .none .done))))))) .none)) (.alt 5 (.one 3 .none (.one 9 .none (.one 10 .none (.one 11 .none (.one 12 .none (.one 13 .none (.one 14 .none (.one 15 .none .done)))))))) (.alt 9 (.alt 3 (.one 5 .none (.one 10 .none (.one 11 .none (.one 12 .none (.one 13 .none (.one 14 .none (.one 15 .none .done))))))) (.alt 5 (.one 3 .none (.one 10 .none (.one 11 .none (.one 12 .none (.one 13 .none (.one 14 .none (.one 15 .none .done))))))) .none)) .none))) (.alt 9 (.alt 3 (.alt 5 (.one 7 .none (.one 10 .none (.one 11 .none (.one 12 .none (.one 13 .none (.one 14 .none (.one 15 .none .done))))))) (.alt 7 (.one 5 .none (.one 10 .none (.one 11 .none (.one 12 .none (.one 13 .none (.one 14 .none (.one 15 .none .done))))))) .none)) (.alt 5 (.one 3 .none (.one 7 .none (.one 10 .none (.one 11 .none (.one 12 .none (.one 13 .none (.one 14 .none (.one 15 .none .done)))))))) (.alt 7 (.alt 3 (.one 5 .none (.one 10 .none (.one 11 .none (.one 12 .none (.one 13 .none (.one 14 .none (.one 15 .none .done))))))) (.alt 5 (.one 3 .none (.one 10 .none (.one 11 .none (.one 12 .none (.one 13 .none (.one 14 .none (.one 15 .none .done))))))) .none)) .none))) .none)))) (.alt 3 (.alt 1 (.alt 5 (.one 7 .none (.one 9 .none (.one 10 .none (.one 11 .none (.one 12 .none (.one 13 .none (.one 14 .none (.one 15 .none .done)))))))) (.alt 7 (.alt 5 (.one 9 .none (.one 10 .none (.one 11 .none (.one 12 .none (.one 13 .none (.one 14 .none (.one 15 .none .done))))))) (.alt 9 (.one 5 .none (.one 10 .none (.one 11 .none (.one 12 .none (.one 13 .none (.one 14 .none (.one 15 .none .done))))))) .none)) (.alt 9 (.alt 5 (.one 7 .none (.one 10 .none (.one 11 .none (.one 12 .none (.one 13 .none (.one 14 .none (.one 15 .none .done))))))) (.alt 7 (.one 5 .none (.one 10 .none (.one 11 .none (.one 12 .none (.one 13 .none (.one 14 .none (.one 15 .none .done))))))) .none)) .none))) (.alt 5 (.one 1 .none (.one 7 .none (.one 9 .none (.one 10 .none (.one 11 .none (.one 12 .none (.one 13 .none (.one 14 .none (.one 15 .none .done))))))))) (.alt 7 (.alt 1 (.alt 5 (.one 9 .none (.one 10 .none (.one 11 .none (.one 12 .none (.one 13 .none (.one 14 .none (.one 15 .none .done))))))) (.alt 9 (.one 5 .none (.one 10 .none (.one 11 .none (.one 12 .none (.one 13 .none (.one 14 .none (.one 15 .none .done))))))) .none)) (.alt 5 (.one 1 .none (.one 9 .none (.one 10 .none (.one 11 .none (.one 12 .none (.one 13 .none (.one 14 .none (.one 15 .none .done)))))))) (.alt 9 (.alt 1 (.one 5 .none (.one 10 .none (.one 11 .none (.one 12 .none (.one 13 .none (.one 14 .none (.one 15 .none .done))))))) (.alt 5 (.one 1 .none (.one 10 .none (.one 11 .none (.one 12 .none (.one 13 .none (.one 14 .none (.one 15 .none .done))))))) .none)) .none))) (.alt 9 (.alt 1 (.alt 5 (.one 7 .none (.one 10 .none (.one 11 .none (.one 12 .none (.one 13 .none (.one 14 .none (.one 15 .none .done))))))) (.alt 7 (.one 5 .none (.one 10 .none (.one 11 .none (.one 12 .none (.one 13 .none (.one 14 .none (.one 15 .none .done))))))) .none)) (.alt 5 (.one 1 .none (.one 7 .none (.one 10 .none (.one 11 .none (.one 12 .none (.one 13 .none (.one 14 .none (.one 15 .none .done)))))))) (.alt 7 (.alt 1 (.one 5 .none (.one 10 .none (.one 11 .none (.one 12 .none (.one 13 .none (.one 14 .none (.one 15 .none .done))))))) (.alt 5 (.one 1 .none (.one 10 .none (.one 11 .none (.one 12 .none (.one 13 .none (.one 14 .none (.one 15 .none .done))))))) .none)) .none))) .none)))) (.alt 5 (.one 1 .none (.one 3 .none (.one 7 .none (.one 9 .none (.one 10 .none (.one 11 .none (.one 12 .none (.one 13 .none (.one 14 .none (.one 15 .none .done)))))))))) (.alt 7 (.alt 1 (.alt 3 (.alt 5 (.one 9 .none (.one 10 .none (.one 11 .none (.one 12 .none (.one 13 .none (.one 14 .none (.one 15 .none .done))))))) (.alt 9 (.one 5 .none (.one 10 .none (.one 11 .none (.one 12 .none (.one 13 .none (.one 14 .none (.one 15 .none .done))))))) .none)) (.alt 5 (.one 3 .none (.one 9 .none (.one 10 .none (.one 11 .none (.one 12 .none (.one 13 .none (.one 14 .none (.one 15 .none .done)))))))) (.alt 9 (.alt 3 (.one 5 .none (.one 10 .none (.one 11 .none (.one 12 .none (.one 13 .none (.one 14 .none (.one 15 .none .done))))))) (.alt 5 (.one 3 .none (.one 10 .none (.one 11 .none (.one 12 .none (.one 13 .none (.one 14 .none (.one 15 .none .done))))))) .none)) .none))) (.alt 3 (.alt 1 (.alt 5 (.one 9 .none (.one 10 .none (.one 11 .none (.one 12 .none (.one 13 .none (.one 14 .none (.one 15 .none .done))))))) (.alt 9 (.one 5 .none (.one 10 .none (.one 11 .none (.one 12 .none (.one 13 .none (.one 14 .none (.one 15 .none .done))))))) .none)) (.alt 5 (.one 1 .none (.one 9 .none (.one 10 .none (.one 11 .none (.one 12 .none (.one 13 .none (.one 14 .none (.one 15 .none .done)))))))) (.alt 9 (.alt 1 (.one 5 .none (.one 10 .none (.one 11 .none (.one 12 .none (.one 13 .none (.one 14 .none (.one 15 .none .done))))))) (.alt 5 (.one 1 .none (.one 10 .none (.one 11 .none (.one 12 .none (.one 13 .none (.one 14 .none (.one 15 .none .done))))))) .none)) .none))) (.alt 5 (.one 1 .none (.one 3 .none (.one 9 .none (.one 10 .none (.one 11 .none (.one 12 .none (.one 13 .none (.one 14 .none (.one 15 .none .done))))))))) (.alt 9 (.alt 1 (.alt 3 (.one 5 .none (.one 10 .none (.one 11 .none (.one 12 .none (.one 13 .none (.one 14 .none (.one 15 .none .done))))))) (.alt 5 (.one 3 .none (.one 10 .none (.one 11 .none (.one 12 .none (.one 13 .none (.one 14 .none (.one 15 .none .done))))))) .none)) (.alt 3 (.alt 1 (.one 5 .none (.one 10 .none (.one 11 .none (.one 12 .none (.one 13 .none (.one 14 .none (.one 15 .none .done))))))) (.alt 5 (.one 1 .none (.one 10 .none (.one 11 .none (.one 12 .none (.one 13 .none (.one 14 .none (.one 15 .none .done))))))) .none)) (.alt 5 (.one 1 .none (.one 3 .none (.one 10 .none (.one 11 .none (.one 12 .none (.one 13 .none (.one 14 .none (.one 15 .none .done)))))))) .none))) .none)))) (.alt 9 (.alt 1 (.alt 3 (.alt 5 (.one 7 .none (.one 10 .none (.one 11 .none (.one 12 .none (.one 13 .none (.one 14 .none (.one 15 .none .done))))))) (.alt 7 (.one 5 .none (.one 10 .none (.one 11 .none (.one 12 .none (.one 13 .none (.one 14 .none (.one 15 .none .done))))))) .none)) (.alt 5 (.one 3 .none (.one 7 .none (.one 10 .none (.one 11 .none (.one 12 .none (.one 13 .none (.one 14 .none (.one 15 .none .done)))))))) (.alt 7 (.alt 3 (.one 5 .none (.one 10 .none (.one 11 .none (.one 12 .none (.one 13 .none (.one 14 .none (.one 15 .none .done))))))) (.alt 5 (.one 3 .none (.one 10 .none (.one 11 .none (.one 12 .none (.one 13 .none (.one 14 .none (.one 15 .none .done))))))) .none)) .none))) (.alt 3 (.alt 1 (.alt 5 (.one 7 .none (.one 10 .none (.one 11 .none (.one 12 .none (.one 13 .none (.one 14 .none (.one 15 .none .done))))))) (.alt 7 (.one 5 .none (.one 10 .none (.one 11 .none (.one 12 .none (.one 13 .none (.one 14 .none (.one 15 .none .done))))))) .none)) (.alt 5 (.one 1 .none (.one 7 .none (.one 10 .none (.one 11 .none (.one 12 .none (.one 13 .none (.one 14 .none (.one 15 .none .done)))))))) (.alt 7 (.alt 1 (.one 5 .none (.one 10 .none (.one 11 .none (.one 12 .none (.one 13 .none (.one 14 .none (.one 15 .none .done))))))) (.alt 5 (.one 1 .none (.one 10 .none (.one 11 .none (.one 12 .none (.one 13 .none (.one 14 .none (.one 15 .none .done))))))) .none)) .none))) (.alt 5 (.one 1 .none (.one 3 .none (.one 7 .none (.one 10 .none (.one 11 .none (.one 12 .none (.one 13 .none (.one 14 .none (.one 15 .none .done))))))))) (.alt 7 (.alt 1 (.alt 3 (.one 5 .none (.one 10 .none (.one 11 .none (.one 12 .none (.one 13 .none (.one 14 .none (.one 15 .none .done))))))) (.alt 5 (.one 3 .none (.one 10 .none (.one 11 .none (.one 12 .none (.one 13 .none (.one 14 .none (.one 15 .none .done))))))) .none)) (.alt 3 (.alt 1 (.one 5 .none (.one 10 .none (.one 11 .none (.one 12 .none (.one 13 .none (.one 14 .none (.one 15 .none .done))))))) (.alt 5 (.one 1 .none (.one 10 .none (.one 11 .none (.one 12 .none (.one 13 .none (.one 14 .none (.one 15 .none .done))))))) .none)) (.alt 5 (.one 1 .none (.one 3 .none (.one 10 .none (.one 11 .none (.one 12 .none (.one 13 .none (.one 14 .none (.one 15 .none .done)))))))) .none))) .none)))) .none)))))))))) (fun s H => (bad = true ∧ covers s [(7, .nil .slice), (8, .int .i64 1), (5, .rows 1 ln (icol .i64 l)), (6, .rows 1 cn (icol .i64 came)), (2, .ptr 0 0 0), (1, .rows 2 mn (icol2 kd id))] ∧ H = [some ⟨34, 4, .lit [[.rows 1 cn (icol .i64 came), .rows 1 ln (icol .i64 l), .int .i64 level, .int .i64 first]]⟩]) ∨ (bad = false ∧ covers s [(7, .sl 1 0 ln), (8, .int .i64 0), (5, .rows 1 ln (icol .i64 l)), (6, .rows 1 cn (icol .i64 came)), (2, .ptr 0 0 0), (1, .rows 2 mn (icol2 kd id))] ∧ H = [some ⟨34, 4, .lit [[.rows 1 cn (icol .i64 came), .rows 1 ln (icol .i64 l), .int .i64 level, .int .i64 first]]⟩, some ⟨32, 1, .arr ln (icol .i64 l')⟩])) (by kernel_rfl) ?_ ?_
        · refine AnyT.goK tl_ok hS.ops ?_
          intro KK VA hKK hVA
          conv => cbv
          repeat' apply And.intro
          all_goals try trivial
          all_goals
            rw [hVA]
            clear hKK hVA KK VA
            refine AnyT.call rfl rfl rfl rfl rfl Try.func11 rfl (by decide) [] (by simp) (by simp) (by (first | rfl | ((conv => cbv); (repeat' apply And.intro) <;> first | rfl | trivial | (first | rfl | omega | (simp (disch := omega) only [hS.glob, wraps, plain, Int.ofNat_eq_natCast]; first | done | rfl | omega | (simp; done) | (simp; omega)) | (simp (disch := omega) only [hS.glob, wraps, plain, Int.ofNat_eq_natCast, Vx.toN]; omega))))) rfl h11 ?_
            rintro r Hc ⟨rfl, rfl⟩
            refine AnyT.goK tl_ok hS.ops ?_
            intro KK VA hKK hVA
            conv => cbv
            rw [hVA]
            clear hKK hVA KK VA
            refine AnyT.call rfl rfl rfl rfl rfl Try.func13 rfl (by decide) [] (by simp) (by simp) (by (first | rfl | ((conv => cbv); (repeat' apply And.intro) <;> first | rfl | trivial | (first | rfl | omega | (simp (disch := omega) only [hS.glob, wraps, plain, Int.ofNat_eq_natCast]; first | done | rfl | omega | (simp; done) | (simp; omega)) | (simp (disch := omega) only [hS.glob, wraps, plain, Int.ofNat_eq_natCast, Vx.toN]; omega))))) rfl h13 ?_
            rintro r Hc (⟨hb, rfl, rfl⟩ | ⟨hb, rfl, rfl⟩)
            · refine AnyT.goK tl_ok hS.ops ?_
              intro KK VA hKK hVA
              conv => cbv
              rw [hKK]
              exact .inl ⟨hb, ⟨rfl, rfl, rfl, rfl, rfl, rfl, trivial⟩, rfl⟩
            · refine AnyT.goK tl_ok hS.ops ?_
              intro KK VA hKK hVA
              conv => cbv
              rw [hKK]
              exact .inr ⟨hb, ⟨rfl, rfl, rfl, rfl, rfl, rfl, trivial⟩, rfl⟩
        · rintro s H (⟨hb, hcov, rfl⟩ | ⟨hb, hcov, rfl⟩)
          · refine V.to (s' := [(7, .nil .slice), (8, .int .i64 1), (5, .rows 1 ln (icol .i64 l)), (6, .rows 1 cn (icol .i64 came)), (2, .ptr 0 0 0), (1, .rows 2 mn (icol2 kd id))]) (H' := [some ⟨34, 4, .lit [[.rows 1 cn (icol .i64 came), .rows 1 ln (icol .i64 l), .int .i64 level, .int .i64 first]]⟩]) ?_ hcov rfl (by (repeat' first | exact trivial | rfl | exact Nat.le_refl _ | exact (fun _ _ => rfl) | (refine And.intro ?_ ?_) | (simp only [hS.glob, plain]; first | done | omega))) (by rw [hC]; exact Nat.zero_le _)
            refine V.goF (by first | exact trivial | assumption) Try.func4 tl_ok mixed hS.ops [] 400 ?_
            intro VV VA W hVV hVA hW
            conv => cbv
            rw [hVV]
            clear hVV hVA VV VA hW W
            refine V.call rfl rfl rfl rfl rfl Try.func14 rfl (by decide) [] (by simp) (by simp) (by (first | rfl | ((conv => cbv); (repeat' apply And.intro) <;> first | rfl | trivial | (first | rfl | omega | (simp (disch := omega) only [hS.glob, wraps, plain, Int.ofNat_eq_natCast]; first | done | rfl | omega | (simp; done) | (simp; omega)) | (simp (disch := omega) only [hS.glob, wraps, plain, Int.ofNat_eq_natCast, Vx.toN]; omega))))) rfl h14 ?_
            rintro r Hc (⟨hb2, rfl, rfl⟩ | ⟨hb2, rfl, rfl⟩)
            · refine V.goF (by first | exact trivial | assumption) Try.func4 tl_ok mixed hS.ops [] 400 ?_
              intro VV VA W hVV hVA hW
              conv => cbv
              rw [hVV]
              clear hVV hVA VV VA hW W
              refine V.call rfl rfl rfl rfl rfl Try.func15 rfl (by decide) [] (by simp) (by simp) (by (first | rfl | ((conv => cbv); (repeat' apply And.intro) <;> first | rfl | trivial | (first | rfl | omega | (simp (disch := omega) only [hS.glob, wraps, plain, Int.ofNat_eq_natCast]; first | done | rfl | omega | (simp; done) | (simp; omega)) | (simp (disch := omega) only [hS.glob, wraps, plain, Int.ofNat_eq_natCast, Vx.toN]; omega))))) rfl h15 ?_
              rintro r Hc ⟨rfl, rfl⟩
              refine V.goF (by first | exact trivial | assumption) Try.func4 tl_ok mixed hS.ops [] 400 ?_
              intro VV VA W hVV hVA hW
              conv => cbv
              rw [hVV]
              clear hVV hVA VV VA hW W
              refine V.call rfl rfl rfl rfl rfl Try.func15 rfl (by decide) [] (by simp) (by simp) (by (first | rfl | ((conv => cbv); (repeat' apply And.intro) <;> first | rfl | trivial | (first | rfl | omega | (simp (disch := omega) only [hS.glob, wraps, plain, Int.ofNat_eq_natCast]; first | done | rfl | omega | (simp; done) | (simp; omega)) | (simp (disch := omega) only [hS.glob, wraps, plain, Int.ofNat_eq_natCast, Vx.toN]; omega))))) rfl (f15_ok ln ln l l true ⟨fun _ => ⟨rfl, fun _ _ => rfl⟩, fun _ => rfl⟩) ?_
              rintro r Hc ⟨rfl, rfl⟩
              refine V.goF (by first | exact trivial | assumption) Try.func4 tl_ok mixed hS.ops [] 400 ?_
              intro VV VA W hVV hVA hW
              conv => cbv
              rw [hVV]
              clear hVV hVA VV VA hW W
              refine V.call rfl rfl rfl rfl rfl Try.func15 rfl (by decide) [] (by simp) (by simp) (by (first | rfl | ((conv => cbv); (repeat' apply And.intro) <;> first | rfl | trivial | (first | rfl | omega | (simp (disch := omega) only [hS.glob, wraps, plain, Int.ofNat_eq_natCast]; first | done | rfl | omega | (simp; done) | (simp; omega)) | (simp (disch := omega) only [hS.glob, wraps, plain, Int.ofNat_eq_natCast, Vx.toN]; omega))))) rfl (f15_ok cn cn came came true ⟨fun _ => ⟨rfl, fun _ _ => rfl⟩, fun _ => rfl⟩) ?_
              rintro r Hc ⟨rfl, rfl⟩
              refine V.goF (by first | exact trivial | assumption) Try.func4 tl_ok mixed hS.ops [] 400 ?_
              intro VV VA W hVV hVA hW
              conv => cbv
              rw [hVV]
              clear hVV hVA VV VA hW W
              refine V.call rfl rfl rfl rfl rfl Try.func8 rfl (by decide) [] (by simp) (by simp) (by (first | rfl | ((conv => cbv); (repeat' apply And.intro) <;> first | rfl | trivial | (first | rfl | omega | (simp (disch := omega) only [hS.glob, wraps, plain, Int.ofNat_eq_natCast]; first | done | rfl | omega | (simp; done) | (simp; omega)) | (simp (disch := omega) only [hS.glob, wraps, plain, Int.ofNat_eq_natCast, Vx.toN]; omega))))) rfl h8 ?_
              rintro r Hc ⟨rfl, rfl⟩
              refine V.goF (by first | exact trivial | assumption) Try.func4 tl_ok mixed hS.ops [] 400 ?_
              intro VV VA W hVV hVA hW
              conv => cbv
              have e1 : ieq 1 1 = true := by simp (disch := first | omega | (simp only [hS.glob, wraps, plain, Int.ofNat_eq_natCast]; omega)) only [hS.glob, wraps, plain, Int.ofNat_eq_natCast]
              simp only [e1]
              conv => cbv
              trivial
            · rw [hb] at hb2
              cases hb2
          · refine V.to (s' := [(7, .sl 1 0 ln), (8, .int .i64 0), (5, .rows 1 ln (icol .i64 l)), (6, .rows 1 cn (icol .i64 came)), (2, .ptr 0 0 0), (1, .rows 2 mn (icol2 kd id))]) (H' := [some ⟨34, 4, .lit [[.rows 1 cn (icol .i64 came), .rows 1 ln (icol .i64 l), .int .i64 level, .int .i64 first]]⟩, some ⟨32, 1, .arr ln (icol .i64 l')⟩]) ?_ hcov rfl (by (repeat' first | exact trivial | rfl | exact Nat.le_refl _ | exact (fun _ _ => rfl) | (refine And.intro ?_ ?_) | (simp only [hS.glob, plain]; first | done | omega))) (by rw [hC]; exact Nat.zero_le _)
            refine V.goF (by first | exact trivial | assumption) Try.func4 tl_ok mixed hS.ops [] 400 ?_
            intro VV VA W hVV hVA hW
            conv => cbv
            rw [hVV]
            clear hVV hVA VV VA hW W
            refine V.call rfl rfl rfl rfl rfl Try.func14 rfl (by decide) [] (by simp) (by simp) (by (first | rfl | ((conv => cbv); (repeat' apply And.intro) <;> first | rfl | trivial | (first | rfl | omega | (simp (disch := omega) only [hS.glob, wraps, plain, Int.ofNat_eq_natCast]; first | done | rfl | omega | (simp; done) | (simp; omega)) | (simp (disch := omega) only [hS.glob, wraps, plain, Int.ofNat_eq_natCast, Vx.toN]; omega))))) rfl h14 ?_
            rintro r Hc (⟨hb2, rfl, rfl⟩ | ⟨hb2, rfl, rfl⟩)
            · rw [hb] at hb2
              cases hb2
            · refine V.goF (by first | exact trivial | assumption) Try.func4 tl_ok mixed hS.ops [] 6 ?_
              intro VV VA W hVV hVA hW
              conv => cbv
              rw [hVV]
              clear hVV hVA VV VA hW W
              refine V.freeze0 7 1 ln (by rfl) (by rfl) (by rfl) (by first | decide | omega | exact (Nat.succ_pos _)) (by rfl) (by rfl) (by first | exact Nat.le_refl _ | decide | omega | (simp only [Cont.n]; omega)) ?_
              refine V.freeze0 9 2 ln (by rfl) (by rfl) (by rfl) (by first | decide | omega | exact (Nat.succ_pos _)) (by rfl) (by rfl) (by first | exact Nat.le_refl _ | decide | omega | (simp only [Cont.n]; omega)) ?_
              refine V.goF (by first | exact trivial | assumption) Try.func4 tl_ok mixed hS.ops [] 400 ?_
              intro VV VA W hVV hVA hW
              conv => cbv
              rw [hVV]
              clear hVV hVA VV VA hW W
              refine V.call rfl rfl rfl rfl rfl Try.func15 rfl (by decide) [] (by simp) (by simp) (by (first | rfl | ((conv => cbv); (repeat' apply And.intro) <;> first | rfl | trivial | (first | rfl | omega | (simp (disch := omega) only [hS.glob, wraps, plain, Int.ofNat_eq_natCast]; first | done | rfl | omega | (simp; done) | (simp; omega)) | (simp (disch := omega) only [hS.glob, wraps, plain, Int.ofNat_eq_natCast, Vx.toN]; omega))))) rfl (f15_ok ln ln l' l' true ⟨fun _ => ⟨rfl, fun _ _ => rfl⟩, fun _ => rfl⟩) ?_
              rintro r Hc ⟨rfl, rfl⟩
              refine V.goF (by first | exact trivial | assumption) Try.func4 tl_ok mixed hS.ops [] 400 ?_
              intro VV VA W hVV hVA hW
              conv => cbv
              rw [hVV]
              clear hVV hVA VV VA hW W
              refine V.call rfl rfl rfl rfl rfl Try.func15 rfl (by decide) [] (by simp) (by simp) (by (first | rfl | ((conv => cbv); (repeat' apply And.intro) <;> first | rfl | trivial | (first | rfl | omega | (simp (disch := omega) only [hS.glob, wraps, plain, Int.ofNat_eq_natCast]; first | done | rfl | omega | (simp; done) | (simp; omega)) | (simp (disch := omega) only [hS.glob, wraps, plain, Int.ofNat_eq_natCast, Vx.toN]; omega))))) rfl (f15_ok ln ln l l true ⟨fun _ => ⟨rfl, fun _ _ => rfl⟩, fun _ => rfl⟩) ?_
              rintro r Hc ⟨rfl, rfl⟩
              refine V.goF (by first | exact trivial | assumption) Try.func4 tl_ok mixed hS.ops [] 400 ?_
              intro VV VA W hVV hVA hW
              conv => cbv
              rw [hVV]
              clear hVV hVA VV VA hW W
              refine V.call rfl rfl rfl rfl rfl Try.func15 rfl (by decide) [] (by simp) (by simp) (by (first | rfl | ((conv => cbv); (repeat' apply And.intro) <;> first | rfl | trivial | (first | rfl | omega | (simp (disch := omega) only [hS.glob, wraps, plain, Int.ofNat_eq_natCast]; first | done | rfl | omega | (simp; done) | (simp; omega)) | (simp (disch := omega) only [hS.glob, wraps, plain, Int.ofNat_eq_natCast, Vx.toN]; omega))))) rfl (f15_ok cn cn came came true ⟨fun _ => ⟨rfl, fun _ _ => rfl⟩, fun _ => rfl⟩) ?_
              rintro r Hc ⟨rfl, rfl⟩
              refine V.goF (by first | exact trivial | assumption) Try.func4 tl_ok mixed hS.ops [] 400 ?_
              intro VV VA W hVV hVA hW
              conv => cbv
              rw [hVV]
              clear hVV hVA VV VA hW W
              refine V.call rfl rfl rfl rfl rfl Try.func8 rfl (by decide) [] (by simp) (by simp) (by (first | rfl | ((conv => cbv); (repeat' apply And.intro) <;> first | rfl | trivial | (first | rfl | omega | (simp (disch := omega) only [hS.glob, wraps, plain, Int.ofNat_eq_natCast]; first | done | rfl | omega | (simp; done) | (simp; omega)) | (simp (disch := omega) only [hS.glob, wraps, plain, Int.ofNat_eq_natCast, Vx.toN]; omega))))) rfl h8 ?_
              rintro r Hc ⟨rfl, rfl⟩
              refine V.goF (by first | exact trivial | assumption) Try.func4 tl_ok mixed hS.ops [] 400 ?_
              intro VV VA W hVV hVA hW
              conv => cbv
              have e1 : ieq 0 0 = true := by simp (disch := first | omega | (simp only [hS.glob, wraps, plain, Int.ofNat_eq_natCast]; omega)) only [hS.glob, wraps, plain, Int.ofNat_eq_natCast]
              simp only [e1]
              conv => cbv
              trivial
      · conv => cbv
        rw [hVV]
        clear hVV hVA VV VA hW W
        refine V.call rfl rfl rfl rfl rfl Try.func8 rfl (by decide) [] (by simp) (by simp) (by (first | rfl | ((conv => cbv); (repeat' apply And.intro) <;> first | rfl | trivial | (first | rfl | omega | (simp (disch := omega) only [hS.glob, wraps, plain, Int.ofNat_eq_natCast]; first | done | rfl | omega | (simp; done) | (simp; omega)) | (simp (disch := omega) only [hS.glob, wraps, plain, Int.ofNat_eq_natCast, Vx.toN]; omega))))) rfl h8 ?_
        rintro r Hc ⟨rfl, rfl⟩
        refine V.goF (by first | exact trivial | assumption) Try.func4 tl_ok mixed hS.ops [] 400 ?_
        intro VV VA W hVV hVA hW
        conv => cbv
        trivial
    · conv => cbv
      rw [hVV]
      clear hVV hVA VV VA hW W
      refine V.call rfl rfl rfl rfl rfl Try.func8 rfl (by decide) [] (by simp) (by simp) (by (first | rfl | ((conv => cbv); (repeat' apply And.intro) <;> first | rfl | trivial | (first | rfl | omega | (simp (disch := omega) only [hS.glob, wraps, plain, Int.ofNat_eq_natCast]; first | done | rfl | omega | (simp; done) | (simp; omega)) | (simp (disch := omega) only [hS.glob, wraps, plain, Int.ofNat_eq_natCast, Vx.toN]; omega))))) rfl h8 ?_
      rintro r Hc ⟨rfl, rfl⟩
      refine V.goF (by first | exact trivial | assumption) Try.func4 tl_ok mixed hS.ops [] 400 ?_
      intro VV VA W hVV hVA hW
      conv => cbv
      trivial
  · conv => cbv
    rw [hVV]
    clear hVV hVA VV VA hW W
    refine V.call rfl rfl rfl rfl rfl Try.func8 rfl (by decide) [] (by simp) (by simp) (by (first | rfl | ((conv => cbv); (repeat' apply And.intro) <;> first | rfl | trivial | (first | rfl | omega | (simp (disch := omega) only [hS.glob, wraps, plain, Int.ofNat_eq_natCast]; first | done | rfl | omega | (simp; done) | (simp; omega)) | (simp (disch := omega) only [hS.glob, wraps, plain, Int.ofNat_eq_natCast, Vx.toN]; omega))))) rfl h8 ?_
    rintro r Hc ⟨rfl, rfl⟩
    refine V.goF (by first | exact trivial | assumption) Try.func4 tl_ok mixed hS.ops [] 400 ?_
    intro VV VA W hVV hVA hW
    conv => cbv
    trivial
theorem f4_ok (cn ln mn : Nat) (came l kd id : Nat → Int) (level first : Int) (m0 : cn ≤ 140737488355328) (m1 : ln ≤ 140737488355328) (m2 : mn ≤ 140737488355328) : FSpec Try.prog 4 [.agg [.rows 1 cn (icol .i64 came), .rows 1 ln (icol .i64 l), .int .i64 level, .int .i64 first], .rows 2 mn (icol2 kd id)] [] (fun r H' => r = .bool true ∧ H' = []) := by
  refine (f4_ok1 cn ln mn came l kd id level first m0 m1 m2).weaken ?_
  rintro r H' rfl
  exact ⟨[], by cases H' <;> simp [heapCov], rfl, Nat.le_refl _, rfl, rfl⟩
end Go.Proofs.Ytcoanfhjgmndcaa
