/- Contracts of functions by an evaluator of the model: its part T3. -/
import Derived.Test.YtcoanfhjgmndcaaT2
set_option linter.all false
/- The document's pairs. -/
namespace Go.Proofs.Ytcoanfhjgmndcaa
open Go Vx

theorem f20_ok (ln mn i : Nat) (hi : i < ln) (hm : mn ≤ 8796093022208) (hl : ln ≤ 17592186044416) (l kd id : Nat → Int) (R : Int) (hR : R = (kindM mn l kd i : Int)) : FSpec Try.prog 20 [.rows 1 ln (icol .i64 l), .rows 2 mn (icol2 kd id), .int .i64 i] [] (fun r H' => r = .int .i64 R ∧ H' = []) := by
  obtain ⟨z, hz⟩ : ∃ z : Int, z = i := ⟨_, rfl⟩
  rw [← hz]
  unfold kindM at hR
  refine FSpec.of (fn := Try.f20) Try.func20 rfl rfl (by simp) fun C hC => ?_
  obtain ⟨iadd, isub, imul, iquo, irem, iband, ibor, ibxor, ibandn, ishl, ishr, iconv, ieq, ine, ilt, ile, igt, ige, bbeq, bbne, bnot, bband, sseq, ssne, sscat, sssub, sslen, sssz, ssbyte, toN, ofN, addN, subN, eqN, ltB, leN, imx, imn, inb, leb, sslt, ltN, fit, ne0, ge0, ssfit, minN, inR, hS⟩ := names
  obtain rfl : z = ofN i := by simp (disch := first | omega | (simp only [hS.glob, wraps, plain, Int.ofNat_eq_natCast]; omega)) only [hS.glob, wraps, plain, Int.ofNat_eq_natCast]; exact hz
  refine V.goF (by first | exact trivial | assumption) Try.func20 tl_ok mixed hS.ops [] 400 ?_
  intro VV VA W hVV hVA hW
  conv => cbv
  cases h1 : ige (ofN i) (ofN mn)
  · conv => cbv
    simp (disch := first | omega | (simp only [hS.glob, wraps, plain, Int.ofNat_eq_natCast]; omega)) only [hS.glob, wraps, plain, Int.ofNat_eq_natCast] at h1
    repeat (refine ⟨by first | (rw [hW]; show ordOk _ _ _ = true; kernel_rfl) | (first | trivial | omega | (simp (disch := omega) only [hS.glob, wraps, plain, Int.ofNat_eq_natCast]; first | done | omega | trivial | (simp; done) | (simp; omega) | (constructor <;> omega)) | (simp (disch := omega) only [hS.glob, wraps, plain, Int.ofNat_eq_natCast, Vx.toN]; omega)), ?_⟩)
    simp only [hS.tidy]
    cases h2 : ine (l i) 13
    · conv => cbv
      simp (disch := first | omega | (simp only [hS.glob, wraps, plain, Int.ofNat_eq_natCast]; omega)) only [hS.glob, wraps, plain, Int.ofNat_eq_natCast] at h2
      repeat (refine ⟨by first | (rw [hW]; show ordOk _ _ _ = true; kernel_rfl) | (first | trivial | omega | (simp (disch := omega) only [hS.glob, wraps, plain, Int.ofNat_eq_natCast]; first | done | omega | trivial | (simp; done) | (simp; omega) | (constructor <;> omega)) | (simp (disch := omega) only [hS.glob, wraps, plain, Int.ofNat_eq_natCast, Vx.toN]; omega)), ?_⟩)
      simp only [hS.tidy]
      rw [if_pos ⟨by omega, h2⟩] at hR
      cases h3 : ilt (kd i) 1
      · conv => cbv
        simp (disch := first | omega | (simp only [hS.glob, wraps, plain, Int.ofNat_eq_natCast]; omega)) only [hS.glob, wraps, plain, Int.ofNat_eq_natCast] at h3
        repeat (refine ⟨by first | (rw [hW]; show ordOk _ _ _ = true; kernel_rfl) | (first | trivial | omega | (simp (disch := omega) only [hS.glob, wraps, plain, Int.ofNat_eq_natCast]; first | done | omega | trivial | (simp; done) | (simp; omega) | (constructor <;> omega)) | (simp (disch := omega) only [hS.glob, wraps, plain, Int.ofNat_eq_natCast, Vx.toN]; omega)), ?_⟩)
        simp only [hS.tidy]
        cases h4 : igt (kd i) 2
        · conv => cbv
          simp (disch := first | omega | (simp only [hS.glob, wraps, plain, Int.ofNat_eq_natCast]; omega)) only [hS.glob, wraps, plain, Int.ofNat_eq_natCast] at h4
          repeat (refine ⟨by first | (rw [hW]; show ordOk _ _ _ = true; kernel_rfl) | (first | trivial | omega | (simp (disch := omega) only [hS.glob, wraps, plain, Int.ofNat_eq_natCast]; first | done | omega | trivial | (simp; done) | (simp; omega) | (constructor <;> omega)) | (simp (disch := omega) only [hS.glob, wraps, plain, Int.ofNat_eq_natCast, Vx.toN]; omega)), ?_⟩)
          simp only [hS.tidy]
          refine ⟨sti ?_, by trivial⟩
          rw [hR]
          split
          · assumption
          · split <;> omega
        · conv => cbv
          simp (disch := first | omega | (simp only [hS.glob, wraps, plain, Int.ofNat_eq_natCast]; omega)) only [hS.glob, wraps, plain, Int.ofNat_eq_natCast] at h4
          refine ⟨sti ?_, by trivial⟩
          rw [hR, if_neg (by omega), if_neg (by omega)]
          rfl
      · conv => cbv
        simp (disch := first | omega | (simp only [hS.glob, wraps, plain, Int.ofNat_eq_natCast]; omega)) only [hS.glob, wraps, plain, Int.ofNat_eq_natCast] at h3
        refine ⟨sti ?_, by trivial⟩
        rw [hR, if_neg (by omega), if_neg (by omega)]
        rfl
    · conv => cbv
      simp (disch := first | omega | (simp only [hS.glob, wraps, plain, Int.ofNat_eq_natCast]; omega)) only [hS.glob, wraps, plain, Int.ofNat_eq_natCast] at h2
      refine ⟨sti ?_, by trivial⟩
      rw [hR, if_neg (by omega)]
      rfl
  · conv => cbv
    simp (disch := first | omega | (simp only [hS.glob, wraps, plain, Int.ofNat_eq_natCast]; omega)) only [hS.glob, wraps, plain, Int.ofNat_eq_natCast] at h1
    refine ⟨sti ?_, by trivial⟩
    rw [hR, if_neg (by omega)]
    rfl
def castP (p : Nat × Nat) : Int × Int := (p.1, p.2)
theorem f12_ok1 (ln mn : Nat) (hm : mn ≤ 1000000) (hl : ln ≤ 1000000) (l kd id : Nat → Int) : FSpec Try.prog 12 [.rows 1 ln (icol .i64 l), .rows 2 mn (icol2 kd id)] [] (fun r H' => ∃ m a b x y, r = .sl 2 0 m ∧ H' = [x, y, some ⟨41, 2, .arr m (icol2 a b)⟩] ∧ tab m (fun i => (a i, b i)) = (pairsL ln mn l kd id).map castP) := by
  obtain ⟨Q, hQ⟩ : ∃ Q : AV → Hp → Prop, Q = (fun r H' => ∃ m a b x y, r = .sl 2 0 m ∧ H' = [x, y, some ⟨41, 2, .arr m (icol2 a b)⟩] ∧ tab m (fun i => (a i, b i)) = (pairsL ln mn l kd id).map castP) := ⟨_, rfl⟩
  rw [← hQ]
  have hinv := pinv mn l kd id
  have hrun : ∀ i, prun mn l kd id (i + 1) = pstep id (kindM mn l kd i) i (prun mn l kd id i) := fun _ => rfl
  have hrun0 : prun mn l kd id 0 = ⟨[], [], false⟩ := rfl
  have hpl : pairsL ln mn l kd id = canon (prun mn l kd id ln).out ln := by unfold pairsL; rw [prun_min]
  have hstop := fun i h d => prun_stop mn l kd id i h d
  have hk01 : ∀ i, kindM mn l kd i ≠ 0 → i < mn := fun i h => by
    unfold kindM at h
    split at h
    · rename_i h1; exact h1.1
    · exact absurd rfl h
  rw [hpl] at hQ
  generalize prun mn l kd id = R at hinv hrun hrun0 hpl hstop hQ
  refine FSpec.of (fn := Try.f12) Try.func12 rfl rfl (by simp) fun C hC => ?_
  obtain ⟨iadd, isub, imul, iquo, irem, iband, ibor, ibxor, ibandn, ishl, ishr, iconv, ieq, ine, ilt, ile, igt, ige, bbeq, bbne, bnot, bband, sseq, ssne, sscat, sssub, sslen, sssz, ssbyte, toN, ofN, addN, subN, eqN, ltB, leN, imx, imn, inb, leb, sslt, ltN, fit, ne0, ge0, ssfit, minN, inR, hS⟩ := names
  refine V.goF (by first | exact trivial | assumption) Try.func12 tl_ok mixed hS.ops [] 400 ?_
  intro VV VA W hVV hVA hW
  conv => cbv
  repeat (refine ⟨by first | (rw [hW]; show ordOk _ _ _ = true; kernel_rfl) | (first | trivial | omega | (simp (disch := omega) only [hS.glob, wraps, plain, Int.ofNat_eq_natCast]; first | done | omega | trivial | (simp; done) | (simp; omega) | (constructor <;> omega)) | (simp (disch := omega) only [hS.glob, wraps, plain, Int.ofNat_eq_natCast, Vx.toN]; omega)), ?_⟩)
  simp only [hS.tidy]
  rw [hVV]
  clear hVV hVA VV VA hW W
  refine V.phantom 6 3 1 (icol .i64 (fun _ => 0)) rfl ?_
  refine V.to (s' := [(7, .int .i64 (ofN 0)), (6, .sl 1 0 0), (5, .sl 0 0 ln), (0, .rows 1 ln (icol .i64 l)), (1, .rows 2 mn (icol2 kd id))]) (H' := [some ⟨3, 1, .arr ln (icol .i64 (fun _ => 0))⟩, some ⟨3, 1, .arr 0 (icol .i64 (fun _ => 0))⟩]) ?_ (by (repeat' first | exact trivial | rfl | (refine And.intro ?_ ?_) | (refine sti ?_; (first | rfl | omega | (simp (disch := omega) only [hS.glob, wraps, plain, Int.ofNat_eq_natCast]; first | done | rfl | omega | (simp; done) | (simp; omega)) | (simp (disch := omega) only [hS.glob, wraps, plain, Int.ofNat_eq_natCast, Vx.toN]; omega))) | (refine slq ?_ ?_ ?_ <;> (first | rfl | omega | (simp (disch := omega) only [hS.glob, wraps, plain, Int.ofNat_eq_natCast]; first | done | rfl | omega | (simp; done) | (simp; omega)) | (simp (disch := omega) only [hS.glob, wraps, plain, Int.ofNat_eq_natCast, Vx.toN]; omega))) | (refine ptq ?_ ?_ ?_ <;> (first | rfl | omega | (simp (disch := omega) only [hS.glob, wraps, plain, Int.ofNat_eq_natCast]; first | done | rfl | omega | (simp; done) | (simp; omega)) | (simp (disch := omega) only [hS.glob, wraps, plain, Int.ofNat_eq_natCast, Vx.toN]; omega))) | (refine blq ?_; (first | rfl | omega | (simp (disch := omega) only [hS.glob, wraps, plain, Int.ofNat_eq_natCast]; first | done | rfl | omega | (simp; done) | (simp; omega)) | (simp (disch := omega) only [hS.glob, wraps, plain, Int.ofNat_eq_natCast, Vx.toN]; omega))))) rfl (by (repeat' first | exact trivial | rfl | exact Nat.le_refl _ | exact (fun _ _ => rfl) | (refine And.intro ?_ ?_) | (simp only [hS.glob, plain]; first | done | omega))) (by rw [hC]; simp)
  refine V.loop (γ := Nat × Nat × (Nat → Int) × (Nat → Int)) (fun g => g.1 ≤ ln ∧ (R g.1).stop = false ∧ g.2.1 = (R g.1).st.length ∧ tab g.2.1 g.2.2.1 = (R g.1).st.map (fun x : Nat => (x : Int)) ∧ ∀ j, g.2.2.2 j = (part (R g.1).out j : Int))
    (fun g => [(7, .int .i64 (ofN g.1)), (6, .sl 1 0 g.2.1), (5, .sl 0 0 ln), (0, .rows 1 ln (icol .i64 l)), (1, .rows 2 mn (icol2 kd id))]) (fun g => [some ⟨3, 1, .arr ln (icol .i64 g.2.2.2)⟩, some ⟨3, 1, .arr g.2.1 (icol .i64 g.2.2.1)⟩]) (fun g => ln - g.1) ?_ (0, 0, (fun _ => 0), (fun _ => 0)) ⟨Nat.zero_le _, by rw [hrun0], by rw [hrun0]; rfl, by rw [hrun0]; rfl, fun j => by rw [hrun0]; rfl⟩
  rintro ⟨i, n, sp, p⟩ ⟨hi, hs, hn, hsp, hp⟩ hback
  dsimp only at hi hs hn hsp hp hback ⊢
  have hI := hinv i
  have hn63 := hI.len.1
  rw [← hn] at hn63
  refine V.goF (by first | exact trivial | assumption) Try.func12 tl_ok mixed hS.ops [] 400 ?_
  intro VV VA W hVV hVA hW
  conv => cbv
  cases h1 : ilt (ofN i) (ofN ln)
  · conv => cbv
    simp (disch := first | omega | (simp only [hS.glob, wraps, plain, Int.ofNat_eq_natCast]; omega)) only [hS.glob, wraps, plain, Int.ofNat_eq_natCast] at h1
    have hpf : ∀ j, p j = (part (R ln).out j : Int) := by
      have : i = ln := by omega
      rw [this] at hp; exact hp
    rw [hVV]
    clear hVV hVA VV VA hW W hback
    obtain ⟨OUT, hOUT⟩ : ∃ O, O = (R ln).out := ⟨_, rfl⟩
    rw [← hOUT] at hpf hQ
    refine V.phantom 10 41 2 (icol2 (fun _ => 0) (fun _ => 0)) rfl ?_
    refine V.to (s' := [(11, .int .i64 (ofN 0)), (10, .sl 2 0 0), (5, .sl 0 0 ln), (0, .rows 1 ln (icol .i64 l))]) (H' := [some ⟨3, 1, .arr ln (icol .i64 p)⟩, none, some ⟨41, 2, .arr 0 (icol2 (fun _ => 0) (fun _ => 0))⟩]) ?_ (by (repeat' first | exact trivial | rfl | (refine And.intro ?_ ?_) | (refine sti ?_; (first | rfl | omega | (simp (disch := omega) only [hS.glob, wraps, plain, Int.ofNat_eq_natCast]; first | done | rfl | omega | (simp; done) | (simp; omega)) | (simp (disch := omega) only [hS.glob, wraps, plain, Int.ofNat_eq_natCast, Vx.toN]; omega))) | (refine slq ?_ ?_ ?_ <;> (first | rfl | omega | (simp (disch := omega) only [hS.glob, wraps, plain, Int.ofNat_eq_natCast]; first | done | rfl | omega | (simp; done) | (simp; omega)) | (simp (disch := omega) only [hS.glob, wraps, plain, Int.ofNat_eq_natCast, Vx.toN]; omega))) | (refine ptq ?_ ?_ ?_ <;> (first | rfl | omega | (simp (disch := omega) only [hS.glob, wraps, plain, Int.ofNat_eq_natCast]; first | done | rfl | omega | (simp; done) | (simp; omega)) | (simp (disch := omega) only [hS.glob, wraps, plain, Int.ofNat_eq_natCast, Vx.toN]; omega))) | (refine blq ?_; (first | rfl | omega | (simp (disch := omega) only [hS.glob, wraps, plain, Int.ofNat_eq_natCast]; first | done | rfl | omega | (simp; done) | (simp; omega)) | (simp (disch := omega) only [hS.glob, wraps, plain, Int.ofNat_eq_natCast, Vx.toN]; omega))))) rfl (by (repeat' first | exact trivial | rfl | exact Nat.le_refl _ | exact (fun _ _ => rfl) | (refine And.intro ?_ ?_) | (simp only [hS.glob, plain]; first | done | omega))) (by rw [hC]; simp)
    refine V.loop (γ := Nat × Nat × (Nat → Int) × (Nat → Int)) (fun g => g.1 ≤ ln ∧ g.2.1 ≤ g.1 ∧ tab g.2.1 (fun j => (g.2.2.1 j, g.2.2.2 j)) = (canon OUT g.1).map castP)
      (fun g => [(11, .int .i64 (ofN g.1)), (10, .sl 2 0 g.2.1), (5, .sl 0 0 ln), (0, .rows 1 ln (icol .i64 l))]) (fun g => [some ⟨3, 1, .arr ln (icol .i64 p)⟩, none, some ⟨41, 2, .arr g.2.1 (icol2 g.2.2.1 g.2.2.2)⟩]) (fun g => ln - g.1) ?_ (0, 0, (fun _ => 0), (fun _ => 0)) ⟨Nat.zero_le _, Nat.le_refl _, rfl⟩
    rintro ⟨i, m, a, b⟩ ⟨hi, hm2, hab⟩ hback
    dsimp only at hi hm2 hab hback ⊢
    refine V.goF (by first | exact trivial | assumption) Try.func12 tl_ok mixed hS.ops [] 400 ?_
    intro VV VA W hVV hVA hW
    conv => cbv
    cases h1 : ilt (ofN i) (ofN ln)
    · conv => cbv
      simp (disch := first | omega | (simp only [hS.glob, wraps, plain, Int.ofNat_eq_natCast]; omega)) only [hS.glob, wraps, plain, Int.ofNat_eq_natCast] at h1
      rw [hQ]
      have : i = ln := by omega
      exact ⟨m, a, b, _, _, rfl, rfl, by rw [hab, this]⟩
    · conv => cbv
      simp (disch := first | omega | (simp only [hS.glob, wraps, plain, Int.ofNat_eq_natCast]; omega)) only [hS.glob, wraps, plain, Int.ofNat_eq_natCast] at h1
      repeat (refine ⟨by first | (rw [hW]; show ordOk _ _ _ = true; kernel_rfl) | (first | trivial | omega | (simp (disch := omega) only [hS.glob, wraps, plain, Int.ofNat_eq_natCast]; first | done | omega | trivial | (simp; done) | (simp; omega) | (constructor <;> omega)) | (simp (disch := omega) only [hS.glob, wraps, plain, Int.ofNat_eq_natCast, Vx.toN]; omega)), ?_⟩)
      simp only [hS.tidy]
      have hpi := hpf i
      obtain ⟨c, hc⟩ : ∃ c, c = part OUT i := ⟨_, rfl⟩
      rw [← hc] at hpi
      have hcs := canon_succ OUT i
      rw [← hc] at hcs
      cases h2 : igt (p i) 0
      · conv => cbv
        simp (disch := first | omega | (simp only [hS.glob, wraps, plain, Int.ofNat_eq_natCast]; omega)) only [hS.glob, wraps, plain, Int.ofNat_eq_natCast] at h2
        rw [hVV]
        clear hVV hVA VV VA hW W
        exact V.to (hback (i + 1, m, a, b) ⟨by simp only; omega, by simp only; omega, by simp only; rw [hab, hcs, if_neg (by omega), List.append_nil]⟩ (by simp only; omega)) (by (repeat' first | exact trivial | rfl | (refine And.intro ?_ ?_) | (refine sti ?_; (first | rfl | omega | (simp (disch := omega) only [hS.glob, wraps, plain, Int.ofNat_eq_natCast]; first | done | rfl | omega | (simp; done) | (simp; omega)) | (simp (disch := omega) only [hS.glob, wraps, plain, Int.ofNat_eq_natCast, Vx.toN]; omega))) | (refine slq ?_ ?_ ?_ <;> (first | rfl | omega | (simp (disch := omega) only [hS.glob, wraps, plain, Int.ofNat_eq_natCast]; first | done | rfl | omega | (simp; done) | (simp; omega)) | (simp (disch := omega) only [hS.glob, wraps, plain, Int.ofNat_eq_natCast, Vx.toN]; omega))) | (refine ptq ?_ ?_ ?_ <;> (first | rfl | omega | (simp (disch := omega) only [hS.glob, wraps, plain, Int.ofNat_eq_natCast]; first | done | rfl | omega | (simp; done) | (simp; omega)) | (simp (disch := omega) only [hS.glob, wraps, plain, Int.ofNat_eq_natCast, Vx.toN]; omega))) | (refine blq ?_; (first | rfl | omega | (simp (disch := omega) only [hS.glob, wraps, plain, Int.ofNat_eq_natCast]; first | done | rfl | omega | (simp; done) | (simp; omega)) | (simp (disch := omega) only [hS.glob, wraps, plain, Int.ofNat_eq_natCast, Vx.toN]; omega))))) rfl (by (repeat' first | exact trivial | rfl | exact Nat.le_refl _ | exact (fun _ _ => rfl) | (refine And.intro ?_ ?_) | (simp only [hS.glob, plain]; first | done | omega))) (by rw [hC]; simp)
      · conv => cbv
        simp (disch := first | omega | (simp only [hS.glob, wraps, plain, Int.ofNat_eq_natCast]; omega)) only [hS.glob, wraps, plain, Int.ofNat_eq_natCast] at h2
        repeat (refine ⟨by first | (rw [hW]; show ordOk _ _ _ = true; kernel_rfl) | (first | trivial | omega | (simp (disch := omega) only [hS.glob, wraps, plain, Int.ofNat_eq_natCast]; first | done | omega | trivial | (simp; done) | (simp; omega) | (constructor <;> omega)) | (simp (disch := omega) only [hS.glob, wraps, plain, Int.ofNat_eq_natCast, Vx.toN]; omega)), ?_⟩)
        simp only [hS.tidy]
        obtain ⟨a', a1, a2⟩ := snocF a m (i : Int)
        obtain ⟨b', b1, b2⟩ := snocF b m (p i)
        rw [hVV]
        clear hVV hVA VV VA hW W
        refine V.pick [0, 1, 4] (by decide) (by rw [hC]; exact begins_of rfl) (by rfl) (by rfl) ?_
        refine V.to (hback (i + 1, m + 1, a', b') ⟨by simp only; omega, by simp only; omega, ?_⟩ (by simp only; omega)) (by (repeat' first | exact trivial | rfl | (refine And.intro ?_ ?_) | (refine sti ?_; (first | rfl | omega | (simp (disch := omega) only [hS.glob, wraps, plain, Int.ofNat_eq_natCast]; first | done | rfl | omega | (simp; done) | (simp; omega)) | (simp (disch := omega) only [hS.glob, wraps, plain, Int.ofNat_eq_natCast, Vx.toN]; omega))) | (refine slq ?_ ?_ ?_ <;> (first | rfl | omega | (simp (disch := omega) only [hS.glob, wraps, plain, Int.ofNat_eq_natCast]; first | done | rfl | omega | (simp; done) | (simp; omega)) | (simp (disch := omega) only [hS.glob, wraps, plain, Int.ofNat_eq_natCast, Vx.toN]; omega))) | (refine ptq ?_ ?_ ?_ <;> (first | rfl | omega | (simp (disch := omega) only [hS.glob, wraps, plain, Int.ofNat_eq_natCast]; first | done | rfl | omega | (simp; done) | (simp; omega)) | (simp (disch := omega) only [hS.glob, wraps, plain, Int.ofNat_eq_natCast, Vx.toN]; omega))) | (refine blq ?_; (first | rfl | omega | (simp (disch := omega) only [hS.glob, wraps, plain, Int.ofNat_eq_natCast]; first | done | rfl | omega | (simp; done) | (simp; omega)) | (simp (disch := omega) only [hS.glob, wraps, plain, Int.ofNat_eq_natCast, Vx.toN]; omega))))) rfl ⟨⟨rfl, rfl, ⟨Nat.le_refl _, fun _ _ => rfl⟩, rfl⟩, ⟨rfl, rfl, ⟨by show m + 1 ≤ addN m 1; (first | trivial | omega | (simp (disch := omega) only [hS.glob, wraps, plain, Int.ofNat_eq_natCast]; first | done | omega | trivial | (simp; done) | (simp; omega) | (constructor <;> omega)) | (simp (disch := omega) only [hS.glob, wraps, plain, Int.ofNat_eq_natCast, Vx.toN]; omega)), fun j hj => ?_⟩, rfl⟩, trivial⟩ (by rw [hC]; simp)
        · simp only
          rw [hcs, if_pos (by omega), List.map_append, ← hab]
          refine tab_snoc rfl (fun j hj => by rw [a1 j hj, b1 j hj]) ?_
          simp only [castP]
          rw [a2, b2, hpi]
        · refine leafR (by simp [hS.glob]) (by simp [hS.glob]) [.int .i64 (ofN i), .int .i64 (p i)] (icol2 a b) (icol2 a' b') m (fun j hj => by simp only [icol2]; rw [a1 j hj, b1 j hj]) (by simp only [icol2]; rw [a2, b2]; simp [hS.glob, Vx.ofN]) j hj
  · conv => cbv
    simp (disch := first | omega | (simp only [hS.glob, wraps, plain, Int.ofNat_eq_natCast]; omega)) only [hS.glob, wraps, plain, Int.ofNat_eq_natCast] at h1
    obtain ⟨K, hK⟩ : ∃ K, K = kindM mn l kd i := ⟨_, rfl⟩
    obtain ⟨kI, hkI⟩ : ∃ kI : Int, kI = K := ⟨_, rfl⟩
    have hKr : K = 0 ∨ K = 1 ∨ K = 2 := by
      rw [hK]; unfold kindM; split
      · split
        · simp
        · split <;> simp
      · simp
    have hR1 := hrun i
    rw [← hK] at hR1
    have hkm := hk01 i
    rw [← hK] at hkm
    rw [hVV]
    clear hVV hVA VV VA hW W
    refine V.call rfl rfl rfl rfl rfl Try.func20 rfl (by decide) [] (by simp) (by simp) (by (first | rfl | ((conv => cbv); (repeat' apply And.intro) <;> first | rfl | trivial | (first | rfl | omega | (simp (disch := omega) only [hS.glob, wraps, plain, Int.ofNat_eq_natCast]; first | done | rfl | omega | (simp; done) | (simp; omega)) | (simp (disch := omega) only [hS.glob, wraps, plain, Int.ofNat_eq_natCast, Vx.toN]; omega))))) rfl (f20_ok ln mn i (by omega) (by omega) (by omega) l kd id kI (by rw [hkI, hK])) ?_
    rintro r Hc ⟨rfl, rfl⟩
    unfold pstep at hR1
    rw [if_neg (by rw [hs]; decide)] at hR1
    refine V.goF (by first | exact trivial | assumption) Try.func12 tl_ok mixed hS.ops [] 400 ?_
    intro VV VA W hVV hVA hW
    conv => cbv
    cases h2 : ieq kI 1
    · conv => cbv
      simp only [h2]
      conv => cbv
      simp (disch := first | omega | (simp only [hS.glob, wraps, plain, Int.ofNat_eq_natCast]; omega)) only [hS.glob, wraps, plain, Int.ofNat_eq_natCast] at h2
      rw [if_neg (by omega)] at hR1
      cases h3 : ieq kI 2
      · conv => cbv
        simp (disch := first | omega | (simp only [hS.glob, wraps, plain, Int.ofNat_eq_natCast]; omega)) only [hS.glob, wraps, plain, Int.ofNat_eq_natCast] at h3
        rw [if_neg (by omega)] at hR1
        rw [hVV]
        clear hVV hVA VV VA hW W
        exact V.to (hback (i + 1, n, sp, p) ⟨by simp only; omega, by simp only; rw [hR1]; exact hs, by simp only; rw [hR1]; exact hn, by simp only; rw [hR1]; exact hsp, by simp only; rw [hR1]; exact hp⟩ (by simp only; omega)) (by (repeat' first | exact trivial | rfl | (refine And.intro ?_ ?_) | (refine sti ?_; (first | rfl | omega | (simp (disch := omega) only [hS.glob, wraps, plain, Int.ofNat_eq_natCast]; first | done | rfl | omega | (simp; done) | (simp; omega)) | (simp (disch := omega) only [hS.glob, wraps, plain, Int.ofNat_eq_natCast, Vx.toN]; omega))) | (refine slq ?_ ?_ ?_ <;> (first | rfl | omega | (simp (disch := omega) only [hS.glob, wraps, plain, Int.ofNat_eq_natCast]; first | done | rfl | omega | (simp; done) | (simp; omega)) | (simp (disch := omega) only [hS.glob, wraps, plain, Int.ofNat_eq_natCast, Vx.toN]; omega))) | (refine ptq ?_ ?_ ?_ <;> (first | rfl | omega | (simp (disch := omega) only [hS.glob, wraps, plain, Int.ofNat_eq_natCast]; first | done | rfl | omega | (simp; done) | (simp; omega)) | (simp (disch := omega) only [hS.glob, wraps, plain, Int.ofNat_eq_natCast, Vx.toN]; omega))) | (refine blq ?_; (first | rfl | omega | (simp (disch := omega) only [hS.glob, wraps, plain, Int.ofNat_eq_natCast]; first | done | rfl | omega | (simp; done) | (simp; omega)) | (simp (disch := omega) only [hS.glob, wraps, plain, Int.ofNat_eq_natCast, Vx.toN]; omega))))) rfl (by (repeat' first | exact trivial | rfl | exact Nat.le_refl _ | exact (fun _ _ => rfl) | (refine And.intro ?_ ?_) | (simp only [hS.glob, plain]; first | done | omega))) (by rw [hC]; simp)
      · conv => cbv
        simp (disch := first | omega | (simp only [hS.glob, wraps, plain, Int.ofNat_eq_natCast]; omega)) only [hS.glob, wraps, plain, Int.ofNat_eq_natCast] at h3
        rw [if_pos (by omega)] at hR1
        obtain ⟨zf, hzf⟩ : ∃ zf : Nat → Int, ∀ n, zf n = n - 1 := ⟨_, fun _ => rfl⟩
        have ek : isub .i64 (ofN n) 1 = zf n := by rw [hzf]; simp (disch := first | omega | (simp only [hS.glob, wraps, plain, Int.ofNat_eq_natCast]; omega)) only [hS.glob, wraps, plain, Int.ofNat_eq_natCast]
        rw [ek, hVV]
        clear hVV hVA VV VA hW W ek
        -- the stack's places
        have hget : ∀ q, q < n → sp q = ((R i).st.getD q 0 : Int) := fun q hq => by
          have := tab_get n sp q hq
          rw [hsp, List.getElem?_map, List.getElem?_eq_getElem (by omega)] at this
          injection this with this
          rw [← this, List.getD_eq_getElem?_getD, List.getElem?_eq_getElem (by omega)]
          rfl
        have hst : ∀ q, q < n → (R i).st.getD q 0 < i ∧ (R i).st.getD q 0 < mn ∧ (R i).st.getD q 0 ∈ (R i).st := fun q hq => by
          have hm : (R i).st.getD q 0 ∈ (R i).st := by
            rw [List.getD_eq_getElem?_getD, List.getElem?_eq_getElem (by omega)]
            exact List.getElem_mem _
          obtain ⟨g1, g2⟩ := hI.st _ hm
          exact ⟨g1, hk01 _ (by rw [g2]; decide), hm⟩
        have hmi : i < mn := hkm (by omega)
        generalize hF : findB (fun q => id ((R i).st.getD q 0) == id i) (R i).st.length = F at hR1
        rw [← hn] at hF
        refine V.to (s' := [(9, .int .i64 (zf n)), (7, .int .i64 (ofN i)), (6, .sl 1 0 n), (5, .sl 0 0 ln), (0, .rows 1 ln (icol .i64 l)), (1, .rows 2 mn (icol2 kd id))]) (H' := [some ⟨3, 1, .arr ln (icol .i64 p)⟩, some ⟨3, 1, .arr n (icol .i64 sp)⟩]) ?_ (by (repeat' first | exact trivial | rfl | (refine And.intro ?_ ?_) | (refine sti ?_; (first | rfl | omega | (simp (disch := omega) only [hS.glob, wraps, plain, Int.ofNat_eq_natCast]; first | done | rfl | omega | (simp; done) | (simp; omega)) | (simp (disch := omega) only [hS.glob, wraps, plain, Int.ofNat_eq_natCast, Vx.toN]; omega))) | (refine slq ?_ ?_ ?_ <;> (first | rfl | omega | (simp (disch := omega) only [hS.glob, wraps, plain, Int.ofNat_eq_natCast]; first | done | rfl | omega | (simp; done) | (simp; omega)) | (simp (disch := omega) only [hS.glob, wraps, plain, Int.ofNat_eq_natCast, Vx.toN]; omega))) | (refine ptq ?_ ?_ ?_ <;> (first | rfl | omega | (simp (disch := omega) only [hS.glob, wraps, plain, Int.ofNat_eq_natCast]; first | done | rfl | omega | (simp; done) | (simp; omega)) | (simp (disch := omega) only [hS.glob, wraps, plain, Int.ofNat_eq_natCast, Vx.toN]; omega))) | (refine blq ?_; (first | rfl | omega | (simp (disch := omega) only [hS.glob, wraps, plain, Int.ofNat_eq_natCast]; first | done | rfl | omega | (simp; done) | (simp; omega)) | (simp (disch := omega) only [hS.glob, wraps, plain, Int.ofNat_eq_natCast, Vx.toN]; omega))))) rfl (by (repeat' first | exact trivial | rfl | exact Nat.le_refl _ | exact (fun _ _ => rfl) | (refine And.intro ?_ ?_) | (simp only [hS.glob, plain]; first | done | omega))) (by rw [hC]; simp)
        refine V.loop (γ := Nat) (fun k => k ≤ n ∧ findB (fun q => id ((R i).st.getD q 0) == id i) k = F) (fun k => [(9, .int .i64 (zf k)), (7, .int .i64 (ofN i)), (6, .sl 1 0 n), (5, .sl 0 0 ln), (0, .rows 1 ln (icol .i64 l)), (1, .rows 2 mn (icol2 kd id))]) (fun _ => [some ⟨3, 1, .arr ln (icol .i64 p)⟩, some ⟨3, 1, .arr n (icol .i64 sp)⟩]) (fun k => k) ?_ n ⟨Nat.le_refl _, hF⟩
        clear hF
        rintro k ⟨hk, hFk⟩ hback2
        have hz1 := hzf k
        refine V.goF (by first | exact trivial | assumption) Try.func12 tl_ok mixed hS.ops [] 400 ?_
        intro VV VA W hVV hVA hW
        conv => cbv
        cases h5 : ige (zf k) 0
        · conv => cbv
          repeat (refine ⟨by first | (rw [hW]; show ordOk _ _ _ = true; kernel_rfl) | (first | trivial | omega | (simp (disch := omega) only [hS.glob, wraps, plain, Int.ofNat_eq_natCast]; first | done | omega | trivial | (simp; done) | (simp; omega) | (constructor <;> omega)) | (simp (disch := omega) only [hS.glob, wraps, plain, Int.ofNat_eq_natCast, Vx.toN]; omega)), ?_⟩)
          simp only [h5]
          conv => cbv
          simp (disch := first | omega | (simp only [hS.glob, wraps, plain, Int.ofNat_eq_natCast]; omega)) only [hS.glob, wraps, plain, Int.ofNat_eq_natCast] at h5
          obtain rfl : k = 0 := by omega
          rw [← hFk] at hR1
          simp only [findB] at hR1
          rw [hVV]
          clear hVV hVA VV VA hW W
          exact V.to (hback (i + 1, n, sp, p) ⟨by simp only; omega, by simp only; rw [hR1]; exact hs, by simp only; rw [hR1]; exact hn, by simp only; rw [hR1]; exact hsp, by simp only; rw [hR1]; exact hp⟩ (by simp only; omega)) (by (repeat' first | exact trivial | rfl | (refine And.intro ?_ ?_) | (refine sti ?_; (first | rfl | omega | (simp (disch := omega) only [hS.glob, wraps, plain, Int.ofNat_eq_natCast]; first | done | rfl | omega | (simp; done) | (simp; omega)) | (simp (disch := omega) only [hS.glob, wraps, plain, Int.ofNat_eq_natCast, Vx.toN]; omega))) | (refine slq ?_ ?_ ?_ <;> (first | rfl | omega | (simp (disch := omega) only [hS.glob, wraps, plain, Int.ofNat_eq_natCast]; first | done | rfl | omega | (simp; done) | (simp; omega)) | (simp (disch := omega) only [hS.glob, wraps, plain, Int.ofNat_eq_natCast, Vx.toN]; omega))) | (refine ptq ?_ ?_ ?_ <;> (first | rfl | omega | (simp (disch := omega) only [hS.glob, wraps, plain, Int.ofNat_eq_natCast]; first | done | rfl | omega | (simp; done) | (simp; omega)) | (simp (disch := omega) only [hS.glob, wraps, plain, Int.ofNat_eq_natCast, Vx.toN]; omega))) | (refine blq ?_; (first | rfl | omega | (simp (disch := omega) only [hS.glob, wraps, plain, Int.ofNat_eq_natCast]; first | done | rfl | omega | (simp; done) | (simp; omega)) | (simp (disch := omega) only [hS.glob, wraps, plain, Int.ofNat_eq_natCast, Vx.toN]; omega))))) rfl (by (repeat' first | exact trivial | rfl | exact Nat.le_refl _ | exact (fun _ _ => rfl) | (refine And.intro ?_ ?_) | (simp only [hS.glob, plain]; first | done | omega))) (by rw [hC]; simp)
        · conv => cbv
          simp (disch := first | omega | (simp only [hS.glob, wraps, plain, Int.ofNat_eq_natCast]; omega)) only [hS.glob, wraps, plain, Int.ofNat_eq_natCast] at h5
          obtain ⟨d, rfl⟩ : ∃ d, k = d + 1 := ⟨k - 1, by omega⟩
          have ez : zf (d + 1) = ofN d := by simp (disch := first | omega | (simp only [hS.glob, wraps, plain, Int.ofNat_eq_natCast]; omega)) only [hS.glob, wraps, plain, Int.ofNat_eq_natCast]; rw [hz1]; omega
          obtain ⟨x, hx⟩ : ∃ x, x = (R i).st.getD d 0 := ⟨_, rfl⟩
          obtain ⟨q1, q2, q3⟩ := hst d (by omega)
          have q4 := hget d (by omega)
          rw [← hx] at q1 q2 q3 q4
          have ex : sp d = ofN x := by simp (disch := first | omega | (simp only [hS.glob, wraps, plain, Int.ofNat_eq_natCast]; omega)) only [hS.glob, wraps, plain, Int.ofNat_eq_natCast]; exact q4
          simp only [ez]
          repeat (refine ⟨by first | (rw [hW]; show ordOk _ _ _ = true; kernel_rfl) | (first | trivial | omega | (simp (disch := omega) only [hS.glob, wraps, plain, Int.ofNat_eq_natCast]; first | done | omega | trivial | (simp; done) | (simp; omega) | (constructor <;> omega)) | (simp (disch := omega) only [hS.glob, wraps, plain, Int.ofNat_eq_natCast, Vx.toN]; omega)), ?_⟩)
          simp only [hS.tidy, ex]
          repeat (refine ⟨by first | (rw [hW]; show ordOk _ _ _ = true; kernel_rfl) | (first | trivial | omega | (simp (disch := omega) only [hS.glob, wraps, plain, Int.ofNat_eq_natCast]; first | done | omega | trivial | (simp; done) | (simp; omega) | (constructor <;> omega)) | (simp (disch := omega) only [hS.glob, wraps, plain, Int.ofNat_eq_natCast, Vx.toN]; omega)), ?_⟩)
          try simp only [hS.tidy]
          rw [findB, ← hx] at hFk
          cases h6 : ine (id x) (id i)
          · conv => cbv
            simp (disch := first | omega | (simp only [hS.glob, wraps, plain, Int.ofNat_eq_natCast]; omega)) only [hS.glob, wraps, plain, Int.ofNat_eq_natCast] at h6
            have e7 : ige (ofN d) 0 = true := by simp (disch := first | omega | (simp only [hS.glob, wraps, plain, Int.ofNat_eq_natCast]; omega)) only [hS.glob, wraps, plain, Int.ofNat_eq_natCast]; omega
            simp only [e7]
            conv => cbv
            repeat (refine ⟨by first | (rw [hW]; show ordOk _ _ _ = true; kernel_rfl) | (first | trivial | omega | (simp (disch := omega) only [hS.glob, wraps, plain, Int.ofNat_eq_natCast]; first | done | omega | trivial | (simp; done) | (simp; omega) | (constructor <;> omega)) | (simp (disch := omega) only [hS.glob, wraps, plain, Int.ofNat_eq_natCast, Vx.toN]; omega)), ?_⟩)
            simp only [hS.tidy, ex]
            repeat (refine ⟨by first | (rw [hW]; show ordOk _ _ _ = true; kernel_rfl) | (first | trivial | omega | (simp (disch := omega) only [hS.glob, wraps, plain, Int.ofNat_eq_natCast]; first | done | omega | trivial | (simp; done) | (simp; omega) | (constructor <;> omega)) | (simp (disch := omega) only [hS.glob, wraps, plain, Int.ofNat_eq_natCast, Vx.toN]; omega)), ?_⟩)
            try simp only [hS.tidy]
            rw [if_pos (by simpa using h6)] at hFk
            rw [← hFk] at hR1
            simp only at hR1
            rw [← hx] at hR1
            obtain ⟨p', hp'⟩ : ∃ p' : Nat → Int, ∀ j, p' j = if j = x then (i : Int) else p j := ⟨_, fun _ => rfl⟩
            rw [hVV]
            clear hVV hVA VV VA hW W
            refine V.to (hback (i + 1, d, sp, p') ⟨by simp only; omega, by simp only; rw [hR1]; exact hs, by simp only; rw [hR1, List.length_take]; omega, by simp only; rw [hR1]; simp only; rw [List.map_take, ← hsp, tab_take _ (by omega)], fun j => ?_⟩ (by simp only; omega)) (by (repeat' first | exact trivial | rfl | (refine And.intro ?_ ?_) | (refine sti ?_; (first | rfl | omega | (simp (disch := omega) only [hS.glob, wraps, plain, Int.ofNat_eq_natCast]; first | done | rfl | omega | (simp; done) | (simp; omega)) | (simp (disch := omega) only [hS.glob, wraps, plain, Int.ofNat_eq_natCast, Vx.toN]; omega))) | (refine slq ?_ ?_ ?_ <;> (first | rfl | omega | (simp (disch := omega) only [hS.glob, wraps, plain, Int.ofNat_eq_natCast]; first | done | rfl | omega | (simp; done) | (simp; omega)) | (simp (disch := omega) only [hS.glob, wraps, plain, Int.ofNat_eq_natCast, Vx.toN]; omega))) | (refine ptq ?_ ?_ ?_ <;> (first | rfl | omega | (simp (disch := omega) only [hS.glob, wraps, plain, Int.ofNat_eq_natCast]; first | done | rfl | omega | (simp; done) | (simp; omega)) | (simp (disch := omega) only [hS.glob, wraps, plain, Int.ofNat_eq_natCast, Vx.toN]; omega))) | (refine blq ?_; (first | rfl | omega | (simp (disch := omega) only [hS.glob, wraps, plain, Int.ofNat_eq_natCast]; first | done | rfl | omega | (simp; done) | (simp; omega)) | (simp (disch := omega) only [hS.glob, wraps, plain, Int.ofNat_eq_natCast, Vx.toN]; omega))))) rfl ⟨⟨rfl, rfl, ⟨Nat.le_refl _, leafS (by simp [hS.glob]) (ofN i) p p' x ln (fun j _ => by rw [hp']; split <;> simp [hS.glob, Vx.ofN])⟩, rfl⟩, ⟨rfl, rfl, ⟨by show d ≤ n; omega, fun _ _ => rfl⟩, rfl⟩, trivial⟩ (by rw [hC]; simp)
            simp only
            rw [hR1]
            simp only
            rw [part_snoc x i j (fun q hq => by have := hI.apart q hq x q3; have := (hI.out q hq).1; omega), hp']
            split
            · rfl
            · exact hp j
          · conv => cbv
            simp (disch := first | omega | (simp only [hS.glob, wraps, plain, Int.ofNat_eq_natCast]; omega)) only [hS.glob, wraps, plain, Int.ofNat_eq_natCast] at h6
            have ez2 : isub .i64 (ofN d) 1 = zf d := by rw [hzf]; simp (disch := first | omega | (simp only [hS.glob, wraps, plain, Int.ofNat_eq_natCast]; omega)) only [hS.glob, wraps, plain, Int.ofNat_eq_natCast]
            simp only [ez2]
            rw [hVV]
            clear hVV hVA VV VA hW W
            rw [if_neg (by simpa using h6)] at hFk
            exact V.to (hback2 d ⟨by omega, hFk⟩ (by omega)) (by (repeat' first | exact trivial | rfl | (refine And.intro ?_ ?_) | (refine sti ?_; (first | rfl | omega | (simp (disch := omega) only [hS.glob, wraps, plain, Int.ofNat_eq_natCast]; first | done | rfl | omega | (simp; done) | (simp; omega)) | (simp (disch := omega) only [hS.glob, wraps, plain, Int.ofNat_eq_natCast, Vx.toN]; omega))) | (refine slq ?_ ?_ ?_ <;> (first | rfl | omega | (simp (disch := omega) only [hS.glob, wraps, plain, Int.ofNat_eq_natCast]; first | done | rfl | omega | (simp; done) | (simp; omega)) | (simp (disch := omega) only [hS.glob, wraps, plain, Int.ofNat_eq_natCast, Vx.toN]; omega))) | (refine ptq ?_ ?_ ?_ <;> (first | rfl | omega | (simp (disch := omega) only [hS.glob, wraps, plain, Int.ofNat_eq_natCast]; first | done | rfl | omega | (simp; done) | (simp; omega)) | (simp (disch := omega) only [hS.glob, wraps, plain, Int.ofNat_eq_natCast, Vx.toN]; omega))) | (refine blq ?_; (first | rfl | omega | (simp (disch := omega) only [hS.glob, wraps, plain, Int.ofNat_eq_natCast]; first | done | rfl | omega | (simp; done) | (simp; omega)) | (simp (disch := omega) only [hS.glob, wraps, plain, Int.ofNat_eq_natCast, Vx.toN]; omega))))) rfl (by (repeat' first | exact trivial | rfl | exact Nat.le_refl _ | exact (fun _ _ => rfl) | (refine And.intro ?_ ?_) | (simp only [hS.glob, plain]; first | done | omega))) (by rw [hC]; simp)
    · conv => cbv
      simp (disch := first | omega | (simp only [hS.glob, wraps, plain, Int.ofNat_eq_natCast]; omega)) only [hS.glob, wraps, plain, Int.ofNat_eq_natCast] at h2
      rw [if_pos (by omega)] at hR1
      cases h3 : ieq (ofN n) 63
      · conv => cbv
        simp (disch := first | omega | (simp only [hS.glob, wraps, plain, Int.ofNat_eq_natCast]; omega)) only [hS.glob, wraps, plain, Int.ofNat_eq_natCast] at h3
        rw [if_neg (by omega)] at hR1
        have e1 : ieq kI 1 = true := by simp (disch := first | omega | (simp only [hS.glob, wraps, plain, Int.ofNat_eq_natCast]; omega)) only [hS.glob, wraps, plain, Int.ofNat_eq_natCast]; exact h2
        have e2 : ieq kI 2 = false := by simp (disch := first | omega | (simp only [hS.glob, wraps, plain, Int.ofNat_eq_natCast]; omega)) only [hS.glob, wraps, plain, Int.ofNat_eq_natCast]; omega
        simp only [e1]
        conv => cbv
        repeat (refine ⟨by first | (rw [hW]; show ordOk _ _ _ = true; kernel_rfl) | (first | trivial | omega | (simp (disch := omega) only [hS.glob, wraps, plain, Int.ofNat_eq_natCast]; first | done | omega | trivial | (simp; done) | (simp; omega) | (constructor <;> omega)) | (simp (disch := omega) only [hS.glob, wraps, plain, Int.ofNat_eq_natCast, Vx.toN]; omega)), ?_⟩)
        try simp only [hS.tidy]
        simp only [e2]
        conv => cbv
        obtain ⟨sp', s1, s2⟩ := snocF sp n (i : Int)
        rw [hVV]
        clear hVV hVA VV VA hW W
        refine V.pick [0, 3] (by decide) (by rw [hC]; exact begins_of rfl) (by rfl) (by rfl) ?_
        refine V.to (hback (i + 1, n + 1, sp', p) ⟨by simp only; omega, by simp only; rw [hR1]; exact hs, by simp only; rw [hR1, List.length_append, List.length_singleton, hn], by simp only; rw [hR1]; simp only; rw [List.map_append, ← hsp]; exact tab_snoc rfl s1 s2, by simp only; rw [hR1]; exact hp⟩ (by simp only; omega)) (by (repeat' first | exact trivial | rfl | (refine And.intro ?_ ?_) | (refine sti ?_; (first | rfl | omega | (simp (disch := omega) only [hS.glob, wraps, plain, Int.ofNat_eq_natCast]; first | done | rfl | omega | (simp; done) | (simp; omega)) | (simp (disch := omega) only [hS.glob, wraps, plain, Int.ofNat_eq_natCast, Vx.toN]; omega))) | (refine slq ?_ ?_ ?_ <;> (first | rfl | omega | (simp (disch := omega) only [hS.glob, wraps, plain, Int.ofNat_eq_natCast]; first | done | rfl | omega | (simp; done) | (simp; omega)) | (simp (disch := omega) only [hS.glob, wraps, plain, Int.ofNat_eq_natCast, Vx.toN]; omega))) | (refine ptq ?_ ?_ ?_ <;> (first | rfl | omega | (simp (disch := omega) only [hS.glob, wraps, plain, Int.ofNat_eq_natCast]; first | done | rfl | omega | (simp; done) | (simp; omega)) | (simp (disch := omega) only [hS.glob, wraps, plain, Int.ofNat_eq_natCast, Vx.toN]; omega))) | (refine blq ?_; (first | rfl | omega | (simp (disch := omega) only [hS.glob, wraps, plain, Int.ofNat_eq_natCast]; first | done | rfl | omega | (simp; done) | (simp; omega)) | (simp (disch := omega) only [hS.glob, wraps, plain, Int.ofNat_eq_natCast, Vx.toN]; omega))))) rfl ⟨⟨rfl, rfl, ⟨Nat.le_refl _, fun _ _ => rfl⟩, rfl⟩, ⟨rfl, rfl, ⟨by show n + 1 ≤ addN n 1; (first | trivial | omega | (simp (disch := omega) only [hS.glob, wraps, plain, Int.ofNat_eq_natCast]; first | done | omega | trivial | (simp; done) | (simp; omega) | (constructor <;> omega)) | (simp (disch := omega) only [hS.glob, wraps, plain, Int.ofNat_eq_natCast, Vx.toN]; omega)), fun j hj => leaf (by simp [hS.glob]) (by simp [hS.glob]) (ofN i) sp sp' n s1 (by rw [s2]; simp [hS.glob, Vx.ofN]) j hj⟩, rfl⟩, trivial⟩ (by rw [hC]; simp)
      · conv => cbv
        simp (disch := first | omega | (simp only [hS.glob, wraps, plain, Int.ofNat_eq_natCast]; omega)) only [hS.glob, wraps, plain, Int.ofNat_eq_natCast] at h3
        rw [if_pos (by omega)] at hR1
        have hpf : ∀ j, p j = (part (R ln).out j : Int) := by
          have e9 := hstop (i + 1) (by rw [hR1]) (ln - (i + 1))
          rw [show i + 1 + (ln - (i + 1)) = ln by omega, hR1] at e9
          rw [e9]
          exact hp
        clear hkI hKr hR1 hkm
        rw [hVV]
        clear hVV hVA VV VA hW W hback
        obtain ⟨OUT, hOUT⟩ : ∃ O, O = (R ln).out := ⟨_, rfl⟩
        rw [← hOUT] at hpf hQ
        refine V.phantom 10 41 2 (icol2 (fun _ => 0) (fun _ => 0)) rfl ?_
        refine V.to (s' := [(11, .int .i64 (ofN 0)), (10, .sl 2 0 0), (5, .sl 0 0 ln), (0, .rows 1 ln (icol .i64 l))]) (H' := [some ⟨3, 1, .arr ln (icol .i64 p)⟩, none, some ⟨41, 2, .arr 0 (icol2 (fun _ => 0) (fun _ => 0))⟩]) ?_ (by (repeat' first | exact trivial | rfl | (refine And.intro ?_ ?_) | (refine sti ?_; (first | rfl | omega | (simp (disch := omega) only [hS.glob, wraps, plain, Int.ofNat_eq_natCast]; first | done | rfl | omega | (simp; done) | (simp; omega)) | (simp (disch := omega) only [hS.glob, wraps, plain, Int.ofNat_eq_natCast, Vx.toN]; omega))) | (refine slq ?_ ?_ ?_ <;> (first | rfl | omega | (simp (disch := omega) only [hS.glob, wraps, plain, Int.ofNat_eq_natCast]; first | done | rfl | omega | (simp; done) | (simp; omega)) | (simp (disch := omega) only [hS.glob, wraps, plain, Int.ofNat_eq_natCast, Vx.toN]; omega))) | (refine ptq ?_ ?_ ?_ <;> (first | rfl | omega | (simp (disch := omega) only [hS.glob, wraps, plain, Int.ofNat_eq_natCast]; first | done | rfl | omega | (simp; done) | (simp; omega)) | (simp (disch := omega) only [hS.glob, wraps, plain, Int.ofNat_eq_natCast, Vx.toN]; omega))) | (refine blq ?_; (first | rfl | omega | (simp (disch := omega) only [hS.glob, wraps, plain, Int.ofNat_eq_natCast]; first | done | rfl | omega | (simp; done) | (simp; omega)) | (simp (disch := omega) only [hS.glob, wraps, plain, Int.ofNat_eq_natCast, Vx.toN]; omega))))) rfl (by (repeat' first | exact trivial | rfl | exact Nat.le_refl _ | exact (fun _ _ => rfl) | (refine And.intro ?_ ?_) | (simp only [hS.glob, plain]; first | done | omega))) (by rw [hC]; simp)
        refine V.loop (γ := Nat × Nat × (Nat → Int) × (Nat → Int)) (fun g => g.1 ≤ ln ∧ g.2.1 ≤ g.1 ∧ tab g.2.1 (fun j => (g.2.2.1 j, g.2.2.2 j)) = (canon OUT g.1).map castP)
          (fun g => [(11, .int .i64 (ofN g.1)), (10, .sl 2 0 g.2.1), (5, .sl 0 0 ln), (0, .rows 1 ln (icol .i64 l))]) (fun g => [some ⟨3, 1, .arr ln (icol .i64 p)⟩, none, some ⟨41, 2, .arr g.2.1 (icol2 g.2.2.1 g.2.2.2)⟩]) (fun g => ln - g.1) ?_ (0, 0, (fun _ => 0), (fun _ => 0)) ⟨Nat.zero_le _, Nat.le_refl _, rfl⟩
        rintro ⟨i, m, a, b⟩ ⟨hi, hm2, hab⟩ hback
        dsimp only at hi hm2 hab hback ⊢
        refine V.goF (by first | exact trivial | assumption) Try.func12 tl_ok mixed hS.ops [] 400 ?_
        intro VV VA W hVV hVA hW
        conv => cbv
        cases h1 : ilt (ofN i) (ofN ln)
        · conv => cbv
          simp (disch := first | omega | (simp only [hS.glob, wraps, plain, Int.ofNat_eq_natCast]; omega)) only [hS.glob, wraps, plain, Int.ofNat_eq_natCast] at h1
          rw [hQ]
          have : i = ln := by omega
          exact ⟨m, a, b, _, _, rfl, rfl, by rw [hab, this]⟩
        · conv => cbv
          simp (disch := first | omega | (simp only [hS.glob, wraps, plain, Int.ofNat_eq_natCast]; omega)) only [hS.glob, wraps, plain, Int.ofNat_eq_natCast] at h1
          repeat (refine ⟨by first | (rw [hW]; show ordOk _ _ _ = true; kernel_rfl) | (first | trivial | omega | (simp (disch := omega) only [hS.glob, wraps, plain, Int.ofNat_eq_natCast]; first | done | omega | trivial | (simp; done) | (simp; omega) | (constructor <;> omega)) | (simp (disch := omega) only [hS.glob, wraps, plain, Int.ofNat_eq_natCast, Vx.toN]; omega)), ?_⟩)
          simp only [hS.tidy]
          have hpi := hpf i
          obtain ⟨c, hc⟩ : ∃ c, c = part OUT i := ⟨_, rfl⟩
          rw [← hc] at hpi
          have hcs := canon_succ OUT i
          rw [← hc] at hcs
          cases h2 : igt (p i) 0
          · conv => cbv
            simp (disch := first | omega | (simp only [hS.glob, wraps, plain, Int.ofNat_eq_natCast]; omega)) only [hS.glob, wraps, plain, Int.ofNat_eq_natCast] at h2
            rw [hVV]
            clear hVV hVA VV VA hW W
            exact V.to (hback (i + 1, m, a, b) ⟨by simp only; omega, by simp only; omega, by simp only; rw [hab, hcs, if_neg (by omega), List.append_nil]⟩ (by simp only; omega)) (by (repeat' first | exact trivial | rfl | (refine And.intro ?_ ?_) | (refine sti ?_; (first | rfl | omega | (simp (disch := omega) only [hS.glob, wraps, plain, Int.ofNat_eq_natCast]; first | done | rfl | omega | (simp; done) | (simp; omega)) | (simp (disch := omega) only [hS.glob, wraps, plain, Int.ofNat_eq_natCast, Vx.toN]; omega))) | (refine slq ?_ ?_ ?_ <;> (first | rfl | omega | (simp (disch := omega) only [hS.glob, wraps, plain, Int.ofNat_eq_natCast]; first | done | rfl | omega | (simp; done) | (simp; omega)) | (simp (disch := omega) only [hS.glob, wraps, plain, Int.ofNat_eq_natCast, Vx.toN]; omega))) | (refine ptq ?_ ?_ ?_ <;> (first | rfl | omega | (simp (disch := omega) only [hS.glob, wraps, plain, Int.ofNat_eq_natCast]; first | done | rfl | omega | (simp; done) | (simp; omega)) | (simp (disch := omega) only [hS.glob, wraps, plain, Int.ofNat_eq_natCast, Vx.toN]; omega))) | (refine blq ?_; (first | rfl | omega | (simp (disch := omega) only [hS.glob, wraps, plain, Int.ofNat_eq_natCast]; first | done | rfl | omega | (simp; done) | (simp; omega)) | (simp (disch := omega) only [hS.glob, wraps, plain, Int.ofNat_eq_natCast, Vx.toN]; omega))))) rfl (by (repeat' first | exact trivial | rfl | exact Nat.le_refl _ | exact (fun _ _ => rfl) | (refine And.intro ?_ ?_) | (simp only [hS.glob, plain]; first | done | omega))) (by rw [hC]; simp)
          · conv => cbv
            simp (disch := first | omega | (simp only [hS.glob, wraps, plain, Int.ofNat_eq_natCast]; omega)) only [hS.glob, wraps, plain, Int.ofNat_eq_natCast] at h2
            repeat (refine ⟨by first | (rw [hW]; show ordOk _ _ _ = true; kernel_rfl) | (first | trivial | omega | (simp (disch := omega) only [hS.glob, wraps, plain, Int.ofNat_eq_natCast]; first | done | omega | trivial | (simp; done) | (simp; omega) | (constructor <;> omega)) | (simp (disch := omega) only [hS.glob, wraps, plain, Int.ofNat_eq_natCast, Vx.toN]; omega)), ?_⟩)
            simp only [hS.tidy]
            obtain ⟨a', a1, a2⟩ := snocF a m (i : Int)
            obtain ⟨b', b1, b2⟩ := snocF b m (p i)
            rw [hVV]
            clear hVV hVA VV VA hW W
            refine V.pick [0, 1, 4] (by decide) (by rw [hC]; exact begins_of rfl) (by rfl) (by rfl) ?_
            refine V.to (hback (i + 1, m + 1, a', b') ⟨by simp only; omega, by simp only; omega, ?_⟩ (by simp only; omega)) (by (repeat' first | exact trivial | rfl | (refine And.intro ?_ ?_) | (refine sti ?_; (first | rfl | omega | (simp (disch := omega) only [hS.glob, wraps, plain, Int.ofNat_eq_natCast]; first | done | rfl | omega | (simp; done) | (simp; omega)) | (simp (disch := omega) only [hS.glob, wraps, plain, Int.ofNat_eq_natCast, Vx.toN]; omega))) | (refine slq ?_ ?_ ?_ <;> (first | rfl | omega | (simp (disch := omega) only [hS.glob, wraps, plain, Int.ofNat_eq_natCast]; first | done | rfl | omega | (simp; done) | (simp; omega)) | (simp (disch := omega) only [hS.glob, wraps, plain, Int.ofNat_eq_natCast, Vx.toN]; omega))) | (refine ptq ?_ ?_ ?_ <;> (first | rfl | omega | (simp (disch := omega) only [hS.glob, wraps, plain, Int.ofNat_eq_natCast]; first | done | rfl | omega | (simp; done) | (simp; omega)) | (simp (disch := omega) only [hS.glob, wraps, plain, Int.ofNat_eq_natCast, Vx.toN]; omega))) | (refine blq ?_; (first | rfl | omega | (simp (disch := omega) only [hS.glob, wraps, plain, Int.ofNat_eq_natCast]; first | done | rfl | omega | (simp; done) | (simp; omega)) | (simp (disch := omega) only [hS.glob, wraps, plain, Int.ofNat_eq_natCast, Vx.toN]; omega))))) rfl ⟨⟨rfl, rfl, ⟨Nat.le_refl _, fun _ _ => rfl⟩, rfl⟩, ⟨rfl, rfl, ⟨by show m + 1 ≤ addN m 1; (first | trivial | omega | (simp (disch := omega) only [hS.glob, wraps, plain, Int.ofNat_eq_natCast]; first | done | omega | trivial | (simp; done) | (simp; omega) | (constructor <;> omega)) | (simp (disch := omega) only [hS.glob, wraps, plain, Int.ofNat_eq_natCast, Vx.toN]; omega)), fun j hj => ?_⟩, rfl⟩, trivial⟩ (by rw [hC]; simp)
            · simp only
              rw [hcs, if_pos (by omega), List.map_append, ← hab]
              refine tab_snoc rfl (fun j hj => by rw [a1 j hj, b1 j hj]) ?_
              simp only [castP]
              rw [a2, b2, hpi]
            · refine leafR (by simp [hS.glob]) (by simp [hS.glob]) [.int .i64 (ofN i), .int .i64 (p i)] (icol2 a b) (icol2 a' b') m (fun j hj => by simp only [icol2]; rw [a1 j hj, b1 j hj]) (by simp only [icol2]; rw [a2, b2]; simp [hS.glob, Vx.ofN]) j hj
theorem f12_ok (ln mn : Nat) (hm : mn ≤ 1000000) (hl : ln ≤ 1000000) (l kd id : Nat → Int) : FSpec Try.prog 12 [.rows 1 ln (icol .i64 l), .rows 2 mn (icol2 kd id)] [] (fun r H' => ∃ m a b, r = .sl 0 0 m ∧ H' = [some ⟨41, 2, .arr m (icol2 a b)⟩] ∧ tab m (fun i => (a i, b i)) = (pairsL ln mn l kd id).map castP) := by
  refine FSpec.repick (FSpec.weaken (f12_ok1 ln mn hm hl l kd id) (Q' := fun r H' => ∃ m a b, r = .sl 2 0 m ∧ H' = [none, none, some ⟨41, 2, .arr m (icol2 a b)⟩] ∧ tab m (fun i => (a i, b i)) = (pairsL ln mn l kd id).map castP) ?_) ?_
  · rintro r H' ⟨m, a, b, x, y, rfl, rfl, h⟩
    exact ⟨[none, none, some ⟨41, 2, .arr m (icol2 a b)⟩], ⟨⟨rfl, rfl, ⟨Nat.le_refl _, fun _ _ => rfl⟩, rfl⟩, trivial⟩, rfl, by simp, m, a, b, rfl, rfl, h⟩
  · rintro r H' ⟨m, a, b, rfl, rfl, h⟩
    exact ⟨[2], by decide, fun k hk => by simp at hk, m, a, b, rfl, rfl, h⟩
end Go.Proofs.Ytcoanfhjgmndcaa

/- The program's pairs. -/
namespace Go.Proofs.Ytcoanfhjgmndcaa
open Go Vx

theorem ints_canon {out : List (Nat × Nat)} {d : List (Int × Int)} {ln : Nat} (hn : (out.map (·.1)).Nodup) (h0 : ∀ p ∈ out, p.1 < p.2 ∧ p.2 < ln) (hp : d.Perm (out.map castP)) (hs : d.Pairwise (fun a b => a.1 ≤ b.1)) : d = (canon out ln).map castP := by
  have hmem : ∀ p ∈ d, ∃ q, q ∈ out ∧ castP q = p := fun p h => by
    have := hp.mem_iff.1 h
    simpa using this
  have hback : ∀ p ∈ d, castP (p.1.toNat, p.2.toNat) = p := fun p h => by
    obtain ⟨q, _, rfl⟩ := hmem p h
    simp [castP]
  have hd : (d.map fun p => (p.1.toNat, p.2.toNat)).Perm out := by
    have := hp.map (fun p : Int × Int => (p.1.toNat, p.2.toNat))
    rw [List.map_map] at this
    have e : ((fun p : Int × Int => (p.1.toNat, p.2.toNat)) ∘ castP) = _root_.id := by
      funext p; simp [castP]
    rw [e, List.map_id] at this
    exact this
  have hsd : (d.map fun p => (p.1.toNat, p.2.toNat)).Pairwise (fun a b => a.1 ≤ b.1) := by
    rw [List.pairwise_map]
    refine List.Pairwise.imp (fun h => ?_) hs
    simp only
    omega
  rw [← sorted_canon hn h0 hd hsd, List.map_map]
  conv => lhs; rw [← List.map_id d]
  exact List.map_congr_left fun p hp => (hback p hp).symm
theorem f16_ok (n : Nat) (g : Nat → List AV) : FSpec Try.prog 16 [.sl 0 0 n] [some ⟨49, 2, .arr n g⟩] (fun r H' => r = .fn (.func 26) [] [.ptr 1 0 0] ∧ H' = [some ⟨49, 2, .arr n g⟩, some ⟨47, 1, .lit [[.sl 0 0 n]]⟩]) := by
  refine FSpec.of (fn := Try.f16) Try.func16 rfl rfl (by simp) fun C hC => ?_
  obtain ⟨iadd, isub, imul, iquo, irem, iband, ibor, ibxor, ibandn, ishl, ishr, iconv, ieq, ine, ilt, ile, igt, ige, bbeq, bbne, bnot, bband, sseq, ssne, sscat, sssub, sslen, sssz, ssbyte, toN, ofN, addN, subN, eqN, ltB, leN, imx, imn, inb, leb, sslt, ltN, fit, ne0, ge0, ssfit, minN, inR, hS⟩ := names
  refine V.goF (by first | exact trivial | assumption) Try.func16 tl_ok mixed hS.ops [] 400 ?_
  intro VV VA W hVV hVA hW
  conv => cbv
def HH (m n : Nat) (a b sp si : Nat → Int) : Hp := [some ⟨26, 1, .lit [[.sl 2 0 m]]⟩, some ⟨47, 1, .lit [[.sl 3 0 n]]⟩, some ⟨41, 2, .arr m (icol2 a b)⟩, some ⟨49, 2, .arr n (icol2 sp si)⟩]
def HK (m n : Nat) (a b sp si : Nat → Int) (x k1 k2 : Int) : Hp := [some ⟨26, 1, .lit [[.sl 2 0 m]]⟩, some ⟨47, 1, .lit [[.sl 3 0 n]]⟩, some ⟨41, 2, .arr m (icol2 a b)⟩, some ⟨49, 2, .arr n (icol2 sp si)⟩, some ⟨3, 1, .lit [[.int .i64 x]]⟩, some ⟨45, 2, .lit [[.int .i64 k1, .int .i64 k2]]⟩, some ⟨47, 1, .lit [[.sl 3 0 n]]⟩]
def HS (m k n : Nat) (sp si : Nat → Int) (x k1 k2 : Int) (g : Nat → List AV) (w1 w2 : Option Ob) : Hp := [some ⟨26, 1, .lit [[.sl 9 0 (m + 1)]]⟩, some ⟨47, 1, .lit [[.sl 3 0 k]]⟩, none, some ⟨49, 2, .arr n (icol2 sp si)⟩, some ⟨3, 1, .lit [[.int .i64 x]]⟩, some ⟨45, 2, .lit [[.int .i64 k1, .int .i64 k2]]⟩, some ⟨47, 1, .lit [[.sl 3 0 n]]⟩, w1, w2, some ⟨41, 2, .arr (m + 1) g⟩]
theorem f10_ok1 (ln mn : Nat) (hm : mn ≤ 8796093022208) (hl : ln ≤ 17592186044416) (l kd id : Nat → Int) : FSpec Try.prog 10 [.rows 1 ln (icol .i64 l), .rows 2 mn (icol2 kd id)] [] (fun r H' => ∃ m a b x y t, r = .sl 2 0 m ∧ H' = x :: y :: some ⟨41, 2, .arr m (icol2 a b)⟩ :: t ∧ tab m (fun i => (a i, b i)) = (pairsL ln mn l kd id).map castP) := by
  obtain ⟨Q, hQ⟩ : ∃ Q : AV → Hp → Prop, Q = (fun r H' => ∃ m a b x y t, r = .sl 2 0 m ∧ H' = x :: y :: some ⟨41, 2, .arr m (icol2 a b)⟩ :: t ∧ tab m (fun i => (a i, b i)) = (pairsL ln mn l kd id).map castP) := ⟨_, rfl⟩
  rw [← hQ]
  obtain ⟨m0, hm0⟩ : ∃ m0, m0 = min mn ln := ⟨_, rfl⟩
  unfold pairsL at hQ
  rw [← hm0] at hQ
  have hinv := pinv mn l kd id
  have hrun : ∀ i, prun mn l kd id (i + 1) = pstep id (kindM mn l kd i) i (prun mn l kd id i) := fun _ => rfl
  have hrun0 : prun mn l kd id 0 = ⟨[], [], false⟩ := rfl
  have hstop := fun i h d => prun_stop mn l kd id i h d
  generalize prun mn l kd id = R at hinv hrun hrun0 hstop hQ
  refine FSpec.of (fn := Try.f10) Try.func10 rfl rfl (by simp) fun C hC => ?_
  obtain ⟨iadd, isub, imul, iquo, irem, iband, ibor, ibxor, ibandn, ishl, ishr, iconv, ieq, ine, ilt, ile, igt, ige, bbeq, bbne, bnot, bband, sseq, ssne, sscat, sssub, sslen, sssz, ssbyte, toN, ofN, addN, subN, eqN, ltB, leN, imx, imn, inb, leb, sslt, ltN, fit, ne0, ge0, ssfit, minN, inR, hS⟩ := names
  refine V.late ?_
  refine V.goF (by first | exact trivial | assumption) Try.func10 tl_ok mixed hS.ops [] 400 ?_
  intro VV VA W hVV hVA hW
  conv => cbv
  have e0 : imn (ofN mn) (ofN ln) = ofN m0 := by simp only [hS.glob, Vx.imn, Vx.ofN]; omega
  simp only [e0]
  repeat (refine ⟨by first | (rw [hW]; show ordOk _ _ _ = true; kernel_rfl) | (first | trivial | omega | (simp (disch := omega) only [hS.glob, wraps, plain, Int.ofNat_eq_natCast]; first | done | omega | trivial | (simp; done) | (simp; omega) | (constructor <;> omega)) | (simp (disch := omega) only [hS.glob, wraps, plain, Int.ofNat_eq_natCast, Vx.toN]; omega)), ?_⟩)
  simp only [hS.tidy]
  rw [hVV]
  clear hVV hVA VV VA hW W e0
  refine V.phantomOb 0 0 41 2 (icol2 (fun _ => 0) (fun _ => 0)) rfl rfl ?_
  refine V.phantomOb 1 0 49 2 (icol2 (fun _ => 0) (fun _ => 0)) rfl rfl ?_
  refine V.to (s' := [(19, .int .i64 (ofN 0)), (18, .int .i64 (ofN m0)), (17, .rows 2 m0 (icol2 kd id)), (5, .ptr 0 0 0), (6, .ptr 1 0 0), (0, .rows 1 ln (icol .i64 l))]) (H' := HH 0 0 (fun _ => 0) (fun _ => 0) (fun _ => 0) (fun _ => 0)) ?_ (by (repeat' first | exact trivial | rfl | (refine And.intro ?_ ?_) | (refine sti ?_; (first | rfl | omega | (simp (disch := omega) only [hS.glob, wraps, plain, Int.ofNat_eq_natCast]; first | done | rfl | omega | (simp; done) | (simp; omega)) | (simp (disch := omega) only [hS.glob, wraps, plain, Int.ofNat_eq_natCast, Vx.toN]; omega))) | (refine slq ?_ ?_ ?_ <;> (first | rfl | omega | (simp (disch := omega) only [hS.glob, wraps, plain, Int.ofNat_eq_natCast]; first | done | rfl | omega | (simp; done) | (simp; omega)) | (simp (disch := omega) only [hS.glob, wraps, plain, Int.ofNat_eq_natCast, Vx.toN]; omega))) | (refine ptq ?_ ?_ ?_ <;> (first | rfl | omega | (simp (disch := omega) only [hS.glob, wraps, plain, Int.ofNat_eq_natCast]; first | done | rfl | omega | (simp; done) | (simp; omega)) | (simp (disch := omega) only [hS.glob, wraps, plain, Int.ofNat_eq_natCast, Vx.toN]; omega))) | (refine blq ?_; (first | rfl | omega | (simp (disch := omega) only [hS.glob, wraps, plain, Int.ofNat_eq_natCast]; first | done | rfl | omega | (simp; done) | (simp; omega)) | (simp (disch := omega) only [hS.glob, wraps, plain, Int.ofNat_eq_natCast, Vx.toN]; omega))))) rfl (by unfold HH; (repeat' first | exact trivial | rfl | exact Nat.le_refl _ | exact (fun _ _ => rfl) | (refine And.intro ?_ ?_) | (simp only [hS.glob, plain]; first | done | omega))) (by rw [hC]; exact Nat.zero_le _)
  refine V.loopC (γ := Nat × (Nat × (Nat → Int) × (Nat → Int)) × Nat × (Nat → Int) × (Nat → Int)) 0 (fun g => g.1 ≤ m0 ∧ (R g.1).stop = false ∧ (tab g.2.1.1 (fun j => (g.2.1.2.1 j, g.2.1.2.2 j)) = (R g.1).out.map castP) ∧ g.2.2.1 = (R g.1).st.length ∧ (∀ q, q < g.2.2.1 → g.2.2.2.1 q = ((R g.1).st.getD q 0 : Int) ∧ g.2.2.2.2 q = id ((R g.1).st.getD q 0)))
    (fun g => [(19, .int .i64 (ofN g.1)), (18, .int .i64 (ofN m0)), (17, .rows 2 m0 (icol2 kd id)), (5, .ptr 0 0 0), (6, .ptr 1 0 0), (0, .rows 1 ln (icol .i64 l))]) (fun g => HH g.2.1.1 g.2.2.1 g.2.1.2.1 g.2.1.2.2 g.2.2.2.1 g.2.2.2.2) (fun g => m0 - g.1) ?_ (0, (0, (fun _ => 0), (fun _ => 0)), 0, (fun _ => 0), (fun _ => 0)) hC ⟨Nat.zero_le _, by rw [hrun0], by rw [hrun0]; rfl, by rw [hrun0]; rfl, fun q hq => absurd hq (Nat.not_lt_zero _)⟩
  clear hC C
  rintro C ⟨i, ⟨m, a, b⟩, n, sp, si⟩ hC ⟨hi, hs, hab, hn, hsp⟩ hback
  dsimp only at hi hs hab hn hsp hback ⊢
  have hI := hinv i
  have hn63 := hI.len.1
  have hmi := hI.len.2
  rw [← hn] at hn63 hmi
  have hml : m = (R i).out.length := by
    have := congrArg List.length hab
    simpa [tab] using this
  rw [← hml] at hmi
  refine V.goF (by first | exact trivial | assumption) Try.func10 tl_ok mixed hS.ops [] 400 ?_
  intro VV VA W hVV hVA hW
  conv => cbv
  cases h1 : ilt (ofN i) (ofN m0)
  · conv => cbv
    simp (disch := first | omega | (simp only [hS.glob, wraps, plain, Int.ofNat_eq_natCast]; omega)) only [hS.glob, wraps, plain, Int.ofNat_eq_natCast] at h1
    have habf : tab m (fun j => (a j, b j)) = (R m0).out.map castP := by
      have : i = m0 := by omega
      rw [this] at hab; exact hab
    have hI2 := hinv m0
    rw [hVV]
    clear hVV hVA VV VA hW W hback
    refine V.call rfl rfl rfl rfl rfl Try.func17 rfl (by decide) [2] (by decide) (all_lt (by rfl)) (by (first | rfl | ((conv => cbv); (repeat' apply And.intro) <;> first | rfl | trivial | (first | rfl | omega | (simp (disch := omega) only [hS.glob, wraps, plain, Int.ofNat_eq_natCast]; first | done | rfl | omega | (simp; done) | (simp; omega)) | (simp (disch := omega) only [hS.glob, wraps, plain, Int.ofNat_eq_natCast, Vx.toN]; omega))))) (by rfl) (f17_ok m (by omega) a b) ?_
    rintro r Hc ⟨rfl, a', b', rfl, hp, hsort⟩
    refine V.goF (by first | exact trivial | assumption) Try.func10 tl_ok mixed hS.ops [] 400 ?_
    intro VV VA W hVV hVA hW
    conv => cbv
    rw [hQ]
    refine ⟨m, a', b', _, _, _, rfl, rfl, ints_canon hI2.nodup (fun p hp => ?_) (by rw [← habf]; exact hp) ?_⟩
    · have := hI2.out p hp; omega
    · refine List.pairwise_iff_getElem.2 fun x y hx hy hxy => ?_
      simp only [tab, List.length_map, List.length_range] at hx hy
      simp only [tab, List.getElem_map, List.getElem_range]
      exact hsort x y hxy hy
  · conv => cbv
    simp (disch := first | omega | (simp only [hS.glob, wraps, plain, Int.ofNat_eq_natCast]; omega)) only [hS.glob, wraps, plain, Int.ofNat_eq_natCast] at h1
    repeat (refine ⟨by first | (rw [hW]; show ordOk _ _ _ = true; kernel_rfl) | (first | trivial | omega | (simp (disch := omega) only [hS.glob, wraps, plain, Int.ofNat_eq_natCast]; first | done | omega | trivial | (simp; done) | (simp; omega) | (constructor <;> omega)) | (simp (disch := omega) only [hS.glob, wraps, plain, Int.ofNat_eq_natCast, Vx.toN]; omega)), ?_⟩)
    simp only [hS.tidy]
    obtain ⟨K, hK⟩ : ∃ K, K = kindM mn l kd i := ⟨_, rfl⟩
    have hK2 : K = if l i = 13 then (if kd i = 1 then 1 else if kd i = 2 then 2 else 0) else 0 := by
      rw [hK]; unfold kindM
      by_cases h : l i = 13
      · rw [if_pos ⟨by omega, h⟩, if_pos h]
      · rw [if_neg (by omega), if_neg h]
    have hR1 := hrun i
    rw [← hK] at hR1
    unfold pstep at hR1
    rw [if_neg (by rw [hs]; decide)] at hR1
    clear hK
    have stay : K = 0 → R (i + 1) = R i := fun h => by rw [hR1, if_neg (by omega), if_neg (by omega)]
    repeat (refine ⟨by first | (rw [hW]; show ordOk _ _ _ = true; kernel_rfl) | (first | trivial | omega | (simp (disch := omega) only [hS.glob, wraps, plain, Int.ofNat_eq_natCast]; first | done | omega | trivial | (simp; done) | (simp; omega) | (constructor <;> omega)) | (simp (disch := omega) only [hS.glob, wraps, plain, Int.ofNat_eq_natCast, Vx.toN]; omega)), ?_⟩)
    try simp only [hS.tidy]
    cases h2 : ine (l i) 13
    · conv => cbv
      simp (disch := first | omega | (simp only [hS.glob, wraps, plain, Int.ofNat_eq_natCast]; omega)) only [hS.glob, wraps, plain, Int.ofNat_eq_natCast] at h2
      rw [if_pos h2] at hK2
      cases h3 : ieq (kd i) 1
      · conv => cbv
        simp only [h3]
        conv => cbv
        have h3v := h3
        simp (disch := first | omega | (simp only [hS.glob, wraps, plain, Int.ofNat_eq_natCast]; omega)) only [hS.glob, wraps, plain, Int.ofNat_eq_natCast] at h3v
        rw [if_neg h3v] at hK2
        cases h5 : ieq (kd i) 2
        · conv => cbv
          simp (disch := first | omega | (simp only [hS.glob, wraps, plain, Int.ofNat_eq_natCast]; omega)) only [hS.glob, wraps, plain, Int.ofNat_eq_natCast] at h5
          rw [if_neg h5] at hK2
          have e := stay hK2
          rw [hVV]
          clear hVV hVA VV VA hW W
          exact V.to (hback C (i + 1, (m, a, b), n, sp, si) hC ⟨by simp only; omega, by simp only; rw [e]; exact hs, by simp only; rw [e]; exact hab, by simp only; rw [e]; exact hn, by simp only; rw [e]; exact hsp⟩ (by simp only; omega)) (by (repeat' first | exact trivial | rfl | (refine And.intro ?_ ?_) | (refine sti ?_; (first | rfl | omega | (simp (disch := omega) only [hS.glob, wraps, plain, Int.ofNat_eq_natCast]; first | done | rfl | omega | (simp; done) | (simp; omega)) | (simp (disch := omega) only [hS.glob, wraps, plain, Int.ofNat_eq_natCast, Vx.toN]; omega))) | (refine slq ?_ ?_ ?_ <;> (first | rfl | omega | (simp (disch := omega) only [hS.glob, wraps, plain, Int.ofNat_eq_natCast]; first | done | rfl | omega | (simp; done) | (simp; omega)) | (simp (disch := omega) only [hS.glob, wraps, plain, Int.ofNat_eq_natCast, Vx.toN]; omega))) | (refine ptq ?_ ?_ ?_ <;> (first | rfl | omega | (simp (disch := omega) only [hS.glob, wraps, plain, Int.ofNat_eq_natCast]; first | done | rfl | omega | (simp; done) | (simp; omega)) | (simp (disch := omega) only [hS.glob, wraps, plain, Int.ofNat_eq_natCast, Vx.toN]; omega))) | (refine blq ?_; (first | rfl | omega | (simp (disch := omega) only [hS.glob, wraps, plain, Int.ofNat_eq_natCast]; first | done | rfl | omega | (simp; done) | (simp; omega)) | (simp (disch := omega) only [hS.glob, wraps, plain, Int.ofNat_eq_natCast, Vx.toN]; omega))))) rfl (by unfold HH; (repeat' first | exact trivial | rfl | exact Nat.le_refl _ | exact (fun _ _ => rfl) | (refine And.intro ?_ ?_) | (simp only [hS.glob, plain]; first | done | omega))) (by rw [hC]; exact Nat.zero_le _)
        · conv => cbv
          simp (disch := first | omega | (simp only [hS.glob, wraps, plain, Int.ofNat_eq_natCast]; omega)) only [hS.glob, wraps, plain, Int.ofNat_eq_natCast] at h5
          rw [if_pos h5] at hK2
          rw [hVV]
          clear hVV hVA VV VA hW W
          refine V.call rfl rfl rfl rfl rfl Try.func16 rfl (by decide) [3] (by decide) (all_lt (by rfl)) (by (first | rfl | ((conv => cbv); (repeat' apply And.intro) <;> first | rfl | trivial | (first | rfl | omega | (simp (disch := omega) only [hS.glob, wraps, plain, Int.ofNat_eq_natCast]; first | done | rfl | omega | (simp; done) | (simp; omega)) | (simp (disch := omega) only [hS.glob, wraps, plain, Int.ofNat_eq_natCast, Vx.toN]; omega))))) (by rfl) (f16_ok n (icol2 sp si)) ?_
          rintro r Hc ⟨rfl, rfl⟩
          refine V.goF (by first | exact trivial | assumption) Try.func10 tl_ok mixed hS.ops [] 400 ?_
          intro VV VA W hVV hVA hW
          conv => cbv
          rw [hVV]
          clear hVV hVA VV VA hW W
          rw [if_neg (by omega), if_pos hK2, ← hn] at hR1
          obtain ⟨F, hF⟩ : ∃ F, F = findB (fun q => id ((R i).st.getD q 0) == id i) n := ⟨_, rfl⟩
          rw [← hF] at hR1
          refine V.rangeFunc (.inr rfl) (g := 26) (gfn := Try.f26) rfl Try.func26 rfl rfl (by decide) rfl rfl (QN := fun H' => F = none ∧ H' = HK m n a b sp si (ofN i) (kd i) (id i)) (QS := fun j H' => j = some (.exit 1) ∧ ∃ k g w1 w2, F = some k ∧ k < n ∧ (∀ j, j < m → g j = icol2 a b j) ∧ g m = [.int .i64 (sp k), .int .i64 (ofN i)] ∧ H' = HS m k n sp si (ofN i) (kd i) (id i) g w1 w2) ?_ ?_ ?_ ?_
          · intro C' lp hC' it
            refine V.goF (by first | exact trivial | assumption) Try.func26 tl_ok mixed hS.ops [] 400 ?_
            intro VV VA W hVV hVA hW
            conv => cbv
            obtain ⟨zf, hzf⟩ : ∃ zf : Nat → Int, ∀ n, zf n = n - 1 := ⟨_, fun _ => rfl⟩
            have ek : isub .i64 (ofN n) 1 = zf n := by rw [hzf]; simp (disch := first | omega | (simp only [hS.glob, wraps, plain, Int.ofNat_eq_natCast]; omega)) only [hS.glob, wraps, plain, Int.ofNat_eq_natCast]
            rw [ek, hVV]
            clear hVV hVA VV VA hW W ek hback
            refine V.to (s' := [(3, .int .i64 (zf n)), (0, .fn (.yield lp) [] []), (1, .ptr 6 0 0)]) (H' := HK m n a b sp si (ofN i) (kd i) (id i)) ?_ (by (repeat' first | exact trivial | rfl | (refine And.intro ?_ ?_) | (refine sti ?_; (first | rfl | omega | (simp (disch := omega) only [hS.glob, wraps, plain, Int.ofNat_eq_natCast]; first | done | rfl | omega | (simp; done) | (simp; omega)) | (simp (disch := omega) only [hS.glob, wraps, plain, Int.ofNat_eq_natCast, Vx.toN]; omega))) | (refine slq ?_ ?_ ?_ <;> (first | rfl | omega | (simp (disch := omega) only [hS.glob, wraps, plain, Int.ofNat_eq_natCast]; first | done | rfl | omega | (simp; done) | (simp; omega)) | (simp (disch := omega) only [hS.glob, wraps, plain, Int.ofNat_eq_natCast, Vx.toN]; omega))) | (refine ptq ?_ ?_ ?_ <;> (first | rfl | omega | (simp (disch := omega) only [hS.glob, wraps, plain, Int.ofNat_eq_natCast]; first | done | rfl | omega | (simp; done) | (simp; omega)) | (simp (disch := omega) only [hS.glob, wraps, plain, Int.ofNat_eq_natCast, Vx.toN]; omega))) | (refine blq ?_; (first | rfl | omega | (simp (disch := omega) only [hS.glob, wraps, plain, Int.ofNat_eq_natCast]; first | done | rfl | omega | (simp; done) | (simp; omega)) | (simp (disch := omega) only [hS.glob, wraps, plain, Int.ofNat_eq_natCast, Vx.toN]; omega))))) rfl (by unfold HK; (repeat' first | exact trivial | rfl | exact Nat.le_refl _ | exact (fun _ _ => rfl) | (refine And.intro ?_ ?_) | (simp only [hS.glob, plain]; first | done | omega))) (by rw [hC']; exact Nat.le_refl _)
            have hF0 := hF
            refine V.loop (γ := Nat) (fun d => d ≤ n ∧ F = findB (fun q => id ((R i).st.getD q 0) == id i) d) (fun d => [(3, .int .i64 (zf d)), (0, .fn (.yield lp) [] []), (1, .ptr 6 0 0)]) (fun _ => HK m n a b sp si (ofN i) (kd i) (id i)) (fun d => d) ?_ n ⟨Nat.le_refl _, hF⟩
            rintro d ⟨hd, hFd⟩ hback
            clear hF0 hF
            refine V.goF (by first | exact trivial | assumption) Try.func26 tl_ok mixed hS.ops [] 400 ?_
            intro VV VA W hVV hVA hW
            conv => cbv
            cases h6 : ige (zf d) 0
            · conv => cbv
              simp (disch := first | omega | (simp only [hS.glob, wraps, plain, Int.ofNat_eq_natCast]; omega)) only [hS.glob, wraps, plain, Int.ofNat_eq_natCast] at h6
              have := hzf d
              obtain rfl : d = 0 := by omega
              exact ⟨by rw [hFd]; rfl, trivial⟩
            · conv => cbv
              simp (disch := first | omega | (simp only [hS.glob, wraps, plain, Int.ofNat_eq_natCast]; omega)) only [hS.glob, wraps, plain, Int.ofNat_eq_natCast] at h6
              have hz1 := hzf d
              obtain ⟨e, rfl⟩ : ∃ e, d = e + 1 := ⟨d - 1, by omega⟩
              have ez : zf (e + 1) = ofN e := by simp (disch := first | omega | (simp only [hS.glob, wraps, plain, Int.ofNat_eq_natCast]; omega)) only [hS.glob, wraps, plain, Int.ofNat_eq_natCast]; rw [hz1]; omega
              simp only [ez]
              repeat (refine ⟨by first | (rw [hW]; show ordOk _ _ _ = true; kernel_rfl) | (first | trivial | omega | (simp (disch := omega) only [hS.glob, wraps, plain, Int.ofNat_eq_natCast]; first | done | omega | trivial | (simp; done) | (simp; omega) | (constructor <;> omega)) | (simp (disch := omega) only [hS.glob, wraps, plain, Int.ofNat_eq_natCast, Vx.toN]; omega)), ?_⟩)
              simp only [hS.tidy]
              obtain ⟨q1, q2⟩ := hsp e (by omega)
              rw [findB, ← q2] at hFd
              rw [hVV]
              clear hVV hVA VV VA hW W
              obtain ⟨QR, hQR⟩ : ∃ QR : Option Code → Hp → Prop, QR = fun j H' => (j = none ∧ si e ≠ id i ∧ ∃ w, H' = HK m n a b sp si (ofN i) (kd i) (id i) ++ [w]) ∨ (j = some (.exit 1) ∧ si e = id i ∧ ∃ g w1 w2, (∀ j, j < m → g j = icol2 a b j) ∧ g m = [.int .i64 (sp e), .int .i64 (ofN i)] ∧ H' = HS m e n sp si (ofN i) (kd i) (id i) g w1 w2) := ⟨_, rfl⟩
              refine V.yield it rfl rfl rfl rfl rfl rfl rfl rfl (QR := QR) ?_ ?_ ?_
              · clear it hback
                intro C2 hC2 hR2
                have hfit := hR2.fits QR
                refine V.goF (by first | exact trivial | assumption) Try.func10 tl_ok mixed hS.ops [] 400 ?_
                intro VV VA W hVV hVA hW
                conv => cbv
                rw [hVV]
                clear hVV hVA VV VA hW W
                refine V.beginRound hR2 fun C3 hC3 hfit3 => ?_
                refine V.goF (by first | exact trivial | assumption) Try.func10 tl_ok mixed hS.ops [] 400 ?_
                intro VV VA W hVV hVA hW
                conv => cbv
                cases h7 : ieq (si e) (id i)
                · conv => cbv
                  simp (disch := first | omega | (simp only [hS.glob, wraps, plain, Int.ofNat_eq_natCast]; omega)) only [hS.glob, wraps, plain, Int.ofNat_eq_natCast] at h7
                  rw [hQR]
                  exact .inl ⟨rfl, h7, _, rfl⟩
                · conv => cbv
                  simp (disch := first | omega | (simp only [hS.glob, wraps, plain, Int.ofNat_eq_natCast]; omega)) only [hS.glob, wraps, plain, Int.ofNat_eq_natCast] at h7
                  repeat (refine ⟨by first | (rw [hW]; show ordOk _ _ _ = true; kernel_rfl) | (first | trivial | omega | (simp (disch := omega) only [hS.glob, wraps, plain, Int.ofNat_eq_natCast]; first | done | omega | trivial | (simp; done) | (simp; omega) | (constructor <;> omega)) | (simp (disch := omega) only [hS.glob, wraps, plain, Int.ofNat_eq_natCast, Vx.toN]; omega)), ?_⟩)
                  simp only [hS.tidy]
                  have ea : addN m 1 = m + 1 := by simp [hS.glob, Vx.addN]
                  simp only [ea]
                  rw [hQR]
                  exact .inr ⟨rfl, h7, _, _, _, fun j hj => by simp [hS.glob, Vx.ltB, hj], by simp [hS.glob, Vx.ltB, Vx.subN], rfl⟩
              · rw [hQR]
                rintro H' (⟨_, h7, w, rfl⟩ | ⟨h, _⟩)
                · refine V.goF (by first | exact trivial | assumption) Try.func26 tl_ok mixed hS.ops [] 400 ?_
                  intro VV VA W hVV hVA hW
                  conv => cbv
                  have ez2 : isub .i64 (ofN e) 1 = zf e := by rw [hzf]; simp (disch := first | omega | (simp only [hS.glob, wraps, plain, Int.ofNat_eq_natCast]; omega)) only [hS.glob, wraps, plain, Int.ofNat_eq_natCast]
                  simp only [ez2]
                  rw [hVV]
                  clear hVV hVA VV VA hW W
                  exact V.to (hback e ⟨by omega, by rw [hFd, if_neg (by simpa using h7)]⟩ (by omega)) (by (repeat' first | exact trivial | rfl | (refine And.intro ?_ ?_) | (refine sti ?_; (first | rfl | omega | (simp (disch := omega) only [hS.glob, wraps, plain, Int.ofNat_eq_natCast]; first | done | rfl | omega | (simp; done) | (simp; omega)) | (simp (disch := omega) only [hS.glob, wraps, plain, Int.ofNat_eq_natCast, Vx.toN]; omega))) | (refine slq ?_ ?_ ?_ <;> (first | rfl | omega | (simp (disch := omega) only [hS.glob, wraps, plain, Int.ofNat_eq_natCast]; first | done | rfl | omega | (simp; done) | (simp; omega)) | (simp (disch := omega) only [hS.glob, wraps, plain, Int.ofNat_eq_natCast, Vx.toN]; omega))) | (refine ptq ?_ ?_ ?_ <;> (first | rfl | omega | (simp (disch := omega) only [hS.glob, wraps, plain, Int.ofNat_eq_natCast]; first | done | rfl | omega | (simp; done) | (simp; omega)) | (simp (disch := omega) only [hS.glob, wraps, plain, Int.ofNat_eq_natCast, Vx.toN]; omega))) | (refine blq ?_; (first | rfl | omega | (simp (disch := omega) only [hS.glob, wraps, plain, Int.ofNat_eq_natCast]; first | done | rfl | omega | (simp; done) | (simp; omega)) | (simp (disch := omega) only [hS.glob, wraps, plain, Int.ofNat_eq_natCast, Vx.toN]; omega))))) rfl (by unfold HK; (repeat' first | exact trivial | rfl | exact Nat.le_refl _ | exact (fun _ _ => rfl) | (refine And.intro ?_ ?_) | (simp only [hS.glob, plain]; first | done | omega))) (by rw [hC']; exact Nat.le_refl _)
                · cases h
              · rw [hQR]
                rintro j H' (⟨h, _⟩ | ⟨hj, h7, g, w1, w2, g1, g2, rfl⟩) C2 hC2
                · cases h
                · refine V.goF (by first | exact trivial | assumption) Try.func26 tl_ok mixed hS.ops [] 400 ?_
                  intro VV VA W hVV hVA hW
                  conv => cbv
                  exact ⟨hj, e, g, w1, w2, by rw [hFd, if_pos (by simpa using h7)], by omega, g1, g2, rfl⟩
          · rintro H' ⟨hFn, rfl⟩ C2 hC2
            rw [hFn] at hR1
            simp only at hR1
            refine V.goF (by first | exact trivial | assumption) Try.func10 tl_ok mixed hS.ops [] 400 ?_
            intro VV VA W hVV hVA hW
            conv => cbv
            rw [hVV]
            clear hVV hVA VV VA hW W
            exact V.to (hback C2 (i + 1, (m, a, b), n, sp, si) (hC2.trans hC) ⟨by simp only; omega, by simp only; rw [hR1]; exact hs, by simp only; rw [hR1]; exact hab, by simp only; rw [hR1]; exact hn, by simp only; rw [hR1]; exact hsp⟩ (by simp only; omega)) (by (repeat' first | exact trivial | rfl | (refine And.intro ?_ ?_) | (refine sti ?_; (first | rfl | omega | (simp (disch := omega) only [hS.glob, wraps, plain, Int.ofNat_eq_natCast]; first | done | rfl | omega | (simp; done) | (simp; omega)) | (simp (disch := omega) only [hS.glob, wraps, plain, Int.ofNat_eq_natCast, Vx.toN]; omega))) | (refine slq ?_ ?_ ?_ <;> (first | rfl | omega | (simp (disch := omega) only [hS.glob, wraps, plain, Int.ofNat_eq_natCast]; first | done | rfl | omega | (simp; done) | (simp; omega)) | (simp (disch := omega) only [hS.glob, wraps, plain, Int.ofNat_eq_natCast, Vx.toN]; omega))) | (refine ptq ?_ ?_ ?_ <;> (first | rfl | omega | (simp (disch := omega) only [hS.glob, wraps, plain, Int.ofNat_eq_natCast]; first | done | rfl | omega | (simp; done) | (simp; omega)) | (simp (disch := omega) only [hS.glob, wraps, plain, Int.ofNat_eq_natCast, Vx.toN]; omega))) | (refine blq ?_; (first | rfl | omega | (simp (disch := omega) only [hS.glob, wraps, plain, Int.ofNat_eq_natCast]; first | done | rfl | omega | (simp; done) | (simp; omega)) | (simp (disch := omega) only [hS.glob, wraps, plain, Int.ofNat_eq_natCast, Vx.toN]; omega))))) rfl (by unfold HH; (repeat' first | exact trivial | rfl | exact Nat.le_refl _ | exact (fun _ _ => rfl) | (refine And.intro ?_ ?_) | (simp only [hS.glob, plain]; first | done | omega))) (by rw [hC2, hC]; exact Nat.zero_le _)
          · rintro j H' ⟨hj, k, g, w1, w2, hFk, hkn, g1, g2, rfl⟩ C2 hC2
            injection hj with hj
            subst hj
            rw [hFk] at hR1
            simp only at hR1
            refine V.goF (by first | exact trivial | assumption) Try.func10 tl_ok mixed hS.ops [] 400 ?_
            intro VV VA W hVV hVA hW
            conv => cbv
            have hC := hC2.trans hC
            clear hC2
            obtain ⟨a', s1, s2⟩ := snocF a m (sp k)
            obtain ⟨b', u1, u2⟩ := snocF b m (i : Int)
            rw [hVV]
            clear hVV hVA VV VA hW W
            refine V.pick [0, 1, 9, 3] (by decide) (by rw [hC]; exact begins_of rfl) (by rfl) (by rfl) ?_
            refine V.to (hback C2 (i + 1, (m + 1, a', b'), k, sp, si) hC ⟨by simp only; omega, by simp only; rw [hR1]; exact hs, ?_, by simp only; rw [hR1, List.length_take]; omega, fun q hq => ?_⟩ (by simp only; omega)) (by (repeat' first | exact trivial | rfl | (refine And.intro ?_ ?_) | (refine sti ?_; (first | rfl | omega | (simp (disch := omega) only [hS.glob, wraps, plain, Int.ofNat_eq_natCast]; first | done | rfl | omega | (simp; done) | (simp; omega)) | (simp (disch := omega) only [hS.glob, wraps, plain, Int.ofNat_eq_natCast, Vx.toN]; omega))) | (refine slq ?_ ?_ ?_ <;> (first | rfl | omega | (simp (disch := omega) only [hS.glob, wraps, plain, Int.ofNat_eq_natCast]; first | done | rfl | omega | (simp; done) | (simp; omega)) | (simp (disch := omega) only [hS.glob, wraps, plain, Int.ofNat_eq_natCast, Vx.toN]; omega))) | (refine ptq ?_ ?_ ?_ <;> (first | rfl | omega | (simp (disch := omega) only [hS.glob, wraps, plain, Int.ofNat_eq_natCast]; first | done | rfl | omega | (simp; done) | (simp; omega)) | (simp (disch := omega) only [hS.glob, wraps, plain, Int.ofNat_eq_natCast, Vx.toN]; omega))) | (refine blq ?_; (first | rfl | omega | (simp (disch := omega) only [hS.glob, wraps, plain, Int.ofNat_eq_natCast]; first | done | rfl | omega | (simp; done) | (simp; omega)) | (simp (disch := omega) only [hS.glob, wraps, plain, Int.ofNat_eq_natCast, Vx.toN]; omega))))) rfl ?_ (by rw [hC]; exact Nat.zero_le _)
            · simp only
              rw [hR1]
              simp only
              rw [List.map_append, ← hab]
              refine tab_snoc rfl (fun j hj => by rw [s1 j hj, u1 j hj]) ?_
              rw [s2, u2, (hsp k hkn).1]
              rfl
            · simp only at hq ⊢
              rw [hR1]
              simp only
              rw [List.getD_eq_getElem?_getD, List.getElem?_take, if_pos hq, ← List.getD_eq_getElem?_getD]
              exact hsp q (by omega)
            · unfold HH
              refine ⟨⟨rfl, rfl, rfl, rfl⟩, ⟨rfl, rfl, rfl, rfl⟩, ⟨rfl, rfl, ⟨Nat.le_refl _, fun j hj => ?_⟩, rfl⟩, ⟨rfl, rfl, ⟨by show k ≤ n; omega, fun _ _ => rfl⟩, rfl⟩, trivial⟩
              rcases Nat.lt_succ_iff_lt_or_eq.1 hj with h | rfl
              · simp only [icol2]; rw [s1 j h, u1 j h]; exact (g1 j h).symm
              · simp only [icol2]; rw [s2, u2]; rw [g2]; simp [hS.glob, Vx.ofN]
          · rintro H' ⟨h, _⟩
            cases h
      · conv => cbv
        have h3v := h3
        simp (disch := first | omega | (simp only [hS.glob, wraps, plain, Int.ofNat_eq_natCast]; omega)) only [hS.glob, wraps, plain, Int.ofNat_eq_natCast] at h3v
        rw [if_pos h3v] at hK2
        rw [if_pos hK2] at hR1
        cases h4 : ieq (ofN n) 63
        · conv => cbv
          simp (disch := first | omega | (simp only [hS.glob, wraps, plain, Int.ofNat_eq_natCast]; omega)) only [hS.glob, wraps, plain, Int.ofNat_eq_natCast] at h4
          simp only [h3]
          conv => cbv
          repeat (refine ⟨by first | (rw [hW]; show ordOk _ _ _ = true; kernel_rfl) | (first | trivial | omega | (simp (disch := omega) only [hS.glob, wraps, plain, Int.ofNat_eq_natCast]; first | done | omega | trivial | (simp; done) | (simp; omega) | (constructor <;> omega)) | (simp (disch := omega) only [hS.glob, wraps, plain, Int.ofNat_eq_natCast, Vx.toN]; omega)), ?_⟩)
          try simp only [hS.tidy]
          rw [if_neg (by omega)] at hR1
          obtain ⟨sp', s1, s2⟩ := snocF sp n (i : Int)
          obtain ⟨si', u1, u2⟩ := snocF si n (id i)
          rw [hVV]
          clear hVV hVA VV VA hW W
          have ea : addN n 1 = n + 1 := by simp [hS.glob, Vx.addN]
          simp only [ea]
          refine V.pick [0, 1, 2, 7] (by decide) (by rw [hC]; exact begins_of rfl) (by rfl) (by rfl) ?_
          refine V.to (hback C (i + 1, (m, a, b), n + 1, sp', si') hC ⟨by simp only; omega, by simp only; rw [hR1]; exact hs, by simp only; rw [hR1]; exact hab, by simp only; rw [hR1, List.length_append, List.length_singleton, hn], fun q hq => ?_⟩ (by simp only; omega)) (by (repeat' first | exact trivial | rfl | (refine And.intro ?_ ?_) | (refine sti ?_; (first | rfl | omega | (simp (disch := omega) only [hS.glob, wraps, plain, Int.ofNat_eq_natCast]; first | done | rfl | omega | (simp; done) | (simp; omega)) | (simp (disch := omega) only [hS.glob, wraps, plain, Int.ofNat_eq_natCast, Vx.toN]; omega))) | (refine slq ?_ ?_ ?_ <;> (first | rfl | omega | (simp (disch := omega) only [hS.glob, wraps, plain, Int.ofNat_eq_natCast]; first | done | rfl | omega | (simp; done) | (simp; omega)) | (simp (disch := omega) only [hS.glob, wraps, plain, Int.ofNat_eq_natCast, Vx.toN]; omega))) | (refine ptq ?_ ?_ ?_ <;> (first | rfl | omega | (simp (disch := omega) only [hS.glob, wraps, plain, Int.ofNat_eq_natCast]; first | done | rfl | omega | (simp; done) | (simp; omega)) | (simp (disch := omega) only [hS.glob, wraps, plain, Int.ofNat_eq_natCast, Vx.toN]; omega))) | (refine blq ?_; (first | rfl | omega | (simp (disch := omega) only [hS.glob, wraps, plain, Int.ofNat_eq_natCast]; first | done | rfl | omega | (simp; done) | (simp; omega)) | (simp (disch := omega) only [hS.glob, wraps, plain, Int.ofNat_eq_natCast, Vx.toN]; omega))))) rfl ?_ (by rw [hC]; exact Nat.zero_le _)
          · simp only at hq ⊢
            rw [hR1]
            simp only
            rcases Nat.lt_succ_iff_lt_or_eq.1 hq with h | rfl
            · rw [s1 q h, u1 q h, List.getD_eq_getElem?_getD, List.getElem?_append_left (by omega), ← List.getD_eq_getElem?_getD]
              exact hsp q h
            · rw [s2, u2, List.getD_eq_getElem?_getD, hn, List.getElem?_append_right (Nat.le_refl _)]
              simp
          · unfold HH
            refine ⟨⟨rfl, rfl, rfl, rfl⟩, ⟨rfl, rfl, rfl, rfl⟩, ⟨rfl, rfl, ⟨Nat.le_refl _, fun _ _ => rfl⟩, rfl⟩, ⟨rfl, rfl, ⟨Nat.le_refl _, fun j hj => leafR (by simp [hS.glob]) (by simp [hS.glob]) [.int .i64 (ofN i), .int .i64 (id i)] (icol2 sp si) (icol2 sp' si') n (fun j hj => by simp only [icol2]; rw [s1 j hj, u1 j hj]) (by simp only [icol2]; rw [s2, u2]; simp [hS.glob, Vx.ofN]) j hj⟩, rfl⟩, trivial⟩
        · conv => cbv
          simp (disch := first | omega | (simp only [hS.glob, wraps, plain, Int.ofNat_eq_natCast]; omega)) only [hS.glob, wraps, plain, Int.ofNat_eq_natCast] at h4
          rw [if_pos (by omega)] at hR1
          have habf : tab m (fun j => (a j, b j)) = (R m0).out.map castP := by
            have e9 := hstop (i + 1) (by rw [hR1]) (m0 - (i + 1))
            rw [show i + 1 + (m0 - (i + 1)) = m0 by omega, hR1] at e9
            rw [e9]; exact hab
          have hI2 := hinv m0
          rw [hVV]
          clear hVV hVA VV VA hW W hback
          refine V.call rfl rfl rfl rfl rfl Try.func17 rfl (by decide) [2] (by decide) (all_lt (by rfl)) (by (first | rfl | ((conv => cbv); (repeat' apply And.intro) <;> first | rfl | trivial | (first | rfl | omega | (simp (disch := omega) only [hS.glob, wraps, plain, Int.ofNat_eq_natCast]; first | done | rfl | omega | (simp; done) | (simp; omega)) | (simp (disch := omega) only [hS.glob, wraps, plain, Int.ofNat_eq_natCast, Vx.toN]; omega))))) (by rfl) (f17_ok m (by omega) a b) ?_
          rintro r Hc ⟨rfl, a', b', rfl, hp, hsort⟩
          refine V.goF (by first | exact trivial | assumption) Try.func10 tl_ok mixed hS.ops [] 400 ?_
          intro VV VA W hVV hVA hW
          conv => cbv
          rw [hQ]
          refine ⟨m, a', b', _, _, _, rfl, rfl, ints_canon hI2.nodup (fun p hp => ?_) (by rw [← habf]; exact hp) ?_⟩
          · have := hI2.out p hp; omega
          · refine List.pairwise_iff_getElem.2 fun x y hx hy hxy => ?_
            simp only [tab, List.length_map, List.length_range] at hx hy
            simp only [tab, List.getElem_map, List.getElem_range]
            exact hsort x y hxy hy
    · conv => cbv
      simp (disch := first | omega | (simp only [hS.glob, wraps, plain, Int.ofNat_eq_natCast]; omega)) only [hS.glob, wraps, plain, Int.ofNat_eq_natCast] at h2
      rw [if_neg h2] at hK2
      have e := stay hK2
      rw [hVV]
      clear hVV hVA VV VA hW W
      exact V.to (hback C (i + 1, (m, a, b), n, sp, si) hC ⟨by simp only; omega, by simp only; rw [e]; exact hs, by simp only; rw [e]; exact hab, by simp only; rw [e]; exact hn, by simp only; rw [e]; exact hsp⟩ (by simp only; omega)) (by (repeat' first | exact trivial | rfl | (refine And.intro ?_ ?_) | (refine sti ?_; (first | rfl | omega | (simp (disch := omega) only [hS.glob, wraps, plain, Int.ofNat_eq_natCast]; first | done | rfl | omega | (simp; done) | (simp; omega)) | (simp (disch := omega) only [hS.glob, wraps, plain, Int.ofNat_eq_natCast, Vx.toN]; omega))) | (refine slq ?_ ?_ ?_ <;> (first | rfl | omega | (simp (disch := omega) only [hS.glob, wraps, plain, Int.ofNat_eq_natCast]; first | done | rfl | omega | (simp; done) | (simp; omega)) | (simp (disch := omega) only [hS.glob, wraps, plain, Int.ofNat_eq_natCast, Vx.toN]; omega))) | (refine ptq ?_ ?_ ?_ <;> (first | rfl | omega | (simp (disch := omega) only [hS.glob, wraps, plain, Int.ofNat_eq_natCast]; first | done | rfl | omega | (simp; done) | (simp; omega)) | (simp (disch := omega) only [hS.glob, wraps, plain, Int.ofNat_eq_natCast, Vx.toN]; omega))) | (refine blq ?_; (first | rfl | omega | (simp (disch := omega) only [hS.glob, wraps, plain, Int.ofNat_eq_natCast]; first | done | rfl | omega | (simp; done) | (simp; omega)) | (simp (disch := omega) only [hS.glob, wraps, plain, Int.ofNat_eq_natCast, Vx.toN]; omega))))) rfl (by unfold HH; (repeat' first | exact trivial | rfl | exact Nat.le_refl _ | exact (fun _ _ => rfl) | (refine And.intro ?_ ?_) | (simp only [hS.glob, plain]; first | done | omega))) (by rw [hC]; exact Nat.zero_le _)
theorem f10_ok (ln mn : Nat) (hm : mn ≤ 8796093022208) (hl : ln ≤ 17592186044416) (l kd id : Nat → Int) : FSpec Try.prog 10 [.rows 1 ln (icol .i64 l), .rows 2 mn (icol2 kd id)] [] (fun r H' => ∃ m a b, r = .sl 0 0 m ∧ H' = [some ⟨41, 2, .arr m (icol2 a b)⟩] ∧ tab m (fun i => (a i, b i)) = (pairsL ln mn l kd id).map castP) := by
  refine FSpec.repick (FSpec.weaken (f10_ok1 ln mn hm hl l kd id) (Q' := fun r H' => ∃ m a b, r = .sl 2 0 m ∧ H' = [none, none, some ⟨41, 2, .arr m (icol2 a b)⟩] ∧ tab m (fun i => (a i, b i)) = (pairsL ln mn l kd id).map castP) ?_) ?_
  · rintro r H' ⟨m, a, b, x, y, t, rfl, rfl, h⟩
    exact ⟨[none, none, some ⟨41, 2, .arr m (icol2 a b)⟩], ⟨⟨rfl, rfl, ⟨Nat.le_refl _, fun _ _ => rfl⟩, rfl⟩, by cases t with | nil => trivial | cons x t => cases x <;> trivial⟩, rfl, by simp, m, a, b, rfl, rfl, h⟩
  · rintro r H' ⟨m, a, b, rfl, rfl, h⟩
    exact ⟨[2], by decide, fun k hk => by simp at hk, m, a, b, rfl, rfl, h⟩
end Go.Proofs.Ytcoanfhjgmndcaa
