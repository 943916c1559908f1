/- Contracts of functions by an evaluator of the model: its part T4. -/
import Derived.Test.YtcoanfhjgmndcaaT3
set_option linter.all false
/- Pairs are compared. -/
namespace Go.Proofs.Ytcoanfhjgmndcaa
open Go Vx

theorem f9_ok (n m : Nat) (a b c d : Nat → Int) (R : Bool) (hR : R = true ↔ n = m ∧ ∀ j, j < n → a j = c j ∧ b j = d j) : FSpec Try.prog 9 [.sl 0 0 n, .sl 1 0 m] [some ⟨41, 2, .arr n (icol2 a b)⟩, some ⟨41, 2, .arr m (icol2 c d)⟩] (fun r H' => r = .bool R ∧ H' = [some ⟨41, 2, .arr n (icol2 a b)⟩, some ⟨41, 2, .arr m (icol2 c d)⟩]) := by
  refine FSpec.of (fn := Try.f9) Try.func9 rfl rfl (by simp) fun C hC => ?_
  obtain ⟨iadd, isub, imul, iquo, irem, iband, ibor, ibxor, ibandn, ishl, ishr, iconv, ieq, ine, ilt, ile, igt, ige, bbeq, bbne, bnot, bband, sseq, ssne, sscat, sssub, sslen, sssz, ssbyte, toN, ofN, addN, subN, eqN, ltB, leN, imx, imn, inb, leb, sslt, ltN, fit, ne0, ge0, ssfit, minN, inR, hS⟩ := names
  refine V.slLen 0 (n := n) rfl rfl fun hx => ?_
  refine V.slLen 1 (n := m) rfl rfl fun hy => ?_
  simp (disch := first | omega | (simp only [hS.glob, wraps, plain, Int.ofNat_eq_natCast]; omega)) only [hS.glob, wraps, plain, Int.ofNat_eq_natCast] at hx
  simp (disch := first | omega | (simp only [hS.glob, wraps, plain, Int.ofNat_eq_natCast]; omega)) only [hS.glob, wraps, plain, Int.ofNat_eq_natCast] at hy
  refine V.goF (by first | exact trivial | assumption) Try.func9 tl_ok mixed hS.ops [] 400 ?_
  intro VV VA W hVV hVA hW
  conv => cbv
  split <;> rename_i h
  · conv => cbv
    simp (disch := first | omega | (simp only [hS.glob, wraps, plain, Int.ofNat_eq_natCast]; omega)) only [hS.glob, wraps, plain, Int.ofNat_eq_natCast] at h
    refine ⟨?_, trivial⟩
    congr 1
    cases R
    · rfl
    · have := (hR.1 rfl).1; omega
  · conv => cbv
    simp (disch := first | omega | (simp only [hS.glob, wraps, plain, Int.ofNat_eq_natCast]; omega)) only [hS.glob, wraps, plain, Int.ofNat_eq_natCast] at h
    have hl : n = m := by omega
    rw [hVV]
    refine V.to (s' := [(5, .int .i64 (ofN 0)), (0, .sl 0 0 n), (1, .sl 1 0 m)]) (H' := [some ⟨41, 2, .arr n (icol2 a b)⟩, some ⟨41, 2, .arr m (icol2 c d)⟩]) ?_ (by (repeat' first | exact trivial | rfl | (refine And.intro ?_ ?_) | (refine sti ?_; (first | rfl | omega | (simp (disch := omega) only [hS.glob, wraps, plain, Int.ofNat_eq_natCast]; first | done | rfl | omega | (simp; done) | (simp; omega)) | (simp (disch := omega) only [hS.glob, wraps, plain, Int.ofNat_eq_natCast, Vx.toN]; omega))) | (refine slq ?_ ?_ ?_ <;> (first | rfl | omega | (simp (disch := omega) only [hS.glob, wraps, plain, Int.ofNat_eq_natCast]; first | done | rfl | omega | (simp; done) | (simp; omega)) | (simp (disch := omega) only [hS.glob, wraps, plain, Int.ofNat_eq_natCast, Vx.toN]; omega))) | (refine ptq ?_ ?_ ?_ <;> (first | rfl | omega | (simp (disch := omega) only [hS.glob, wraps, plain, Int.ofNat_eq_natCast]; first | done | rfl | omega | (simp; done) | (simp; omega)) | (simp (disch := omega) only [hS.glob, wraps, plain, Int.ofNat_eq_natCast, Vx.toN]; omega))) | (refine blq ?_; (first | rfl | omega | (simp (disch := omega) only [hS.glob, wraps, plain, Int.ofNat_eq_natCast]; first | done | rfl | omega | (simp; done) | (simp; omega)) | (simp (disch := omega) only [hS.glob, wraps, plain, Int.ofNat_eq_natCast, Vx.toN]; omega))))) rfl (by (repeat' first | exact trivial | rfl | exact Nat.le_refl _ | exact (fun _ _ => rfl) | (refine And.intro ?_ ?_) | (simp only [hS.glob, plain]; first | done | omega))) (by rw [hC]; simp)
    refine V.loop (γ := Nat) (fun i => i ≤ n ∧ ∀ j, j < i → a j = c j ∧ b j = d j) (fun i => [(5, .int .i64 (ofN i)), (0, .sl 0 0 n), (1, .sl 1 0 m)]) (fun _ => [some ⟨41, 2, .arr n (icol2 a b)⟩, some ⟨41, 2, .arr m (icol2 c d)⟩]) (fun i => n - i) ?_ 0 ⟨Nat.zero_le _, fun j hj => by omega⟩
    rintro i ⟨hi, heq⟩ hback
    clear hVV hVA VV VA hW W
    refine V.goF (by first | exact trivial | assumption) Try.func9 tl_ok mixed hS.ops [] 400 ?_
    intro VV VA W hVV hVA hW
    conv => cbv
    split <;> rename_i h2
    · conv => cbv
      simp (disch := first | omega | (simp only [hS.glob, wraps, plain, Int.ofNat_eq_natCast]; omega)) only [hS.glob, wraps, plain, Int.ofNat_eq_natCast] at h2
      repeat (refine ⟨by first | (rw [hW]; show ordOk _ _ _ = true; kernel_rfl) | (first | trivial | omega | (simp (disch := omega) only [hS.glob, wraps, plain, Int.ofNat_eq_natCast]; first | done | omega | trivial | (simp; done) | (simp; omega) | (constructor <;> omega)) | (simp (disch := omega) only [hS.glob, wraps, plain, Int.ofNat_eq_natCast, Vx.toN]; omega)), ?_⟩)
      try simp only [hS.tidy]
      split <;> rename_i h3
      · conv => cbv
        simp (disch := first | omega | (simp only [hS.glob, wraps, plain, Int.ofNat_eq_natCast]; omega)) only [hS.glob, wraps, plain, Int.ofNat_eq_natCast] at h3
        simp [Vx.bnot, Vx.bband, Vx.ieq] at h3
        refine ⟨?_, trivial⟩
        congr 1
        cases R
        · rfl
        · have h9 := (hR.1 rfl).2 i (by omega)
          exact absurd h9 (by rintro ⟨u, v⟩; rcases h3 with h | h; exact h u; exact h v)
      · conv => cbv
        simp (disch := first | omega | (simp only [hS.glob, wraps, plain, Int.ofNat_eq_natCast]; omega)) only [hS.glob, wraps, plain, Int.ofNat_eq_natCast] at h3
        simp [Vx.bnot, Vx.bband, Vx.ieq] at h3
        rw [hVV]
        refine V.to (hback (i+1) ⟨by omega, fun j hj => ?_⟩ (by omega)) (by (repeat' first | exact trivial | rfl | (refine And.intro ?_ ?_) | (refine sti ?_; (first | rfl | omega | (simp (disch := omega) only [hS.glob, wraps, plain, Int.ofNat_eq_natCast]; first | done | rfl | omega | (simp; done) | (simp; omega)) | (simp (disch := omega) only [hS.glob, wraps, plain, Int.ofNat_eq_natCast, Vx.toN]; omega))) | (refine slq ?_ ?_ ?_ <;> (first | rfl | omega | (simp (disch := omega) only [hS.glob, wraps, plain, Int.ofNat_eq_natCast]; first | done | rfl | omega | (simp; done) | (simp; omega)) | (simp (disch := omega) only [hS.glob, wraps, plain, Int.ofNat_eq_natCast, Vx.toN]; omega))) | (refine ptq ?_ ?_ ?_ <;> (first | rfl | omega | (simp (disch := omega) only [hS.glob, wraps, plain, Int.ofNat_eq_natCast]; first | done | rfl | omega | (simp; done) | (simp; omega)) | (simp (disch := omega) only [hS.glob, wraps, plain, Int.ofNat_eq_natCast, Vx.toN]; omega))) | (refine blq ?_; (first | rfl | omega | (simp (disch := omega) only [hS.glob, wraps, plain, Int.ofNat_eq_natCast]; first | done | rfl | omega | (simp; done) | (simp; omega)) | (simp (disch := omega) only [hS.glob, wraps, plain, Int.ofNat_eq_natCast, Vx.toN]; omega))))) rfl (by (repeat' first | exact trivial | rfl | exact Nat.le_refl _ | exact (fun _ _ => rfl) | (refine And.intro ?_ ?_) | (simp only [hS.glob, plain]; first | done | omega))) (by rw [hC]; simp)
        rcases Nat.lt_succ_iff_lt_or_eq.1 hj with h | rfl
        · exact heq j h
        · exact h3
    · conv => cbv
      simp (disch := first | omega | (simp only [hS.glob, wraps, plain, Int.ofNat_eq_natCast]; omega)) only [hS.glob, wraps, plain, Int.ofNat_eq_natCast] at h2
      refine ⟨?_, trivial⟩
      congr 1
      symm
      rw [hR]
      exact ⟨hl, fun j hj => heq j (by omega)⟩
end Go.Proofs.Ytcoanfhjgmndcaa

/- Resolve. -/
namespace Go.Proofs.Ytcoanfhjgmndcaa
open Go Vx

noncomputable def stepR (came : Nat → Int) (side first : Int) (l : Nat → Int) (p : Nat × Nat) : Nat → Int :=
  open Classical in pairL came l p.1 p.2 (pairSd (decide (hasL l (p.1 + 1) (p.2 - (p.1 + 1)) side)) (decide (hasL l (p.1 + 1) (p.2 - (p.1 + 1)) (turnC side))) side (aheadL l first p.1))
noncomputable def resR (came : Nat → Int) (side first : Int) (l : Nat → Int) (ps : List (Nat × Nat)) : Nat → Int := ps.foldl (stepR came side first) l
def sideOf (level : Int) : Int := if level % 2 = 1 then 1 else 0
theorem f22_z (ln o e : Nat) (ho : o < e) (he : e < ln) (hl : ln ≤ 17592186044416) (l came : Nat → Int) (side first z y : Int) (hz : z = o) (hy : y = e) (l' : Nat → Int) (hl' : ∀ j, j < ln → l' j = stepR came side first l (o, e) j) : FSpec Try.prog 22 [.agg [.rows 1 ln (icol .i64 came), .sl 0 0 ln, .int .i64 side, .int .i64 first], .int .i64 z, .int .i64 y] [some ⟨32, 1, .arr ln (icol .i64 l)⟩] (fun r H' => r = .tup [] ∧ H' = [some ⟨32, 1, .arr ln (icol .i64 l')⟩]) := by
  subst hz hy
  exact f22_ok ln o e ho he hl l came side first _ _ (by simp) (by simp) l' hl'
def H13 (ln m : Nat) (came l a b : Nat → Int) (side first : Int) : Hp := [some ⟨32, 1, .arr ln (icol .i64 l)⟩, some ⟨59, 4, .lit [[.rows 1 ln (icol .i64 came), .sl 0 0 ln, .int .i64 side, .int .i64 first]]⟩, some ⟨41, 2, .arr m (icol2 a b)⟩]
theorem foldG (came : Nat → Int) (side first : Int) (l : Nat → Int) (ps : List (Nat × Nat)) : ∃ G : Nat → Nat → Int, G 0 = l ∧ (∀ i (h : i < ps.length), G (i + 1) = stepR came side first (G i) ps[i]) ∧ G ps.length = resR came side first l ps := by
  refine ⟨fun i => (ps.take i).foldl (stepR came side first) l, by simp, fun i h => ?_, by simp [resR]⟩
  simp only
  rw [List.take_succ_eq_append_getElem h, List.foldl_append]
  rfl
theorem pairsL_len (ln mn : Nat) (l kd id : Nat → Int) : (pairsL ln mn l kd id).length ≤ ln := by
  have h : (pairsL ln mn l kd id).length ≤ _ := List.length_filterMap_le _ _
  simpa using h
theorem pairAt {ln mn : Nat} {l kd id : Nat → Int} {ps : List (Nat × Nat)} (hps : ps = pairsL ln mn l kd id) (i : Nat) (hi : i < ps.length) (a b : Nat → Int) {m : Nat} (h : tab m (fun i => (a i, b i)) = ps.map castP) : ps[i].1 < ps[i].2 ∧ ps[i].2 < ln ∧ a i = (ps[i].1 : Nat) ∧ b i = (ps[i].2 : Nat) := by
  have hm : m = ps.length := by have := congrArg List.length h; simpa [tab] using this
  have h1 := tab_get m (fun i => (a i, b i)) i (by omega)
  rw [h, List.getElem?_map, List.getElem?_eq_getElem hi] at h1
  simp only [Option.map_some, castP, Option.some.injEq, Prod.mk.injEq] at h1
  have hin : ps[i] ∈ pairsL ln mn l kd id := by rw [← hps]; exact List.getElem_mem hi
  unfold pairsL at hin
  have hI := pinv mn l kd id (min mn ln)
  have hc := (canon_mem _ ln ps[i].1 ps[i].2).1 hin
  have hm2 := (part_mem hI.nodup (fun p hp => by have := (hI.out p hp).1; omega) ps[i].1 ps[i].2).2 hc.2
  have := hI.out _ hm2
  refine ⟨this.1, by omega, h1.1.symm, h1.2.symm⟩
theorem f13_ok1 (cn ln mn : Nat) (hc : cn ≤ 17592186044416) (hm : mn ≤ 8796093022208) (hl : ln ≤ 17592186044416) (came l kd id : Nat → Int) (level first side : Int) (hside : side = sideOf level) (bad : Bool) (hbad : bad = true ↔ cn ≠ ln ∨ level < 0 ∨ (first ≠ 0 ∧ first ≠ 1)) (ps : List (Nat × Nat)) (hps : ps = pairsL ln mn l kd id) (l' : Nat → Int) (hl' : l' = resR came side first l ps) :
    FSpec Try.prog 13 [.rows 1 cn (icol .i64 came), .rows 1 ln (icol .i64 l), .rows 2 mn (icol2 kd id), .int .i64 level, .int .i64 first] [] (fun r H' => (bad = true ∧ r = .tup [.nil .slice, .int .i64 1] ∧ H' = []) ∨ (bad = false ∧ r = .tup [.sl 0 0 ln, .int .i64 0] ∧ ∃ t, H' = some ⟨32, 1, .arr ln (icol .i64 l')⟩ :: t)) := by
  obtain ⟨Q, hQ⟩ : ∃ Q : AV → Hp → Prop, Q = (fun r H' => (bad = true ∧ r = .tup [.nil .slice, .int .i64 1] ∧ H' = []) ∨ (bad = false ∧ r = .tup [.sl 0 0 ln, .int .i64 0] ∧ ∃ t, H' = some ⟨32, 1, .arr ln (icol .i64 l')⟩ :: t)) := ⟨_, rfl⟩
  rw [← hQ]
  have hpair := pairAt hps
  refine FSpec.of (fn := Try.f13) Try.func13 rfl rfl (by simp) fun C hC => ?_
  obtain ⟨iadd, isub, imul, iquo, irem, iband, ibor, ibxor, ibandn, ishl, ishr, iconv, ieq, ine, ilt, ile, igt, ige, bbeq, bbne, bnot, bband, sseq, ssne, sscat, sssub, sslen, sssz, ssbyte, toN, ofN, addN, subN, eqN, ltB, leN, imx, imn, inb, leb, sslt, ltN, fit, ne0, ge0, ssfit, minN, inR, hS⟩ := names
  refine V.goF (by first | exact trivial | assumption) Try.func13 tl_ok mixed hS.ops [] 400 ?_
  intro VV VA W hVV hVA hW
  conv => cbv
  cases h1 : ine (ofN cn) (ofN ln)
  · conv => cbv
    simp (disch := first | omega | (simp only [hS.glob, wraps, plain, Int.ofNat_eq_natCast]; omega)) only [hS.glob, wraps, plain, Int.ofNat_eq_natCast] at h1
    obtain rfl : ln = cn := by omega
    cases h2 : ilt level 0
    · conv => cbv
      simp (disch := first | omega | (simp only [hS.glob, wraps, plain, Int.ofNat_eq_natCast]; omega)) only [hS.glob, wraps, plain, Int.ofNat_eq_natCast] at h2
      cases h3 : ine first 0
      · conv => cbv
        simp (disch := first | omega | (simp only [hS.glob, wraps, plain, Int.ofNat_eq_natCast]; omega)) only [hS.glob, wraps, plain, Int.ofNat_eq_natCast] at h3
        obtain hb : bad = false := by cases bad with | false => rfl | true => have := hbad.1 rfl; omega
        repeat (refine ⟨by first | (rw [hW]; show ordOk _ _ _ = true; kernel_rfl) | (first | trivial | omega | (simp (disch := omega) only [hS.glob, wraps, plain, Int.ofNat_eq_natCast]; first | done | omega | trivial | (simp; done) | (simp; omega) | (constructor <;> omega)) | (simp (disch := omega) only [hS.glob, wraps, plain, Int.ofNat_eq_natCast, Vx.toN]; omega)), ?_⟩)
        try simp only [hS.tidy]
        rw [hVV]
        clear hVV hVA VV VA hW W
        refine V.call rfl rfl rfl rfl rfl Try.func21 rfl (by decide) [] (by simp) (by simp) (by (first | rfl | ((conv => cbv); (repeat' apply And.intro) <;> first | rfl | trivial | (first | rfl | omega | (simp (disch := omega) only [hS.glob, wraps, plain, Int.ofNat_eq_natCast]; first | done | rfl | omega | (simp; done) | (simp; omega)) | (simp (disch := omega) only [hS.glob, wraps, plain, Int.ofNat_eq_natCast, Vx.toN]; omega))))) rfl (f21_ok ln l hl) ?_
        rintro r Hc ⟨rfl, rfl⟩
        refine V.goF (by first | exact trivial | assumption) Try.func13 tl_ok mixed hS.ops [] 400 ?_
        intro VV VA W hVV hVA hW
        conv => cbv
        repeat (refine ⟨by first | (rw [hW]; show ordOk _ _ _ = true; kernel_rfl) | (first | trivial | omega | (simp (disch := omega) only [hS.glob, wraps, plain, Int.ofNat_eq_natCast]; first | done | omega | trivial | (simp; done) | (simp; omega) | (constructor <;> omega)) | (simp (disch := omega) only [hS.glob, wraps, plain, Int.ofNat_eq_natCast, Vx.toN]; omega)), ?_⟩)
        try simp only [hS.tidy]
        cases h8 : ieq (irem level 2) 1
        · conv => cbv
          simp (disch := first | omega | (simp only [hS.glob, wraps, plain, Int.ofNat_eq_natCast]; omega)) only [hS.glob, wraps, plain, Int.ofNat_eq_natCast] at h8
          have e0 : (0 : Int) = side := by rw [hside, sideOf, if_neg h8]
          rw [hVV]
          clear hVV hVA VV VA hW W
          refine V.to (s' := [(12, .ptr 1 0 0), (41, .rows 1 ln (icol .i64 l)), (42, .rows 2 mn (icol2 kd id))]) (H' := [some ⟨32, 1, .arr ln (icol .i64 l)⟩, some ⟨59, 4, .lit [[.rows 1 ln (icol .i64 came), .sl 0 0 ln, .int .i64 side, .int .i64 first]]⟩]) ?_ (by (repeat' first | exact trivial | rfl | (refine And.intro ?_ ?_) | (refine sti ?_; (first | rfl | omega | (simp (disch := omega) only [hS.glob, wraps, plain, Int.ofNat_eq_natCast]; first | done | rfl | omega | (simp; done) | (simp; omega)) | (simp (disch := omega) only [hS.glob, wraps, plain, Int.ofNat_eq_natCast, Vx.toN]; omega))) | (refine slq ?_ ?_ ?_ <;> (first | rfl | omega | (simp (disch := omega) only [hS.glob, wraps, plain, Int.ofNat_eq_natCast]; first | done | rfl | omega | (simp; done) | (simp; omega)) | (simp (disch := omega) only [hS.glob, wraps, plain, Int.ofNat_eq_natCast, Vx.toN]; omega))) | (refine ptq ?_ ?_ ?_ <;> (first | rfl | omega | (simp (disch := omega) only [hS.glob, wraps, plain, Int.ofNat_eq_natCast]; first | done | rfl | omega | (simp; done) | (simp; omega)) | (simp (disch := omega) only [hS.glob, wraps, plain, Int.ofNat_eq_natCast, Vx.toN]; omega))) | (refine blq ?_; (first | rfl | omega | (simp (disch := omega) only [hS.glob, wraps, plain, Int.ofNat_eq_natCast]; first | done | rfl | omega | (simp; done) | (simp; omega)) | (simp (disch := omega) only [hS.glob, wraps, plain, Int.ofNat_eq_natCast, Vx.toN]; omega))))) rfl (by subst e0; exact ⟨⟨rfl, rfl, ⟨Nat.le_refl _, fun _ _ => rfl⟩, rfl⟩, ⟨rfl, rfl, rfl, rfl⟩, trivial⟩) (by rw [hC]; exact Nat.zero_le _)
          clear e0
          refine V.call rfl rfl rfl rfl rfl Try.func10 rfl (by decide) [] (by simp) (by simp) (by (first | rfl | ((conv => cbv); (repeat' apply And.intro) <;> first | rfl | trivial | (first | rfl | omega | (simp (disch := omega) only [hS.glob, wraps, plain, Int.ofNat_eq_natCast]; first | done | rfl | omega | (simp; done) | (simp; omega)) | (simp (disch := omega) only [hS.glob, wraps, plain, Int.ofNat_eq_natCast, Vx.toN]; omega))))) rfl (f10_ok ln mn hm hl l kd id) ?_
          rintro r Hc ⟨m, a, b, rfl, rfl, htab⟩
          refine V.goF (by first | exact trivial | assumption) Try.func13 tl_ok mixed hS.ops [] 400 ?_
          intro VV VA W hVV hVA hW
          conv => cbv
          rw [← hps] at htab
          obtain ⟨G, hG0, hGs, hGm⟩ := foldG came side first l ps
          have hml : m = ps.length := by have := congrArg List.length htab; simpa [tab] using this
          rw [hVV]
          clear hVV hVA VV VA hW W
          refine V.to (s' := [(45, .int .i64 (ofN 0)), (44, .int .i64 (ofN m)), (43, .sl 2 0 m), (12, .ptr 1 0 0)]) (H' := H13 ln m came (G 0) a b side first) ?_ (by (repeat' first | exact trivial | rfl | (refine And.intro ?_ ?_) | (refine sti ?_; (first | rfl | omega | (simp (disch := omega) only [hS.glob, wraps, plain, Int.ofNat_eq_natCast]; first | done | rfl | omega | (simp; done) | (simp; omega)) | (simp (disch := omega) only [hS.glob, wraps, plain, Int.ofNat_eq_natCast, Vx.toN]; omega))) | (refine slq ?_ ?_ ?_ <;> (first | rfl | omega | (simp (disch := omega) only [hS.glob, wraps, plain, Int.ofNat_eq_natCast]; first | done | rfl | omega | (simp; done) | (simp; omega)) | (simp (disch := omega) only [hS.glob, wraps, plain, Int.ofNat_eq_natCast, Vx.toN]; omega))) | (refine ptq ?_ ?_ ?_ <;> (first | rfl | omega | (simp (disch := omega) only [hS.glob, wraps, plain, Int.ofNat_eq_natCast]; first | done | rfl | omega | (simp; done) | (simp; omega)) | (simp (disch := omega) only [hS.glob, wraps, plain, Int.ofNat_eq_natCast, Vx.toN]; omega))) | (refine blq ?_; (first | rfl | omega | (simp (disch := omega) only [hS.glob, wraps, plain, Int.ofNat_eq_natCast]; first | done | rfl | omega | (simp; done) | (simp; omega)) | (simp (disch := omega) only [hS.glob, wraps, plain, Int.ofNat_eq_natCast, Vx.toN]; omega))))) rfl (by rw [hG0]; unfold H13; (repeat' first | exact trivial | rfl | exact Nat.le_refl _ | exact (fun _ _ => rfl) | (refine And.intro ?_ ?_) | (simp only [hS.glob, plain]; first | done | omega))) (by rw [hC]; exact Nat.zero_le _)
          refine V.loop (γ := Nat) (fun i => i ≤ m) (fun i => [(45, .int .i64 (ofN i)), (44, .int .i64 (ofN m)), (43, .sl 2 0 m), (12, .ptr 1 0 0)]) (fun i => H13 ln m came (G i) a b side first) (fun i => m - i) ?_ 0 (Nat.zero_le _)
          have hm3 : m ≤ 17592186044416 := by have := pairsL_len ln mn l kd id; rw [← hps] at this; omega
          rintro i hi hback
          refine V.goF (by first | exact trivial | assumption) Try.func13 tl_ok mixed hS.ops [] 400 ?_
          intro VV VA W hVV hVA hW
          conv => cbv
          cases h9 : ilt (ofN i) (ofN m)
          · conv => cbv
            simp (disch := first | omega | (simp only [hS.glob, wraps, plain, Int.ofNat_eq_natCast]; omega)) only [hS.glob, wraps, plain, Int.ofNat_eq_natCast] at h9
            rw [hQ, hl', ← hGm, ← hml, show i = m by omega]
            exact .inr ⟨hb, rfl, _, rfl⟩
          · conv => cbv
            simp (disch := first | omega | (simp only [hS.glob, wraps, plain, Int.ofNat_eq_natCast]; omega)) only [hS.glob, wraps, plain, Int.ofNat_eq_natCast] at h9
            repeat (refine ⟨by first | (rw [hW]; show ordOk _ _ _ = true; kernel_rfl) | (first | trivial | omega | (simp (disch := omega) only [hS.glob, wraps, plain, Int.ofNat_eq_natCast]; first | done | omega | trivial | (simp; done) | (simp; omega) | (constructor <;> omega)) | (simp (disch := omega) only [hS.glob, wraps, plain, Int.ofNat_eq_natCast, Vx.toN]; omega)), ?_⟩)
            simp only [hS.tidy]
            have hi2 : i < ps.length := by omega
            obtain ⟨q1, q2, q3, q4⟩ := hpair i hi2 a b htab
            rw [hVV]
            clear hVV hVA VV VA hW W
            refine V.call rfl rfl rfl rfl rfl Try.func22 rfl (by decide) [0] (by decide) (all_lt (by rfl)) (by (first | rfl | ((conv => cbv); (repeat' apply And.intro) <;> first | rfl | trivial | (first | rfl | omega | (simp (disch := omega) only [hS.glob, wraps, plain, Int.ofNat_eq_natCast]; first | done | rfl | omega | (simp; done) | (simp; omega)) | (simp (disch := omega) only [hS.glob, wraps, plain, Int.ofNat_eq_natCast, Vx.toN]; omega))))) (by rfl) (f22_z ln ps[i].1 ps[i].2 q1 q2 hl (G i) came side first (a i) (b i) q3 q4 (G (i + 1)) (fun j _ => by rw [hGs i hi2])) ?_
            rintro r Hc ⟨rfl, rfl⟩
            refine V.goF (by first | exact trivial | assumption) Try.func13 tl_ok mixed hS.ops [] 400 ?_
            intro VV VA W hVV hVA hW
            conv => cbv
            rw [hVV]
            clear hVV hVA VV VA hW W
            exact V.to (hback (i + 1) (by omega) (by omega)) (by (repeat' first | exact trivial | rfl | (refine And.intro ?_ ?_) | (refine sti ?_; (first | rfl | omega | (simp (disch := omega) only [hS.glob, wraps, plain, Int.ofNat_eq_natCast]; first | done | rfl | omega | (simp; done) | (simp; omega)) | (simp (disch := omega) only [hS.glob, wraps, plain, Int.ofNat_eq_natCast, Vx.toN]; omega))) | (refine slq ?_ ?_ ?_ <;> (first | rfl | omega | (simp (disch := omega) only [hS.glob, wraps, plain, Int.ofNat_eq_natCast]; first | done | rfl | omega | (simp; done) | (simp; omega)) | (simp (disch := omega) only [hS.glob, wraps, plain, Int.ofNat_eq_natCast, Vx.toN]; omega))) | (refine ptq ?_ ?_ ?_ <;> (first | rfl | omega | (simp (disch := omega) only [hS.glob, wraps, plain, Int.ofNat_eq_natCast]; first | done | rfl | omega | (simp; done) | (simp; omega)) | (simp (disch := omega) only [hS.glob, wraps, plain, Int.ofNat_eq_natCast, Vx.toN]; omega))) | (refine blq ?_; (first | rfl | omega | (simp (disch := omega) only [hS.glob, wraps, plain, Int.ofNat_eq_natCast]; first | done | rfl | omega | (simp; done) | (simp; omega)) | (simp (disch := omega) only [hS.glob, wraps, plain, Int.ofNat_eq_natCast, Vx.toN]; omega))))) rfl (by unfold H13; (repeat' first | exact trivial | rfl | exact Nat.le_refl _ | exact (fun _ _ => rfl) | (refine And.intro ?_ ?_) | (simp only [hS.glob, plain]; first | done | omega))) (by rw [hC]; exact Nat.zero_le _)
        · conv => cbv
          simp (disch := first | omega | (simp only [hS.glob, wraps, plain, Int.ofNat_eq_natCast]; omega)) only [hS.glob, wraps, plain, Int.ofNat_eq_natCast] at h8
          have e0 : (1 : Int) = side := by rw [hside, sideOf, if_pos h8]
          rw [hVV]
          clear hVV hVA VV VA hW W
          refine V.to (s' := [(12, .ptr 1 0 0), (41, .rows 1 ln (icol .i64 l)), (42, .rows 2 mn (icol2 kd id))]) (H' := [some ⟨32, 1, .arr ln (icol .i64 l)⟩, some ⟨59, 4, .lit [[.rows 1 ln (icol .i64 came), .sl 0 0 ln, .int .i64 side, .int .i64 first]]⟩]) ?_ (by (repeat' first | exact trivial | rfl | (refine And.intro ?_ ?_) | (refine sti ?_; (first | rfl | omega | (simp (disch := omega) only [hS.glob, wraps, plain, Int.ofNat_eq_natCast]; first | done | rfl | omega | (simp; done) | (simp; omega)) | (simp (disch := omega) only [hS.glob, wraps, plain, Int.ofNat_eq_natCast, Vx.toN]; omega))) | (refine slq ?_ ?_ ?_ <;> (first | rfl | omega | (simp (disch := omega) only [hS.glob, wraps, plain, Int.ofNat_eq_natCast]; first | done | rfl | omega | (simp; done) | (simp; omega)) | (simp (disch := omega) only [hS.glob, wraps, plain, Int.ofNat_eq_natCast, Vx.toN]; omega))) | (refine ptq ?_ ?_ ?_ <;> (first | rfl | omega | (simp (disch := omega) only [hS.glob, wraps, plain, Int.ofNat_eq_natCast]; first | done | rfl | omega | (simp; done) | (simp; omega)) | (simp (disch := omega) only [hS.glob, wraps, plain, Int.ofNat_eq_natCast, Vx.toN]; omega))) | (refine blq ?_; (first | rfl | omega | (simp (disch := omega) only [hS.glob, wraps, plain, Int.ofNat_eq_natCast]; first | done | rfl | omega | (simp; done) | (simp; omega)) | (simp (disch := omega) only [hS.glob, wraps, plain, Int.ofNat_eq_natCast, Vx.toN]; omega))))) rfl (by subst e0; exact ⟨⟨rfl, rfl, ⟨Nat.le_refl _, fun _ _ => rfl⟩, rfl⟩, ⟨rfl, rfl, rfl, rfl⟩, trivial⟩) (by rw [hC]; exact Nat.zero_le _)
          clear e0
          refine V.call rfl rfl rfl rfl rfl Try.func10 rfl (by decide) [] (by simp) (by simp) (by (first | rfl | ((conv => cbv); (repeat' apply And.intro) <;> first | rfl | trivial | (first | rfl | omega | (simp (disch := omega) only [hS.glob, wraps, plain, Int.ofNat_eq_natCast]; first | done | rfl | omega | (simp; done) | (simp; omega)) | (simp (disch := omega) only [hS.glob, wraps, plain, Int.ofNat_eq_natCast, Vx.toN]; omega))))) rfl (f10_ok ln mn hm hl l kd id) ?_
          rintro r Hc ⟨m, a, b, rfl, rfl, htab⟩
          refine V.goF (by first | exact trivial | assumption) Try.func13 tl_ok mixed hS.ops [] 400 ?_
          intro VV VA W hVV hVA hW
          conv => cbv
          rw [← hps] at htab
          obtain ⟨G, hG0, hGs, hGm⟩ := foldG came side first l ps
          have hml : m = ps.length := by have := congrArg List.length htab; simpa [tab] using this
          rw [hVV]
          clear hVV hVA VV VA hW W
          refine V.to (s' := [(45, .int .i64 (ofN 0)), (44, .int .i64 (ofN m)), (43, .sl 2 0 m), (12, .ptr 1 0 0)]) (H' := H13 ln m came (G 0) a b side first) ?_ (by (repeat' first | exact trivial | rfl | (refine And.intro ?_ ?_) | (refine sti ?_; (first | rfl | omega | (simp (disch := omega) only [hS.glob, wraps, plain, Int.ofNat_eq_natCast]; first | done | rfl | omega | (simp; done) | (simp; omega)) | (simp (disch := omega) only [hS.glob, wraps, plain, Int.ofNat_eq_natCast, Vx.toN]; omega))) | (refine slq ?_ ?_ ?_ <;> (first | rfl | omega | (simp (disch := omega) only [hS.glob, wraps, plain, Int.ofNat_eq_natCast]; first | done | rfl | omega | (simp; done) | (simp; omega)) | (simp (disch := omega) only [hS.glob, wraps, plain, Int.ofNat_eq_natCast, Vx.toN]; omega))) | (refine ptq ?_ ?_ ?_ <;> (first | rfl | omega | (simp (disch := omega) only [hS.glob, wraps, plain, Int.ofNat_eq_natCast]; first | done | rfl | omega | (simp; done) | (simp; omega)) | (simp (disch := omega) only [hS.glob, wraps, plain, Int.ofNat_eq_natCast, Vx.toN]; omega))) | (refine blq ?_; (first | rfl | omega | (simp (disch := omega) only [hS.glob, wraps, plain, Int.ofNat_eq_natCast]; first | done | rfl | omega | (simp; done) | (simp; omega)) | (simp (disch := omega) only [hS.glob, wraps, plain, Int.ofNat_eq_natCast, Vx.toN]; omega))))) rfl (by rw [hG0]; unfold H13; (repeat' first | exact trivial | rfl | exact Nat.le_refl _ | exact (fun _ _ => rfl) | (refine And.intro ?_ ?_) | (simp only [hS.glob, plain]; first | done | omega))) (by rw [hC]; exact Nat.zero_le _)
          refine V.loop (γ := Nat) (fun i => i ≤ m) (fun i => [(45, .int .i64 (ofN i)), (44, .int .i64 (ofN m)), (43, .sl 2 0 m), (12, .ptr 1 0 0)]) (fun i => H13 ln m came (G i) a b side first) (fun i => m - i) ?_ 0 (Nat.zero_le _)
          have hm3 : m ≤ 17592186044416 := by have := pairsL_len ln mn l kd id; rw [← hps] at this; omega
          rintro i hi hback
          refine V.goF (by first | exact trivial | assumption) Try.func13 tl_ok mixed hS.ops [] 400 ?_
          intro VV VA W hVV hVA hW
          conv => cbv
          cases h9 : ilt (ofN i) (ofN m)
          · conv => cbv
            simp (disch := first | omega | (simp only [hS.glob, wraps, plain, Int.ofNat_eq_natCast]; omega)) only [hS.glob, wraps, plain, Int.ofNat_eq_natCast] at h9
            rw [hQ, hl', ← hGm, ← hml, show i = m by omega]
            exact .inr ⟨hb, rfl, _, rfl⟩
          · conv => cbv
            simp (disch := first | omega | (simp only [hS.glob, wraps, plain, Int.ofNat_eq_natCast]; omega)) only [hS.glob, wraps, plain, Int.ofNat_eq_natCast] at h9
            repeat (refine ⟨by first | (rw [hW]; show ordOk _ _ _ = true; kernel_rfl) | (first | trivial | omega | (simp (disch := omega) only [hS.glob, wraps, plain, Int.ofNat_eq_natCast]; first | done | omega | trivial | (simp; done) | (simp; omega) | (constructor <;> omega)) | (simp (disch := omega) only [hS.glob, wraps, plain, Int.ofNat_eq_natCast, Vx.toN]; omega)), ?_⟩)
            simp only [hS.tidy]
            have hi2 : i < ps.length := by omega
            obtain ⟨q1, q2, q3, q4⟩ := hpair i hi2 a b htab
            rw [hVV]
            clear hVV hVA VV VA hW W
            refine V.call rfl rfl rfl rfl rfl Try.func22 rfl (by decide) [0] (by decide) (all_lt (by rfl)) (by (first | rfl | ((conv => cbv); (repeat' apply And.intro) <;> first | rfl | trivial | (first | rfl | omega | (simp (disch := omega) only [hS.glob, wraps, plain, Int.ofNat_eq_natCast]; first | done | rfl | omega | (simp; done) | (simp; omega)) | (simp (disch := omega) only [hS.glob, wraps, plain, Int.ofNat_eq_natCast, Vx.toN]; omega))))) (by rfl) (f22_z ln ps[i].1 ps[i].2 q1 q2 hl (G i) came side first (a i) (b i) q3 q4 (G (i + 1)) (fun j _ => by rw [hGs i hi2])) ?_
            rintro r Hc ⟨rfl, rfl⟩
            refine V.goF (by first | exact trivial | assumption) Try.func13 tl_ok mixed hS.ops [] 400 ?_
            intro VV VA W hVV hVA hW
            conv => cbv
            rw [hVV]
            clear hVV hVA VV VA hW W
            exact V.to (hback (i + 1) (by omega) (by omega)) (by (repeat' first | exact trivial | rfl | (refine And.intro ?_ ?_) | (refine sti ?_; (first | rfl | omega | (simp (disch := omega) only [hS.glob, wraps, plain, Int.ofNat_eq_natCast]; first | done | rfl | omega | (simp; done) | (simp; omega)) | (simp (disch := omega) only [hS.glob, wraps, plain, Int.ofNat_eq_natCast, Vx.toN]; omega))) | (refine slq ?_ ?_ ?_ <;> (first | rfl | omega | (simp (disch := omega) only [hS.glob, wraps, plain, Int.ofNat_eq_natCast]; first | done | rfl | omega | (simp; done) | (simp; omega)) | (simp (disch := omega) only [hS.glob, wraps, plain, Int.ofNat_eq_natCast, Vx.toN]; omega))) | (refine ptq ?_ ?_ ?_ <;> (first | rfl | omega | (simp (disch := omega) only [hS.glob, wraps, plain, Int.ofNat_eq_natCast]; first | done | rfl | omega | (simp; done) | (simp; omega)) | (simp (disch := omega) only [hS.glob, wraps, plain, Int.ofNat_eq_natCast, Vx.toN]; omega))) | (refine blq ?_; (first | rfl | omega | (simp (disch := omega) only [hS.glob, wraps, plain, Int.ofNat_eq_natCast]; first | done | rfl | omega | (simp; done) | (simp; omega)) | (simp (disch := omega) only [hS.glob, wraps, plain, Int.ofNat_eq_natCast, Vx.toN]; omega))))) rfl (by unfold H13; (repeat' first | exact trivial | rfl | exact Nat.le_refl _ | exact (fun _ _ => rfl) | (refine And.intro ?_ ?_) | (simp only [hS.glob, plain]; first | done | omega))) (by rw [hC]; exact Nat.zero_le _)
      · conv => cbv
        simp (disch := first | omega | (simp only [hS.glob, wraps, plain, Int.ofNat_eq_natCast]; omega)) only [hS.glob, wraps, plain, Int.ofNat_eq_natCast] at h3
        cases h4 : ine first 1
        · conv => cbv
          simp (disch := first | omega | (simp only [hS.glob, wraps, plain, Int.ofNat_eq_natCast]; omega)) only [hS.glob, wraps, plain, Int.ofNat_eq_natCast] at h4
          obtain hb : bad = false := by cases bad with | false => rfl | true => have := hbad.1 rfl; omega
          repeat (refine ⟨by first | (rw [hW]; show ordOk _ _ _ = true; kernel_rfl) | (first | trivial | omega | (simp (disch := omega) only [hS.glob, wraps, plain, Int.ofNat_eq_natCast]; first | done | omega | trivial | (simp; done) | (simp; omega) | (constructor <;> omega)) | (simp (disch := omega) only [hS.glob, wraps, plain, Int.ofNat_eq_natCast, Vx.toN]; omega)), ?_⟩)
          try simp only [hS.tidy]
          rw [hVV]
          clear hVV hVA VV VA hW W
          refine V.call rfl rfl rfl rfl rfl Try.func21 rfl (by decide) [] (by simp) (by simp) (by (first | rfl | ((conv => cbv); (repeat' apply And.intro) <;> first | rfl | trivial | (first | rfl | omega | (simp (disch := omega) only [hS.glob, wraps, plain, Int.ofNat_eq_natCast]; first | done | rfl | omega | (simp; done) | (simp; omega)) | (simp (disch := omega) only [hS.glob, wraps, plain, Int.ofNat_eq_natCast, Vx.toN]; omega))))) rfl (f21_ok ln l hl) ?_
          rintro r Hc ⟨rfl, rfl⟩
          refine V.goF (by first | exact trivial | assumption) Try.func13 tl_ok mixed hS.ops [] 400 ?_
          intro VV VA W hVV hVA hW
          conv => cbv
          repeat (refine ⟨by first | (rw [hW]; show ordOk _ _ _ = true; kernel_rfl) | (first | trivial | omega | (simp (disch := omega) only [hS.glob, wraps, plain, Int.ofNat_eq_natCast]; first | done | omega | trivial | (simp; done) | (simp; omega) | (constructor <;> omega)) | (simp (disch := omega) only [hS.glob, wraps, plain, Int.ofNat_eq_natCast, Vx.toN]; omega)), ?_⟩)
          try simp only [hS.tidy]
          cases h8 : ieq (irem level 2) 1
          · conv => cbv
            simp (disch := first | omega | (simp only [hS.glob, wraps, plain, Int.ofNat_eq_natCast]; omega)) only [hS.glob, wraps, plain, Int.ofNat_eq_natCast] at h8
            have e0 : (0 : Int) = side := by rw [hside, sideOf, if_neg h8]
            rw [hVV]
            clear hVV hVA VV VA hW W
            refine V.to (s' := [(12, .ptr 1 0 0), (41, .rows 1 ln (icol .i64 l)), (42, .rows 2 mn (icol2 kd id))]) (H' := [some ⟨32, 1, .arr ln (icol .i64 l)⟩, some ⟨59, 4, .lit [[.rows 1 ln (icol .i64 came), .sl 0 0 ln, .int .i64 side, .int .i64 first]]⟩]) ?_ (by (repeat' first | exact trivial | rfl | (refine And.intro ?_ ?_) | (refine sti ?_; (first | rfl | omega | (simp (disch := omega) only [hS.glob, wraps, plain, Int.ofNat_eq_natCast]; first | done | rfl | omega | (simp; done) | (simp; omega)) | (simp (disch := omega) only [hS.glob, wraps, plain, Int.ofNat_eq_natCast, Vx.toN]; omega))) | (refine slq ?_ ?_ ?_ <;> (first | rfl | omega | (simp (disch := omega) only [hS.glob, wraps, plain, Int.ofNat_eq_natCast]; first | done | rfl | omega | (simp; done) | (simp; omega)) | (simp (disch := omega) only [hS.glob, wraps, plain, Int.ofNat_eq_natCast, Vx.toN]; omega))) | (refine ptq ?_ ?_ ?_ <;> (first | rfl | omega | (simp (disch := omega) only [hS.glob, wraps, plain, Int.ofNat_eq_natCast]; first | done | rfl | omega | (simp; done) | (simp; omega)) | (simp (disch := omega) only [hS.glob, wraps, plain, Int.ofNat_eq_natCast, Vx.toN]; omega))) | (refine blq ?_; (first | rfl | omega | (simp (disch := omega) only [hS.glob, wraps, plain, Int.ofNat_eq_natCast]; first | done | rfl | omega | (simp; done) | (simp; omega)) | (simp (disch := omega) only [hS.glob, wraps, plain, Int.ofNat_eq_natCast, Vx.toN]; omega))))) rfl (by subst e0; exact ⟨⟨rfl, rfl, ⟨Nat.le_refl _, fun _ _ => rfl⟩, rfl⟩, ⟨rfl, rfl, rfl, rfl⟩, trivial⟩) (by rw [hC]; exact Nat.zero_le _)
            clear e0
            refine V.call rfl rfl rfl rfl rfl Try.func10 rfl (by decide) [] (by simp) (by simp) (by (first | rfl | ((conv => cbv); (repeat' apply And.intro) <;> first | rfl | trivial | (first | rfl | omega | (simp (disch := omega) only [hS.glob, wraps, plain, Int.ofNat_eq_natCast]; first | done | rfl | omega | (simp; done) | (simp; omega)) | (simp (disch := omega) only [hS.glob, wraps, plain, Int.ofNat_eq_natCast, Vx.toN]; omega))))) rfl (f10_ok ln mn hm hl l kd id) ?_
            rintro r Hc ⟨m, a, b, rfl, rfl, htab⟩
            refine V.goF (by first | exact trivial | assumption) Try.func13 tl_ok mixed hS.ops [] 400 ?_
            intro VV VA W hVV hVA hW
            conv => cbv
            rw [← hps] at htab
            obtain ⟨G, hG0, hGs, hGm⟩ := foldG came side first l ps
            have hml : m = ps.length := by have := congrArg List.length htab; simpa [tab] using this
            rw [hVV]
            clear hVV hVA VV VA hW W
            refine V.to (s' := [(45, .int .i64 (ofN 0)), (44, .int .i64 (ofN m)), (43, .sl 2 0 m), (12, .ptr 1 0 0)]) (H' := H13 ln m came (G 0) a b side first) ?_ (by (repeat' first | exact trivial | rfl | (refine And.intro ?_ ?_) | (refine sti ?_; (first | rfl | omega | (simp (disch := omega) only [hS.glob, wraps, plain, Int.ofNat_eq_natCast]; first | done | rfl | omega | (simp; done) | (simp; omega)) | (simp (disch := omega) only [hS.glob, wraps, plain, Int.ofNat_eq_natCast, Vx.toN]; omega))) | (refine slq ?_ ?_ ?_ <;> (first | rfl | omega | (simp (disch := omega) only [hS.glob, wraps, plain, Int.ofNat_eq_natCast]; first | done | rfl | omega | (simp; done) | (simp; omega)) | (simp (disch := omega) only [hS.glob, wraps, plain, Int.ofNat_eq_natCast, Vx.toN]; omega))) | (refine ptq ?_ ?_ ?_ <;> (first | rfl | omega | (simp (disch := omega) only [hS.glob, wraps, plain, Int.ofNat_eq_natCast]; first | done | rfl | omega | (simp; done) | (simp; omega)) | (simp (disch := omega) only [hS.glob, wraps, plain, Int.ofNat_eq_natCast, Vx.toN]; omega))) | (refine blq ?_; (first | rfl | omega | (simp (disch := omega) only [hS.glob, wraps, plain, Int.ofNat_eq_natCast]; first | done | rfl | omega | (simp; done) | (simp; omega)) | (simp (disch := omega) only [hS.glob, wraps, plain, Int.ofNat_eq_natCast, Vx.toN]; omega))))) rfl (by rw [hG0]; unfold H13; (repeat' first | exact trivial | rfl | exact Nat.le_refl _ | exact (fun _ _ => rfl) | (refine And.intro ?_ ?_) | (simp only [hS.glob, plain]; first | done | omega))) (by rw [hC]; exact Nat.zero_le _)
            refine V.loop (γ := Nat) (fun i => i ≤ m) (fun i => [(45, .int .i64 (ofN i)), (44, .int .i64 (ofN m)), (43, .sl 2 0 m), (12, .ptr 1 0 0)]) (fun i => H13 ln m came (G i) a b side first) (fun i => m - i) ?_ 0 (Nat.zero_le _)
            have hm3 : m ≤ 17592186044416 := by have := pairsL_len ln mn l kd id; rw [← hps] at this; omega
            rintro i hi hback
            refine V.goF (by first | exact trivial | assumption) Try.func13 tl_ok mixed hS.ops [] 400 ?_
            intro VV VA W hVV hVA hW
            conv => cbv
            cases h9 : ilt (ofN i) (ofN m)
            · conv => cbv
              simp (disch := first | omega | (simp only [hS.glob, wraps, plain, Int.ofNat_eq_natCast]; omega)) only [hS.glob, wraps, plain, Int.ofNat_eq_natCast] at h9
              rw [hQ, hl', ← hGm, ← hml, show i = m by omega]
              exact .inr ⟨hb, rfl, _, rfl⟩
            · conv => cbv
              simp (disch := first | omega | (simp only [hS.glob, wraps, plain, Int.ofNat_eq_natCast]; omega)) only [hS.glob, wraps, plain, Int.ofNat_eq_natCast] at h9
              repeat (refine ⟨by first | (rw [hW]; show ordOk _ _ _ = true; kernel_rfl) | (first | trivial | omega | (simp (disch := omega) only [hS.glob, wraps, plain, Int.ofNat_eq_natCast]; first | done | omega | trivial | (simp; done) | (simp; omega) | (constructor <;> omega)) | (simp (disch := omega) only [hS.glob, wraps, plain, Int.ofNat_eq_natCast, Vx.toN]; omega)), ?_⟩)
              simp only [hS.tidy]
              have hi2 : i < ps.length := by omega
              obtain ⟨q1, q2, q3, q4⟩ := hpair i hi2 a b htab
              rw [hVV]
              clear hVV hVA VV VA hW W
              refine V.call rfl rfl rfl rfl rfl Try.func22 rfl (by decide) [0] (by decide) (all_lt (by rfl)) (by (first | rfl | ((conv => cbv); (repeat' apply And.intro) <;> first | rfl | trivial | (first | rfl | omega | (simp (disch := omega) only [hS.glob, wraps, plain, Int.ofNat_eq_natCast]; first | done | rfl | omega | (simp; done) | (simp; omega)) | (simp (disch := omega) only [hS.glob, wraps, plain, Int.ofNat_eq_natCast, Vx.toN]; omega))))) (by rfl) (f22_z ln ps[i].1 ps[i].2 q1 q2 hl (G i) came side first (a i) (b i) q3 q4 (G (i + 1)) (fun j _ => by rw [hGs i hi2])) ?_
              rintro r Hc ⟨rfl, rfl⟩
              refine V.goF (by first | exact trivial | assumption) Try.func13 tl_ok mixed hS.ops [] 400 ?_
              intro VV VA W hVV hVA hW
              conv => cbv
              rw [hVV]
              clear hVV hVA VV VA hW W
              exact V.to (hback (i + 1) (by omega) (by omega)) (by (repeat' first | exact trivial | rfl | (refine And.intro ?_ ?_) | (refine sti ?_; (first | rfl | omega | (simp (disch := omega) only [hS.glob, wraps, plain, Int.ofNat_eq_natCast]; first | done | rfl | omega | (simp; done) | (simp; omega)) | (simp (disch := omega) only [hS.glob, wraps, plain, Int.ofNat_eq_natCast, Vx.toN]; omega))) | (refine slq ?_ ?_ ?_ <;> (first | rfl | omega | (simp (disch := omega) only [hS.glob, wraps, plain, Int.ofNat_eq_natCast]; first | done | rfl | omega | (simp; done) | (simp; omega)) | (simp (disch := omega) only [hS.glob, wraps, plain, Int.ofNat_eq_natCast, Vx.toN]; omega))) | (refine ptq ?_ ?_ ?_ <;> (first | rfl | omega | (simp (disch := omega) only [hS.glob, wraps, plain, Int.ofNat_eq_natCast]; first | done | rfl | omega | (simp; done) | (simp; omega)) | (simp (disch := omega) only [hS.glob, wraps, plain, Int.ofNat_eq_natCast, Vx.toN]; omega))) | (refine blq ?_; (first | rfl | omega | (simp (disch := omega) only [hS.glob, wraps, plain, Int.ofNat_eq_natCast]; first | done | rfl | omega | (simp; done) | (simp; omega)) | (simp (disch := omega) only [hS.glob, wraps, plain, Int.ofNat_eq_natCast, Vx.toN]; omega))))) rfl (by unfold H13; (repeat' first | exact trivial | rfl | exact Nat.le_refl _ | exact (fun _ _ => rfl) | (refine And.intro ?_ ?_) | (simp only [hS.glob, plain]; first | done | omega))) (by rw [hC]; exact Nat.zero_le _)
          · conv => cbv
            simp (disch := first | omega | (simp only [hS.glob, wraps, plain, Int.ofNat_eq_natCast]; omega)) only [hS.glob, wraps, plain, Int.ofNat_eq_natCast] at h8
            have e0 : (1 : Int) = side := by rw [hside, sideOf, if_pos h8]
            rw [hVV]
            clear hVV hVA VV VA hW W
            refine V.to (s' := [(12, .ptr 1 0 0), (41, .rows 1 ln (icol .i64 l)), (42, .rows 2 mn (icol2 kd id))]) (H' := [some ⟨32, 1, .arr ln (icol .i64 l)⟩, some ⟨59, 4, .lit [[.rows 1 ln (icol .i64 came), .sl 0 0 ln, .int .i64 side, .int .i64 first]]⟩]) ?_ (by (repeat' first | exact trivial | rfl | (refine And.intro ?_ ?_) | (refine sti ?_; (first | rfl | omega | (simp (disch := omega) only [hS.glob, wraps, plain, Int.ofNat_eq_natCast]; first | done | rfl | omega | (simp; done) | (simp; omega)) | (simp (disch := omega) only [hS.glob, wraps, plain, Int.ofNat_eq_natCast, Vx.toN]; omega))) | (refine slq ?_ ?_ ?_ <;> (first | rfl | omega | (simp (disch := omega) only [hS.glob, wraps, plain, Int.ofNat_eq_natCast]; first | done | rfl | omega | (simp; done) | (simp; omega)) | (simp (disch := omega) only [hS.glob, wraps, plain, Int.ofNat_eq_natCast, Vx.toN]; omega))) | (refine ptq ?_ ?_ ?_ <;> (first | rfl | omega | (simp (disch := omega) only [hS.glob, wraps, plain, Int.ofNat_eq_natCast]; first | done | rfl | omega | (simp; done) | (simp; omega)) | (simp (disch := omega) only [hS.glob, wraps, plain, Int.ofNat_eq_natCast, Vx.toN]; omega))) | (refine blq ?_; (first | rfl | omega | (simp (disch := omega) only [hS.glob, wraps, plain, Int.ofNat_eq_natCast]; first | done | rfl | omega | (simp; done) | (simp; omega)) | (simp (disch := omega) only [hS.glob, wraps, plain, Int.ofNat_eq_natCast, Vx.toN]; omega))))) rfl (by subst e0; exact ⟨⟨rfl, rfl, ⟨Nat.le_refl _, fun _ _ => rfl⟩, rfl⟩, ⟨rfl, rfl, rfl, rfl⟩, trivial⟩) (by rw [hC]; exact Nat.zero_le _)
            clear e0
            refine V.call rfl rfl rfl rfl rfl Try.func10 rfl (by decide) [] (by simp) (by simp) (by (first | rfl | ((conv => cbv); (repeat' apply And.intro) <;> first | rfl | trivial | (first | rfl | omega | (simp (disch := omega) only [hS.glob, wraps, plain, Int.ofNat_eq_natCast]; first | done | rfl | omega | (simp; done) | (simp; omega)) | (simp (disch := omega) only [hS.glob, wraps, plain, Int.ofNat_eq_natCast, Vx.toN]; omega))))) rfl (f10_ok ln mn hm hl l kd id) ?_
            rintro r Hc ⟨m, a, b, rfl, rfl, htab⟩
            refine V.goF (by first | exact trivial | assumption) Try.func13 tl_ok mixed hS.ops [] 400 ?_
            intro VV VA W hVV hVA hW
            conv => cbv
            rw [← hps] at htab
            obtain ⟨G, hG0, hGs, hGm⟩ := foldG came side first l ps
            have hml : m = ps.length := by have := congrArg List.length htab; simpa [tab] using this
            rw [hVV]
            clear hVV hVA VV VA hW W
            refine V.to (s' := [(45, .int .i64 (ofN 0)), (44, .int .i64 (ofN m)), (43, .sl 2 0 m), (12, .ptr 1 0 0)]) (H' := H13 ln m came (G 0) a b side first) ?_ (by (repeat' first | exact trivial | rfl | (refine And.intro ?_ ?_) | (refine sti ?_; (first | rfl | omega | (simp (disch := omega) only [hS.glob, wraps, plain, Int.ofNat_eq_natCast]; first | done | rfl | omega | (simp; done) | (simp; omega)) | (simp (disch := omega) only [hS.glob, wraps, plain, Int.ofNat_eq_natCast, Vx.toN]; omega))) | (refine slq ?_ ?_ ?_ <;> (first | rfl | omega | (simp (disch := omega) only [hS.glob, wraps, plain, Int.ofNat_eq_natCast]; first | done | rfl | omega | (simp; done) | (simp; omega)) | (simp (disch := omega) only [hS.glob, wraps, plain, Int.ofNat_eq_natCast, Vx.toN]; omega))) | (refine ptq ?_ ?_ ?_ <;> (first | rfl | omega | (simp (disch := omega) only [hS.glob, wraps, plain, Int.ofNat_eq_natCast]; first | done | rfl | omega | (simp; done) | (simp; omega)) | (simp (disch := omega) only [hS.glob, wraps, plain, Int.ofNat_eq_natCast, Vx.toN]; omega))) | (refine blq ?_; (first | rfl | omega | (simp (disch := omega) only [hS.glob, wraps, plain, Int.ofNat_eq_natCast]; first | done | rfl | omega | (simp; done) | (simp; omega)) | (simp (disch := omega) only [hS.glob, wraps, plain, Int.ofNat_eq_natCast, Vx.toN]; omega))))) rfl (by rw [hG0]; unfold H13; (repeat' first | exact trivial | rfl | exact Nat.le_refl _ | exact (fun _ _ => rfl) | (refine And.intro ?_ ?_) | (simp only [hS.glob, plain]; first | done | omega))) (by rw [hC]; exact Nat.zero_le _)
            refine V.loop (γ := Nat) (fun i => i ≤ m) (fun i => [(45, .int .i64 (ofN i)), (44, .int .i64 (ofN m)), (43, .sl 2 0 m), (12, .ptr 1 0 0)]) (fun i => H13 ln m came (G i) a b side first) (fun i => m - i) ?_ 0 (Nat.zero_le _)
            have hm3 : m ≤ 17592186044416 := by have := pairsL_len ln mn l kd id; rw [← hps] at this; omega
            rintro i hi hback
            refine V.goF (by first | exact trivial | assumption) Try.func13 tl_ok mixed hS.ops [] 400 ?_
            intro VV VA W hVV hVA hW
            conv => cbv
            cases h9 : ilt (ofN i) (ofN m)
            · conv => cbv
              simp (disch := first | omega | (simp only [hS.glob, wraps, plain, Int.ofNat_eq_natCast]; omega)) only [hS.glob, wraps, plain, Int.ofNat_eq_natCast] at h9
              rw [hQ, hl', ← hGm, ← hml, show i = m by omega]
              exact .inr ⟨hb, rfl, _, rfl⟩
            · conv => cbv
              simp (disch := first | omega | (simp only [hS.glob, wraps, plain, Int.ofNat_eq_natCast]; omega)) only [hS.glob, wraps, plain, Int.ofNat_eq_natCast] at h9
              repeat (refine ⟨by first | (rw [hW]; show ordOk _ _ _ = true; kernel_rfl) | (first | trivial | omega | (simp (disch := omega) only [hS.glob, wraps, plain, Int.ofNat_eq_natCast]; first | done | omega | trivial | (simp; done) | (simp; omega) | (constructor <;> omega)) | (simp (disch := omega) only [hS.glob, wraps, plain, Int.ofNat_eq_natCast, Vx.toN]; omega)), ?_⟩)
              simp only [hS.tidy]
              have hi2 : i < ps.length := by omega
              obtain ⟨q1, q2, q3, q4⟩ := hpair i hi2 a b htab
              rw [hVV]
              clear hVV hVA VV VA hW W
              refine V.call rfl rfl rfl rfl rfl Try.func22 rfl (by decide) [0] (by decide) (all_lt (by rfl)) (by (first | rfl | ((conv => cbv); (repeat' apply And.intro) <;> first | rfl | trivial | (first | rfl | omega | (simp (disch := omega) only [hS.glob, wraps, plain, Int.ofNat_eq_natCast]; first | done | rfl | omega | (simp; done) | (simp; omega)) | (simp (disch := omega) only [hS.glob, wraps, plain, Int.ofNat_eq_natCast, Vx.toN]; omega))))) (by rfl) (f22_z ln ps[i].1 ps[i].2 q1 q2 hl (G i) came side first (a i) (b i) q3 q4 (G (i + 1)) (fun j _ => by rw [hGs i hi2])) ?_
              rintro r Hc ⟨rfl, rfl⟩
              refine V.goF (by first | exact trivial | assumption) Try.func13 tl_ok mixed hS.ops [] 400 ?_
              intro VV VA W hVV hVA hW
              conv => cbv
              rw [hVV]
              clear hVV hVA VV VA hW W
              exact V.to (hback (i + 1) (by omega) (by omega)) (by (repeat' first | exact trivial | rfl | (refine And.intro ?_ ?_) | (refine sti ?_; (first | rfl | omega | (simp (disch := omega) only [hS.glob, wraps, plain, Int.ofNat_eq_natCast]; first | done | rfl | omega | (simp; done) | (simp; omega)) | (simp (disch := omega) only [hS.glob, wraps, plain, Int.ofNat_eq_natCast, Vx.toN]; omega))) | (refine slq ?_ ?_ ?_ <;> (first | rfl | omega | (simp (disch := omega) only [hS.glob, wraps, plain, Int.ofNat_eq_natCast]; first | done | rfl | omega | (simp; done) | (simp; omega)) | (simp (disch := omega) only [hS.glob, wraps, plain, Int.ofNat_eq_natCast, Vx.toN]; omega))) | (refine ptq ?_ ?_ ?_ <;> (first | rfl | omega | (simp (disch := omega) only [hS.glob, wraps, plain, Int.ofNat_eq_natCast]; first | done | rfl | omega | (simp; done) | (simp; omega)) | (simp (disch := omega) only [hS.glob, wraps, plain, Int.ofNat_eq_natCast, Vx.toN]; omega))) | (refine blq ?_; (first | rfl | omega | (simp (disch := omega) only [hS.glob, wraps, plain, Int.ofNat_eq_natCast]; first | done | rfl | omega | (simp; done) | (simp; omega)) | (simp (disch := omega) only [hS.glob, wraps, plain, Int.ofNat_eq_natCast, Vx.toN]; omega))))) rfl (by unfold H13; (repeat' first | exact trivial | rfl | exact Nat.le_refl _ | exact (fun _ _ => rfl) | (refine And.intro ?_ ?_) | (simp only [hS.glob, plain]; first | done | omega))) (by rw [hC]; exact Nat.zero_le _)
        · conv => cbv
          simp (disch := first | omega | (simp only [hS.glob, wraps, plain, Int.ofNat_eq_natCast]; omega)) only [hS.glob, wraps, plain, Int.ofNat_eq_natCast] at h4
          rw [hQ]
          exact .inl ⟨hbad.2 (.inr (.inr ⟨h3, h4⟩)), rfl, rfl⟩
    · conv => cbv
      simp (disch := first | omega | (simp only [hS.glob, wraps, plain, Int.ofNat_eq_natCast]; omega)) only [hS.glob, wraps, plain, Int.ofNat_eq_natCast] at h2
      rw [hQ]
      exact .inl ⟨hbad.2 (.inr (.inl h2)), rfl, rfl⟩
  · conv => cbv
    simp (disch := first | omega | (simp only [hS.glob, wraps, plain, Int.ofNat_eq_natCast]; omega)) only [hS.glob, wraps, plain, Int.ofNat_eq_natCast] at h1
    rw [hQ]
    exact .inl ⟨hbad.2 (.inl (by omega)), rfl, rfl⟩
theorem f13_ok (cn ln mn : Nat) (hc : cn ≤ 17592186044416) (hm : mn ≤ 8796093022208) (hl : ln ≤ 17592186044416) (came l kd id : Nat → Int) (level first : Int) (bad : Bool) (hbad : bad = true ↔ cn ≠ ln ∨ level < 0 ∨ (first ≠ 0 ∧ first ≠ 1)) (l' : Nat → Int) (hl' : l' = resR came (sideOf level) first l (pairsL ln mn l kd id)) :
    FSpec Try.prog 13 [.rows 1 cn (icol .i64 came), .rows 1 ln (icol .i64 l), .rows 2 mn (icol2 kd id), .int .i64 level, .int .i64 first] [] (fun r H' => (bad = true ∧ r = .tup [.nil .slice, .int .i64 1] ∧ H' = []) ∨ (bad = false ∧ r = .tup [.sl 0 0 ln, .int .i64 0] ∧ H' = [some ⟨32, 1, .arr ln (icol .i64 l')⟩])) := by
  refine (f13_ok1 cn ln mn hc hm hl came l kd id level first _ rfl bad hbad _ rfl l' hl').weaken ?_
  rintro r H' (⟨hb, rfl, rfl⟩ | ⟨hb, rfl, t, rfl⟩)
  · exact ⟨[], trivial, rfl, Nat.le_refl _, .inl ⟨hb, rfl, rfl⟩⟩
  · exact ⟨[some ⟨32, 1, .arr ln (icol .i64 l')⟩], ⟨⟨rfl, rfl, ⟨Nat.le_refl _, fun _ _ => rfl⟩, rfl⟩, by cases t with | nil => trivial | cons x t => cases x <;> trivial⟩, rfl, by simp, .inr ⟨hb, rfl, rfl⟩⟩
end Go.Proofs.Ytcoanfhjgmndcaa
