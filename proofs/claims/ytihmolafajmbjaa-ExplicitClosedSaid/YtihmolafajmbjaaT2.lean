/- Contracts of functions by an evaluator of the model: its part T2. -/
import Derived.Test.YtihmolafajmbjaaT1
import Derived.WalkKit
import Derived.MapKept
import Derived.Test.YtihmolafajmbjaaV2
set_option linter.all false
/- The machine: PDF, and B. -/
namespace Go.Proofs.Ytihmolafajmbjaa
open Go Vx

theorem f41_ok (ln : Nat) (l : Nat → Int) (n : Nat) (e : Nat → Int) (base : Int) (k : Nat) (lv ov : Nat → Int) (is : Nat → Bool) (iso emb opn : Int) (q : Nat) (xs cs : Nat → Int) (hk : 0 < k) (hk2 : k ≤ 1000000) (hlv : 0 ≤ lv (k - 1) ∧ lv (k - 1) ≤ 1000) (hq : q ≤ 1000000) (hiso : 0 ≤ iso ∧ iso ≤ 1000000) (hemb : 0 ≤ emb ∧ emb ≤ 1000000) (hopn : 0 ≤ opn ∧ opn ≤ 1000000) (i : Nat) (hi : i < ln) (z : Int) (hz : z = i) : FSpec Try.prog 41 [.ptr 0 0 0, .int .i64 z] (mheap ln l n e base k lv ov is iso emb opn q xs cs) (NX ln l n e base (popM (l i) (absM k lv ov is iso emb opn q xs cs))) := by
  obtain ⟨xs', x1, x2⟩ := snocF xs q (-1)
  obtain ⟨cs', c1, c2⟩ := snocF cs q (l i)
  have tt := topM_abs lv ov is iso emb opn q xs cs hk
  have ht := fun LV OV IS a b c => f44_ok ln l n e base k lv ov is iso emb opn q xs cs hk LV OV IS a b c
  generalize hLV : lv (k - 1) = LV at tt ht hlv
  generalize hOV : ov (k - 1) = OV at tt ht
  generalize hIS : is (k - 1) = IS at tt ht
  have ht := ht LV OV IS rfl rfl rfl
  have r1 := f43_ok ln l n e base k lv ov is iso emb opn q xs cs hq i hi z hz (q + 1) rfl xs' cs' x1 x2 c1 c2
  have r2 := f43_ok ln l n e base k lv ov is iso (emb - 1) opn q xs cs hq i hi z hz (q + 1) rfl xs' cs' x1 x2 c1 c2
  have r3 := f43_ok ln l n e base (k - 1) lv ov is iso emb opn q xs cs hq i hi z hz (q + 1) rfl xs' cs' x1 x2 c1 c2
  have dd : ∀ m : Ms, m.xs = tab q xs → m.cs = tab q cs → removedM (l i) m = { m with xs := tab (q + 1) xs', cs := tab (q + 1) cs' } := by
    intro m h1 h2
    simp only [removedM, putM, h1, h2]
    rw [tab_snoc rfl x1 x2, tab_snoc rfl c1 c2]
  have d1 : 0 < iso ∨ (iso ≤ 0 ∧ emb ≤ 0 ∧ (k ≤ 1 ∨ IS = true)) → absM k lv ov is iso emb opn (q + 1) xs' cs' = popM (l i) (absM k lv ov is iso emb opn q xs cs) := by
    intro h
    unfold popM
    rw [tt]
    rcases h with h | ⟨h, h2, h3⟩
    · rw [if_pos (by simpa [absM] using h), dd _ rfl rfl]; rfl
    · rw [if_neg (by simpa [absM] using h), if_neg (by simpa [absM] using h2), if_neg (by rcases h3 with h3 | h3 <;> simp [absM, tab_len, h3]; omega), dd _ rfl rfl]; rfl
  have d2 : iso ≤ 0 → 0 < emb → absM k lv ov is iso (emb - 1) opn (q + 1) xs' cs' = popM (l i) (absM k lv ov is iso emb opn q xs cs) := by
    intro h h2
    unfold popM
    rw [if_neg (by simpa [absM] using h), if_pos (by simpa [absM] using h2), dd _ rfl rfl]; rfl
  have d3 : iso ≤ 0 → emb ≤ 0 → 1 < k → IS = false → absM (k - 1) lv ov is iso emb opn (q + 1) xs' cs' = popM (l i) (absM k lv ov is iso emb opn q xs cs) := by
    intro h h2 h3 h4
    unfold popM
    rw [tt, if_neg (by simpa [absM] using h), if_neg (by simpa [absM] using h2), if_pos (by simpa [absM, tab_len, h4] using h3), dd _ rfl rfl]
    simp only [absM, tab_pop]
  generalize popM (l i) (absM k lv ov is iso emb opn q xs cs) = M at d1 d2 d3 ⊢
  obtain ⟨k1, hk1⟩ : ∃ k1, k1 = k - 1 := ⟨_, rfl⟩
  obtain ⟨q1, hq1⟩ : ∃ q1, q1 = q + 1 := ⟨_, rfl⟩
  obtain ⟨e1, he1⟩ : ∃ e1, e1 = emb - 1 := ⟨_, rfl⟩
  rw [← hq1] at d1 r1
  rw [← hq1, ← he1] at d2 r2
  rw [← hq1, ← hk1] at d3 r3
  clear tt dd
  refine FSpec.of (fn := Try.f41) Try.func41 rfl rfl (by simp) fun C hC => ?_
  obtain ⟨iadd, isub, imul, iquo, irem, iband, ibor, ibxor, ibandn, ishl, ishr, iconv, ieq, ine, ilt, ile, igt, ige, bbeq, bbne, bnot, bband, sseq, ssne, sscat, sssub, sslen, sssz, ssbyte, toN, ofN, addN, subN, eqN, ltB, leN, imx, imn, inb, leb, sslt, ltN, fit, ne0, ge0, ssfit, minN, inR, hS⟩ := names
  refine V.objLen 1 (by rfl) fun hk3 => ?_
  replace hk3 : k ≤ maxLen := hk3
  simp (disch := first | omega | (simp only [hS.glob, wraps, plain, Int.ofNat_eq_natCast]; omega)) only [hS.glob, wraps, plain, Int.ofNat_eq_natCast] at hk3
  obtain rfl : z = ofN i := by simp (disch := first | omega | (simp only [hS.glob, wraps, plain, Int.ofNat_eq_natCast]; omega)) only [hS.glob, wraps, plain, Int.ofNat_eq_natCast]; exact hz
  refine V.go Try.func41 tl_ok mixed hS.ops [] 400 ?_
  intro VV VA W hVV hVA hW
  conv => cbv
  cases h1 : igt iso 0
  · conv => cbv
    simp (disch := first | omega | (simp only [hS.glob, wraps, plain, Int.ofNat_eq_natCast]; omega)) only [hS.glob, wraps, plain, Int.ofNat_eq_natCast] at h1
    cases h2 : igt emb 0
    · conv => cbv
      simp (disch := first | omega | (simp only [hS.glob, wraps, plain, Int.ofNat_eq_natCast]; omega)) only [hS.glob, wraps, plain, Int.ofNat_eq_natCast] at h2
      cases h3 : igt (ofN k) 1
      · conv => cbv
        simp (disch := first | omega | (simp only [hS.glob, wraps, plain, Int.ofNat_eq_natCast]; omega)) only [hS.glob, wraps, plain, Int.ofNat_eq_natCast] at h3
        rw [hVV]
        refine V.call rfl rfl rfl rfl rfl Try.func43 rfl (by decide) [0, 1, 2, 3] (by decide) (all_lt (by rfl)) (by (first | rfl | ((conv => cbv); (repeat' apply And.intro) <;> first | rfl | trivial | (first | rfl | omega | (simp (disch := omega) only [hS.glob, wraps, plain, Int.ofNat_eq_natCast]; first | done | rfl | omega | (simp; done) | (simp; omega)) | (simp (disch := omega) only [hS.glob, wraps, plain, Int.ofNat_eq_natCast, Vx.toN]; omega))))) (by rfl) r1 ?_
        rintro r Hc ⟨rfl, rfl⟩
        clear hVV hVA VV VA hW W
        refine V.go Try.func41 tl_ok mixed hS.ops [] 400 ?_
        intro VV VA W hVV hVA hW
        conv => cbv
        exact ⟨rfl, k, lv, ov, is, iso, emb, opn, q1, xs', cs', rfl, d1 (.inr ⟨h1, h2, .inl (by omega)⟩)⟩
      · conv => cbv
        simp (disch := first | omega | (simp only [hS.glob, wraps, plain, Int.ofNat_eq_natCast]; omega)) only [hS.glob, wraps, plain, Int.ofNat_eq_natCast] at h3
        rw [hVV]
        refine V.call rfl rfl rfl rfl rfl Try.func44 rfl (by decide) [0, 1, 2, 3] (by decide) (all_lt (by rfl)) (by (first | rfl | ((conv => cbv); (repeat' apply And.intro) <;> first | rfl | trivial | (first | rfl | omega | (simp (disch := omega) only [hS.glob, wraps, plain, Int.ofNat_eq_natCast]; first | done | rfl | omega | (simp; done) | (simp; omega)) | (simp (disch := omega) only [hS.glob, wraps, plain, Int.ofNat_eq_natCast, Vx.toN]; omega))))) (by rfl) ht ?_
        rintro r Hc ⟨rfl, rfl⟩
        clear hVV hVA VV VA hW W
        refine V.go Try.func41 tl_ok mixed hS.ops [] 400 ?_
        intro VV VA W hVV hVA hW
        conv => cbv
        cases IS
        · conv => cbv
          repeat (refine ⟨by first | (rw [hW]; show ordOk _ _ _ = true; kernel_rfl) | (first | trivial | omega | (simp (disch := omega) only [hS.glob, wraps, plain, Int.ofNat_eq_natCast]; first | done | omega | trivial | (simp; done) | (simp; omega) | (constructor <;> omega)) | (simp (disch := omega) only [hS.glob, wraps, plain, Int.ofNat_eq_natCast, Vx.toN]; omega)), ?_⟩)
          have ek : toN (isub .i64 (ofN k) 1) = k1 := by simp (disch := first | omega | (simp only [hS.glob, wraps, plain, Int.ofNat_eq_natCast]; omega)) only [hS.glob, wraps, plain, Int.ofNat_eq_natCast]; omega
          simp only [ek]
          rw [hVV]
          refine V.to (s' := [(50, .ptr 0 0 0), (51, .int .i64 (ofN i))]) (H' := mheap ln l n e base k1 lv ov is iso emb opn q xs cs) ?_ (by (repeat' first | exact trivial | rfl | (refine And.intro ?_ ?_) | (refine sti ?_; (first | rfl | omega | (simp (disch := omega) only [hS.glob, wraps, plain, Int.ofNat_eq_natCast]; first | done | rfl | omega | (simp; done) | (simp; omega)) | (simp (disch := omega) only [hS.glob, wraps, plain, Int.ofNat_eq_natCast, Vx.toN]; omega))) | (refine slq ?_ ?_ ?_ <;> (first | rfl | omega | (simp (disch := omega) only [hS.glob, wraps, plain, Int.ofNat_eq_natCast]; first | done | rfl | omega | (simp; done) | (simp; omega)) | (simp (disch := omega) only [hS.glob, wraps, plain, Int.ofNat_eq_natCast, Vx.toN]; omega))) | (refine ptq ?_ ?_ ?_ <;> (first | rfl | omega | (simp (disch := omega) only [hS.glob, wraps, plain, Int.ofNat_eq_natCast]; first | done | rfl | omega | (simp; done) | (simp; omega)) | (simp (disch := omega) only [hS.glob, wraps, plain, Int.ofNat_eq_natCast, Vx.toN]; omega))) | (refine blq ?_; (first | rfl | omega | (simp (disch := omega) only [hS.glob, wraps, plain, Int.ofNat_eq_natCast]; first | done | rfl | omega | (simp; done) | (simp; omega)) | (simp (disch := omega) only [hS.glob, wraps, plain, Int.ofNat_eq_natCast, Vx.toN]; omega))))) rfl ⟨⟨rfl, rfl, rfl, rfl⟩, ⟨rfl, rfl, ⟨by omega, fun _ _ => rfl⟩, rfl⟩, ⟨rfl, rfl, ⟨Nat.le_refl _, fun _ _ => rfl⟩, rfl⟩, ⟨rfl, rfl, ⟨Nat.le_refl _, fun _ _ => rfl⟩, rfl⟩, trivial⟩ (by rw [hC]; exact Nat.le_refl 4)
          refine V.call rfl rfl rfl rfl rfl Try.func43 rfl (by decide) [0, 1, 2, 3] (by decide) (all_lt (by rfl)) (by (first | rfl | ((conv => cbv); (repeat' apply And.intro) <;> first | rfl | trivial | (first | rfl | omega | (simp (disch := omega) only [hS.glob, wraps, plain, Int.ofNat_eq_natCast]; first | done | rfl | omega | (simp; done) | (simp; omega)) | (simp (disch := omega) only [hS.glob, wraps, plain, Int.ofNat_eq_natCast, Vx.toN]; omega))))) (by rfl) r3 ?_
          rintro r Hc ⟨rfl, rfl⟩
          clear hVV hVA VV VA hW W
          refine V.go Try.func41 tl_ok mixed hS.ops [] 400 ?_
          intro VV VA W hVV hVA hW
          conv => cbv
          exact ⟨rfl, k1, lv, ov, is, iso, emb, opn, q1, xs', cs', rfl, d3 h1 h2 (by omega) rfl⟩
        · conv => cbv
          rw [hVV]
          refine V.call rfl rfl rfl rfl rfl Try.func43 rfl (by decide) [0, 1, 2, 3] (by decide) (all_lt (by rfl)) (by (first | rfl | ((conv => cbv); (repeat' apply And.intro) <;> first | rfl | trivial | (first | rfl | omega | (simp (disch := omega) only [hS.glob, wraps, plain, Int.ofNat_eq_natCast]; first | done | rfl | omega | (simp; done) | (simp; omega)) | (simp (disch := omega) only [hS.glob, wraps, plain, Int.ofNat_eq_natCast, Vx.toN]; omega))))) (by rfl) r1 ?_
          rintro r Hc ⟨rfl, rfl⟩
          clear hVV hVA VV VA hW W
          refine V.go Try.func41 tl_ok mixed hS.ops [] 400 ?_
          intro VV VA W hVV hVA hW
          conv => cbv
          exact ⟨rfl, k, lv, ov, is, iso, emb, opn, q1, xs', cs', rfl, d1 (.inr ⟨h1, h2, .inr rfl⟩)⟩
    · conv => cbv
      simp (disch := first | omega | (simp only [hS.glob, wraps, plain, Int.ofNat_eq_natCast]; omega)) only [hS.glob, wraps, plain, Int.ofNat_eq_natCast] at h2
      have ee : isub .i64 emb 1 = e1 := by simp (disch := first | omega | (simp only [hS.glob, wraps, plain, Int.ofNat_eq_natCast]; omega)) only [hS.glob, wraps, plain, Int.ofNat_eq_natCast]; omega
      rw [ee, hVV]
      refine V.call rfl rfl rfl rfl rfl Try.func43 rfl (by decide) [0, 1, 2, 3] (by decide) (all_lt (by rfl)) (by (first | rfl | ((conv => cbv); (repeat' apply And.intro) <;> first | rfl | trivial | (first | rfl | omega | (simp (disch := omega) only [hS.glob, wraps, plain, Int.ofNat_eq_natCast]; first | done | rfl | omega | (simp; done) | (simp; omega)) | (simp (disch := omega) only [hS.glob, wraps, plain, Int.ofNat_eq_natCast, Vx.toN]; omega))))) (by rfl) r2 ?_
      rintro r Hc ⟨rfl, rfl⟩
      clear hVV hVA VV VA hW W
      refine V.go Try.func41 tl_ok mixed hS.ops [] 400 ?_
      intro VV VA W hVV hVA hW
      conv => cbv
      exact ⟨rfl, k, lv, ov, is, iso, e1, opn, q1, xs', cs', rfl, d2 h1 h2⟩
  · conv => cbv
    simp (disch := first | omega | (simp only [hS.glob, wraps, plain, Int.ofNat_eq_natCast]; omega)) only [hS.glob, wraps, plain, Int.ofNat_eq_natCast] at h1
    rw [hVV]
    refine V.call rfl rfl rfl rfl rfl Try.func43 rfl (by decide) [0, 1, 2, 3] (by decide) (all_lt (by rfl)) (by (first | rfl | ((conv => cbv); (repeat' apply And.intro) <;> first | rfl | trivial | (first | rfl | omega | (simp (disch := omega) only [hS.glob, wraps, plain, Int.ofNat_eq_natCast]; first | done | rfl | omega | (simp; done) | (simp; omega)) | (simp (disch := omega) only [hS.glob, wraps, plain, Int.ofNat_eq_natCast, Vx.toN]; omega))))) (by rfl) r1 ?_
    rintro r Hc ⟨rfl, rfl⟩
    clear hVV hVA VV VA hW W
    refine V.go Try.func41 tl_ok mixed hS.ops [] 400 ?_
    intro VV VA W hVV hVA hW
    conv => cbv
    exact ⟨rfl, k, lv, ov, is, iso, emb, opn, q1, xs', cs', rfl, d1 (.inl h1)⟩
end Go.Proofs.Ytihmolafajmbjaa

/- The machine: B. -/
namespace Go.Proofs.Ytihmolafajmbjaa
open Go Vx

theorem f42_ok (ln : Nat) (l : Nat → Int) (n : Nat) (e : Nat → Int) (base : Int) (k : Nat) (lv ov : Nat → Int) (is : Nat → Bool) (iso emb opn : Int) (q : Nat) (xs cs : Nat → Int) (hk : 0 < k) (hk2 : k ≤ 1000000) (hlv : 0 ≤ lv (k - 1) ∧ lv (k - 1) ≤ 1000) (hq : q ≤ 1000000) (hiso : 0 ≤ iso ∧ iso ≤ 1000000) (hemb : 0 ≤ emb ∧ emb ≤ 1000000) (hopn : 0 ≤ opn ∧ opn ≤ 1000000) (i : Nat) (hi : i < ln) (z : Int) (hz : z = i) : FSpec Try.prog 42 [.ptr 0 0 0, .int .i64 z] (mheap ln l n e base k lv ov is iso emb opn q xs cs) (NX ln l n e base (parM base (l i) (absM k lv ov is iso emb opn q xs cs))) := by
  obtain ⟨xs', x1, x2⟩ := snocF xs q base
  obtain ⟨cs', c1, c2⟩ := snocF cs q (l i)
  obtain ⟨lv', b1⟩ : ∃ lv' : Nat → Int, lv' 0 = base := ⟨fun _ => base, rfl⟩
  obtain ⟨ov', b2⟩ : ∃ ov' : Nat → Int, ov' 0 = 13 := ⟨fun _ => 13, rfl⟩
  obtain ⟨is', b3⟩ : ∃ is' : Nat → Bool, is' 0 = false := ⟨fun _ => false, rfl⟩
  have r1 := f45_ok ln l n e base k lv ov is iso emb opn q xs cs hq base (l i) (q + 1) rfl xs' cs' x1 x2 c1 c2
  have r2 := f26_ok ln l n e base k lv ov is iso emb opn (q + 1) xs' cs' lv' ov' is' b1 b2 b3
  have d1 : absM 1 lv' ov' is' 0 0 0 (q + 1) xs' cs' = parM base (l i) (absM k lv ov is iso emb opn q xs cs) := by
    simp only [parM, freshM, putM, absM]
    rw [tab_snoc rfl x1 x2, tab_snoc rfl c1 c2, tab_one, b1, b2, b3]
  generalize parM base (l i) (absM k lv ov is iso emb opn q xs cs) = M at d1 ⊢
  obtain ⟨q1, hq1⟩ : ∃ q1, q1 = q + 1 := ⟨_, rfl⟩
  rw [← hq1] at d1 r1 r2
  refine FSpec.of (fn := Try.f42) Try.func42 rfl rfl (by simp) fun C hC => ?_
  obtain ⟨iadd, isub, imul, iquo, irem, iband, ibor, ibxor, ibandn, ishl, ishr, iconv, ieq, ine, ilt, ile, igt, ige, bbeq, bbne, bnot, bband, sseq, ssne, sscat, sssub, sslen, sssz, ssbyte, toN, ofN, addN, subN, eqN, ltB, leN, imx, imn, inb, leb, sslt, ltN, fit, ne0, ge0, ssfit, minN, inR, hS⟩ := names
  obtain rfl : z = ofN i := by simp (disch := first | omega | (simp only [hS.glob, wraps, plain, Int.ofNat_eq_natCast]; omega)) only [hS.glob, wraps, plain, Int.ofNat_eq_natCast]; exact hz
  refine V.go Try.func42 tl_ok mixed hS.ops [] 400 ?_
  intro VV VA W hVV hVA hW
  conv => cbv
  repeat (refine ⟨by first | (rw [hW]; show ordOk _ _ _ = true; kernel_rfl) | (first | trivial | omega | (simp (disch := omega) only [hS.glob, wraps, plain, Int.ofNat_eq_natCast]; first | done | omega | trivial | (simp; done) | (simp; omega) | (constructor <;> omega)) | (simp (disch := omega) only [hS.glob, wraps, plain, Int.ofNat_eq_natCast, Vx.toN]; omega)), ?_⟩)
  simp only [hS.tidy]
  rw [hVA]
  refine AnyT.call rfl rfl rfl rfl rfl Try.func45 rfl (by decide) [0, 1, 2, 3] (by decide) (all_lt (by rfl)) (by (first | rfl | ((conv => cbv); (repeat' apply And.intro) <;> first | rfl | trivial | (first | rfl | omega | (simp (disch := omega) only [hS.glob, wraps, plain, Int.ofNat_eq_natCast]; first | done | rfl | omega | (simp; done) | (simp; omega)) | (simp (disch := omega) only [hS.glob, wraps, plain, Int.ofNat_eq_natCast, Vx.toN]; omega))))) (by rfl) r1 ?_
  rintro r Hc ⟨rfl, rfl⟩
  clear hVV hVA VV VA hW W
  refine AnyT.go Try.func42 tl_ok mixed hS.ops [] 400 ?_
  intro VV VA W hVV hVA hW
  conv => cbv
  rw [hVV]
  refine V.call rfl rfl rfl rfl rfl Try.func26 rfl (by decide) [0, 4, 5, 6] (by decide) (all_lt (by rfl)) (by (first | rfl | ((conv => cbv); (repeat' apply And.intro) <;> first | rfl | trivial | (first | rfl | omega | (simp (disch := omega) only [hS.glob, wraps, plain, Int.ofNat_eq_natCast]; first | done | rfl | omega | (simp; done) | (simp; omega)) | (simp (disch := omega) only [hS.glob, wraps, plain, Int.ofNat_eq_natCast, Vx.toN]; omega))))) (by rfl) r2 ?_
  rintro r Hc ⟨rfl, rfl⟩
  clear hVV hVA VV VA hW W
  refine V.pick [0, 1, 2, 3, 7, 8, 9] (by decide) (pre4 ln l n e base k lv ov is iso emb opn q xs cs hC _) rfl rfl ?_
  refine V.go Try.func42 tl_ok mixed hS.ops [] 400 ?_
  intro VV VA W hVV hVA hW
  conv => cbv
  exact ⟨rfl, 1, lv', ov', is', 0, 0, 0, q1, xs', cs', rfl, d1⟩
end Go.Proofs.Ytihmolafajmbjaa

/- The machine: PDI. -/
namespace Go.Proofs.Ytihmolafajmbjaa
open Go Vx

theorem plain_abs (k : Nat) (lv ov : Nat → Int) (is : Nat → Bool) (iso emb opn : Int) (q : Nat) (xs cs : Nat → Int) (hk : 0 < k) (c : Int) (xs' cs' : Nat → Int) (x1 : ∀ j, j < q → xs' j = xs j) (x2 : xs' q = lv (k - 1))
    (c1 : ∀ j, j < q → cs' j = cs j) (c2 : cs' q = if ov (k - 1) = 13 then c else ov (k - 1)) : absM k lv ov is iso emb opn (q + 1) xs' cs' = plainM c (absM k lv ov is iso emb opn q xs cs) := by
  unfold plainM
  rw [topM_abs lv ov is iso emb opn q xs cs hk]
  simp only [putM, absM]
  rw [tab_snoc rfl x1 x2, tab_snoc rfl c1 c2]
theorem cutI_step (lv ov : Nat → Int) (is : Nat → Bool) (k : Nat) (hk : 0 < k) : cutI k (tab k fun j => (lv j, ov j, is j)) = if is (k - 1) then tab (k - 1) fun j => (lv j, ov j, is j) else cutI (k - 1) (tab (k - 1) fun j => (lv j, ov j, is j)) := by
  obtain ⟨m, rfl⟩ : ∃ m, k = m + 1 := ⟨k - 1, by omega⟩
  simp only [cutI]
  rw [tab_last _ _ hk, tab_pop]
  simp

theorem f40_ok (ln : Nat) (l : Nat → Int) (n : Nat) (e : Nat → Int) (base : Int) (k : Nat) (lv ov : Nat → Int) (is : Nat → Bool) (iso emb opn : Int) (q : Nat) (xs cs : Nat → Int) (hk : 0 < k) (hk2 : k ≤ 1000000) (hlv : 0 ≤ lv (k - 1) ∧ lv (k - 1) ≤ 1000) (hq : q ≤ 1000000) (hiso : 0 ≤ iso ∧ iso ≤ 1000000) (hemb : 0 ≤ emb ∧ emb ≤ 1000000) (hopn : 0 ≤ opn ∧ opn ≤ 1000000) (hop : 0 < opn → ∃ j, 0 < j ∧ j < k ∧ is j = true) (i : Nat) (hi : i < ln) (z : Int) (hz : z = i) : FSpec Try.prog 40 [.ptr 0 0 0, .int .i64 z] (mheap ln l n e base k lv ov is iso emb opn q xs cs) (NX ln l n e base (closingM (l i) (absM k lv ov is iso emb opn q xs cs))) := by
  obtain ⟨M, hM⟩ : ∃ M, M = closingM (l i) (absM k lv ov is iso emb opn q xs cs) := ⟨_, rfl⟩
  rw [← hM]
  -- the last step, whatever has become of the machine
  have last : ∀ (k1 : Nat) (iso1 emb1 opn1 : Int), 0 < k1 → absM k1 lv ov is iso1 emb1 opn1 q xs cs = closeM (absM k lv ov is iso emb opn q xs cs) →
      ∃ q1 xs' cs', FSpec Try.prog 28 [.ptr 0 0 0, .int .i64 z] (mheap ln l n e base k1 lv ov is iso1 emb1 opn1 q xs cs) (fun r H' => r = .tup [] ∧ H' = nheap ln l n e base k1 lv ov is iso1 emb1 opn1 q1 xs' cs') ∧ absM k1 lv ov is iso1 emb1 opn1 q1 xs' cs' = M := by
    intro k1 iso1 emb1 opn1 h1 h2
    obtain ⟨xs', x1, x2⟩ := snocF xs q (lv (k1 - 1))
    obtain ⟨cs', c1, c2⟩ := snocF cs q (if ov (k1 - 1) = 13 then l i else ov (k1 - 1))
    refine ⟨q + 1, xs', cs', f28_ok ln l n e base k1 lv ov is iso1 emb1 opn1 q xs cs h1 hq i hi z hz (q + 1) rfl xs' cs' x1 x2 c1 c2, ?_⟩
    rw [plain_abs k1 lv ov is iso1 emb1 opn1 q xs cs h1 (l i) xs' cs' x1 x2 c1 c2, h2, hM]
    rfl
  refine FSpec.of (fn := Try.f40) Try.func40 rfl rfl (by simp) fun C hC => ?_
  obtain ⟨iadd, isub, imul, iquo, irem, iband, ibor, ibxor, ibandn, ishl, ishr, iconv, ieq, ine, ilt, ile, igt, ige, bbeq, bbne, bnot, bband, sseq, ssne, sscat, sssub, sslen, sssz, ssbyte, toN, ofN, addN, subN, eqN, ltB, leN, imx, imn, inb, leb, sslt, ltN, fit, ne0, ge0, ssfit, minN, inR, hS⟩ := names
  obtain rfl : z = ofN i := by simp (disch := first | omega | (simp only [hS.glob, wraps, plain, Int.ofNat_eq_natCast]; omega)) only [hS.glob, wraps, plain, Int.ofNat_eq_natCast]; exact hz
  refine V.go Try.func40 tl_ok mixed hS.ops [] 400 ?_
  intro VV VA W hVV hVA hW
  conv => cbv
  cases h1 : igt iso 0
  · conv => cbv
    simp (disch := first | omega | (simp only [hS.glob, wraps, plain, Int.ofNat_eq_natCast]; omega)) only [hS.glob, wraps, plain, Int.ofNat_eq_natCast] at h1
    cases h2 : igt opn 0
    · conv => cbv
      simp (disch := first | omega | (simp only [hS.glob, wraps, plain, Int.ofNat_eq_natCast]; omega)) only [hS.glob, wraps, plain, Int.ofNat_eq_natCast] at h2
      obtain ⟨q1, xs', cs', r1, d1⟩ := last k iso emb opn hk (by unfold closeM; rw [if_neg (by simp [absM]; omega), if_neg (by simp [absM]; omega)])
      rw [hVV]
      refine V.call rfl rfl rfl rfl rfl Try.func28 rfl (by decide) [0, 1, 2, 3] (by decide) (all_lt (by rfl)) (by (first | rfl | ((conv => cbv); (repeat' apply And.intro) <;> first | rfl | trivial | (first | rfl | omega | (simp (disch := omega) only [hS.glob, wraps, plain, Int.ofNat_eq_natCast]; first | done | rfl | omega | (simp; done) | (simp; omega)) | (simp (disch := omega) only [hS.glob, wraps, plain, Int.ofNat_eq_natCast, Vx.toN]; omega))))) (by rfl) r1 ?_
      rintro r Hc ⟨rfl, rfl⟩
      clear hVV hVA VV VA hW W
      refine V.go Try.func40 tl_ok mixed hS.ops [] 400 ?_
      intro VV VA W hVV hVA hW
      conv => cbv
      exact ⟨rfl, k, lv, ov, is, iso, emb, opn, q1, xs', cs', rfl, d1⟩
    · conv => cbv
      simp (disch := first | omega | (simp only [hS.glob, wraps, plain, Int.ofNat_eq_natCast]; omega)) only [hS.glob, wraps, plain, Int.ofNat_eq_natCast] at h2
      rw [hVV]
      clear hVV hVA VV VA hW W
      refine V.to (s' := [(0, .ptr 0 0 0), (1, .int .i64 (ofN i))]) (H' := mheap ln l n e base k lv ov is iso 0 opn q xs cs) ?_ (by (repeat' first | exact trivial | rfl | (refine And.intro ?_ ?_) | (refine sti ?_; (first | rfl | omega | (simp (disch := omega) only [hS.glob, wraps, plain, Int.ofNat_eq_natCast]; first | done | rfl | omega | (simp; done) | (simp; omega)) | (simp (disch := omega) only [hS.glob, wraps, plain, Int.ofNat_eq_natCast, Vx.toN]; omega))) | (refine slq ?_ ?_ ?_ <;> (first | rfl | omega | (simp (disch := omega) only [hS.glob, wraps, plain, Int.ofNat_eq_natCast]; first | done | rfl | omega | (simp; done) | (simp; omega)) | (simp (disch := omega) only [hS.glob, wraps, plain, Int.ofNat_eq_natCast, Vx.toN]; omega))) | (refine ptq ?_ ?_ ?_ <;> (first | rfl | omega | (simp (disch := omega) only [hS.glob, wraps, plain, Int.ofNat_eq_natCast]; first | done | rfl | omega | (simp; done) | (simp; omega)) | (simp (disch := omega) only [hS.glob, wraps, plain, Int.ofNat_eq_natCast, Vx.toN]; omega))) | (refine blq ?_; (first | rfl | omega | (simp (disch := omega) only [hS.glob, wraps, plain, Int.ofNat_eq_natCast]; first | done | rfl | omega | (simp; done) | (simp; omega)) | (simp (disch := omega) only [hS.glob, wraps, plain, Int.ofNat_eq_natCast, Vx.toN]; omega))))) rfl ⟨⟨rfl, rfl, rfl, rfl⟩, ⟨rfl, rfl, ⟨Nat.le_refl _, fun _ _ => rfl⟩, rfl⟩, ⟨rfl, rfl, ⟨Nat.le_refl _, fun _ _ => rfl⟩, rfl⟩, ⟨rfl, rfl, ⟨Nat.le_refl _, fun _ _ => rfl⟩, rfl⟩, trivial⟩ (by rw [hC]; exact Nat.le_refl 4)
      refine V.loop (γ := Nat) (fun k1 => k1 ≤ k ∧ (∃ j, 0 < j ∧ j < k1 ∧ is j = true) ∧ cutI k1 (tab k1 fun j => (lv j, ov j, is j)) = cutI k (tab k fun j => (lv j, ov j, is j)))
        (fun _ => [(0, .ptr 0 0 0), (1, .int .i64 (ofN i))]) (fun k1 => mheap ln l n e base k1 lv ov is iso 0 opn q xs cs) (fun k1 => k1) ?_ k ⟨Nat.le_refl _, hop h2, rfl⟩
      rintro k1 ⟨hk1, ⟨j, j0, j1, j2⟩, hcut⟩ hback
      have ht := f44_ok ln l n e base k1 lv ov is iso 0 opn q xs cs (by omega) _ _ _ rfl rfl rfl
      rw [cutI_step lv ov is k1 (by omega)] at hcut
      have last := last (k1 - 1) iso 0 (opn - 1)
      generalize lv (k1 - 1) = LV at ht
      generalize ov (k1 - 1) = OV at ht
      generalize hIS : is (k1 - 1) = IS at ht hcut
      obtain ⟨k2, hk2'⟩ : ∃ k2, k2 = k1 - 1 := ⟨_, rfl⟩
      rw [← hk2'] at last hcut hIS
      obtain ⟨o1, ho1⟩ : ∃ o1, o1 = opn - 1 := ⟨_, rfl⟩
      rw [← ho1] at last
      refine V.go Try.func40 tl_ok mixed hS.ops [] 400 ?_
      intro VV VA W hVV hVA hW
      conv => cbv
      rw [hVV]
      refine V.call rfl rfl rfl rfl rfl Try.func44 rfl (by decide) [0, 1, 2, 3] (by decide) (all_lt (by rfl)) (by (first | rfl | ((conv => cbv); (repeat' apply And.intro) <;> first | rfl | trivial | (first | rfl | omega | (simp (disch := omega) only [hS.glob, wraps, plain, Int.ofNat_eq_natCast]; first | done | rfl | omega | (simp; done) | (simp; omega)) | (simp (disch := omega) only [hS.glob, wraps, plain, Int.ofNat_eq_natCast, Vx.toN]; omega))))) (by rfl) ht ?_
      rintro r Hc ⟨rfl, rfl⟩
      clear hVV hVA VV VA hW W
      refine V.go Try.func40 tl_ok mixed hS.ops [] 400 ?_
      intro VV VA W hVV hVA hW
      conv => cbv
      have ek : toN (isub .i64 (ofN k1) 1) = k2 := by simp (disch := first | omega | (simp only [hS.glob, wraps, plain, Int.ofNat_eq_natCast]; omega)) only [hS.glob, wraps, plain, Int.ofNat_eq_natCast]; omega
      have ek2 : leb (isub .i64 (ofN k1) 1) (ofN k1) := by (first | trivial | omega | (simp (disch := omega) only [hS.glob, wraps, plain, Int.ofNat_eq_natCast]; first | done | omega | trivial | (simp; done) | (simp; omega) | (constructor <;> omega)) | (simp (disch := omega) only [hS.glob, wraps, plain, Int.ofNat_eq_natCast, Vx.toN]; omega))
      cases IS
      · conv => cbv
        repeat (refine ⟨by first | (rw [hW]; show ordOk _ _ _ = true; kernel_rfl) | (first | trivial | omega | (simp (disch := omega) only [hS.glob, wraps, plain, Int.ofNat_eq_natCast]; first | done | omega | trivial | (simp; done) | (simp; omega) | (constructor <;> omega)) | (simp (disch := omega) only [hS.glob, wraps, plain, Int.ofNat_eq_natCast, Vx.toN]; omega)), ?_⟩)
        simp only [ek]
        rw [hVV]
        have hjk : j < k2 := by
          rcases Nat.lt_or_ge j k2 with h | h
          · exact h
          · have : j = k2 := by omega
            subst this
            rw [j2] at hIS; cases hIS
        refine V.to (hback k2 ⟨by omega, ⟨j, j0, hjk, j2⟩, by simpa using hcut⟩ (by omega)) (by (repeat' first | exact trivial | rfl | (refine And.intro ?_ ?_) | (refine sti ?_; (first | rfl | omega | (simp (disch := omega) only [hS.glob, wraps, plain, Int.ofNat_eq_natCast]; first | done | rfl | omega | (simp; done) | (simp; omega)) | (simp (disch := omega) only [hS.glob, wraps, plain, Int.ofNat_eq_natCast, Vx.toN]; omega))) | (refine slq ?_ ?_ ?_ <;> (first | rfl | omega | (simp (disch := omega) only [hS.glob, wraps, plain, Int.ofNat_eq_natCast]; first | done | rfl | omega | (simp; done) | (simp; omega)) | (simp (disch := omega) only [hS.glob, wraps, plain, Int.ofNat_eq_natCast, Vx.toN]; omega))) | (refine ptq ?_ ?_ ?_ <;> (first | rfl | omega | (simp (disch := omega) only [hS.glob, wraps, plain, Int.ofNat_eq_natCast]; first | done | rfl | omega | (simp; done) | (simp; omega)) | (simp (disch := omega) only [hS.glob, wraps, plain, Int.ofNat_eq_natCast, Vx.toN]; omega))) | (refine blq ?_; (first | rfl | omega | (simp (disch := omega) only [hS.glob, wraps, plain, Int.ofNat_eq_natCast]; first | done | rfl | omega | (simp; done) | (simp; omega)) | (simp (disch := omega) only [hS.glob, wraps, plain, Int.ofNat_eq_natCast, Vx.toN]; omega))))) rfl ⟨⟨rfl, rfl, rfl, rfl⟩, ⟨rfl, rfl, ⟨by show k2 ≤ k1; omega, fun _ _ => rfl⟩, rfl⟩, ⟨rfl, rfl, ⟨Nat.le_refl _, fun _ _ => rfl⟩, rfl⟩, ⟨rfl, rfl, ⟨Nat.le_refl _, fun _ _ => rfl⟩, rfl⟩, trivial⟩ (by rw [hC]; exact Nat.le_refl 4)
      · conv => cbv
        repeat (refine ⟨by first | (rw [hW]; show ordOk _ _ _ = true; kernel_rfl) | (first | trivial | omega | (simp (disch := omega) only [hS.glob, wraps, plain, Int.ofNat_eq_natCast]; first | done | omega | trivial | (simp; done) | (simp; omega) | (constructor <;> omega)) | (simp (disch := omega) only [hS.glob, wraps, plain, Int.ofNat_eq_natCast, Vx.toN]; omega)), ?_⟩)
        simp only [ek]
        have eo : isub .i64 opn 1 = o1 := by simp (disch := first | omega | (simp only [hS.glob, wraps, plain, Int.ofNat_eq_natCast]; omega)) only [hS.glob, wraps, plain, Int.ofNat_eq_natCast]; omega
        simp only [eo]
        obtain ⟨q1, xs', cs', r1, d1⟩ := last (by omega) (by
          unfold closeM
          rw [if_neg (by simp [absM]; omega), if_pos (by simp [absM]; omega)]
          simp only [absM, tab_len]
          rw [← hcut, ho1]
          simp)
        rw [hVV]
        refine V.to (s' := [(65, .ptr 0 0 0), (66, .int .i64 (ofN i))]) (H' := mheap ln l n e base k2 lv ov is iso 0 o1 q xs cs) ?_ (by (repeat' first | exact trivial | rfl | (refine And.intro ?_ ?_) | (refine sti ?_; (first | rfl | omega | (simp (disch := omega) only [hS.glob, wraps, plain, Int.ofNat_eq_natCast]; first | done | rfl | omega | (simp; done) | (simp; omega)) | (simp (disch := omega) only [hS.glob, wraps, plain, Int.ofNat_eq_natCast, Vx.toN]; omega))) | (refine slq ?_ ?_ ?_ <;> (first | rfl | omega | (simp (disch := omega) only [hS.glob, wraps, plain, Int.ofNat_eq_natCast]; first | done | rfl | omega | (simp; done) | (simp; omega)) | (simp (disch := omega) only [hS.glob, wraps, plain, Int.ofNat_eq_natCast, Vx.toN]; omega))) | (refine ptq ?_ ?_ ?_ <;> (first | rfl | omega | (simp (disch := omega) only [hS.glob, wraps, plain, Int.ofNat_eq_natCast]; first | done | rfl | omega | (simp; done) | (simp; omega)) | (simp (disch := omega) only [hS.glob, wraps, plain, Int.ofNat_eq_natCast, Vx.toN]; omega))) | (refine blq ?_; (first | rfl | omega | (simp (disch := omega) only [hS.glob, wraps, plain, Int.ofNat_eq_natCast]; first | done | rfl | omega | (simp; done) | (simp; omega)) | (simp (disch := omega) only [hS.glob, wraps, plain, Int.ofNat_eq_natCast, Vx.toN]; omega))))) rfl ⟨⟨rfl, rfl, rfl, rfl⟩, ⟨rfl, rfl, ⟨by show k2 ≤ k1; omega, fun _ _ => rfl⟩, rfl⟩, ⟨rfl, rfl, ⟨Nat.le_refl _, fun _ _ => rfl⟩, rfl⟩, ⟨rfl, rfl, ⟨Nat.le_refl _, fun _ _ => rfl⟩, rfl⟩, trivial⟩ (by rw [hC]; exact Nat.le_refl 4)
        refine V.call rfl rfl rfl rfl rfl Try.func28 rfl (by decide) [0, 1, 2, 3] (by decide) (all_lt (by rfl)) (by (first | rfl | ((conv => cbv); (repeat' apply And.intro) <;> first | rfl | trivial | (first | rfl | omega | (simp (disch := omega) only [hS.glob, wraps, plain, Int.ofNat_eq_natCast]; first | done | rfl | omega | (simp; done) | (simp; omega)) | (simp (disch := omega) only [hS.glob, wraps, plain, Int.ofNat_eq_natCast, Vx.toN]; omega))))) (by rfl) r1 ?_
        rintro r Hc ⟨rfl, rfl⟩
        clear hVV hVA VV VA hW W
        refine V.go Try.func40 tl_ok mixed hS.ops [] 400 ?_
        intro VV VA W hVV hVA hW
        conv => cbv
        exact ⟨rfl, k2, lv, ov, is, iso, 0, o1, q1, xs', cs', rfl, d1⟩
  · conv => cbv
    simp (disch := first | omega | (simp only [hS.glob, wraps, plain, Int.ofNat_eq_natCast]; omega)) only [hS.glob, wraps, plain, Int.ofNat_eq_natCast] at h1
    obtain ⟨i1, hi1⟩ : ∃ i1, i1 = iso - 1 := ⟨_, rfl⟩
    have ei : isub .i64 iso 1 = i1 := by simp (disch := first | omega | (simp only [hS.glob, wraps, plain, Int.ofNat_eq_natCast]; omega)) only [hS.glob, wraps, plain, Int.ofNat_eq_natCast]; omega
    obtain ⟨q1, xs', cs', r1, d1⟩ := last k i1 emb opn hk (by unfold closeM; rw [if_pos (by simp [absM]; omega)]; simp [absM, hi1])
    rw [ei, hVV]
    refine V.call rfl rfl rfl rfl rfl Try.func28 rfl (by decide) [0, 1, 2, 3] (by decide) (all_lt (by rfl)) (by (first | rfl | ((conv => cbv); (repeat' apply And.intro) <;> first | rfl | trivial | (first | rfl | omega | (simp (disch := omega) only [hS.glob, wraps, plain, Int.ofNat_eq_natCast]; first | done | rfl | omega | (simp; done) | (simp; omega)) | (simp (disch := omega) only [hS.glob, wraps, plain, Int.ofNat_eq_natCast, Vx.toN]; omega))))) (by rfl) r1 ?_
    rintro r Hc ⟨rfl, rfl⟩
    clear hVV hVA VV VA hW W
    refine V.go Try.func40 tl_ok mixed hS.ops [] 400 ?_
    intro VV VA W hVV hVA hW
    conv => cbv
    exact ⟨rfl, k, lv, ov, is, i1, emb, opn, q1, xs', cs', rfl, d1⟩
end Go.Proofs.Ytihmolafajmbjaa

/- The machine: RLI, LRI, FSI. -/
namespace Go.Proofs.Ytihmolafajmbjaa
open Go Vx

def oddI (l e : Nat → Int) (to i : Nat) : Int := if l i = 20 ∨ (l i = 21 ∧ sgo l e to (to - (i + 1)) (i + 1) = 1) then 1 else 0
/-- Where the stretch behind an isolate's beginning ends. -/
def toI (ln : Nat) (e : Nat → Int) (i : Nat) : Nat := if e i = -1 then ln else (e i).toNat

theorem f39_ok (ln : Nat) (l : Nat → Int) (n : Nat) (e : Nat → Int) (base : Int) (k : Nat) (lv ov : Nat → Int) (is : Nat → Bool) (iso emb opn : Int) (q : Nat) (xs cs : Nat → Int) (hk : 0 < k) (hk2 : k ≤ 1000000) (hlv : 0 ≤ lv (k - 1) ∧ lv (k - 1) ≤ 1000) (hq : q ≤ 1000000) (hiso : 0 ≤ iso ∧ iso ≤ 1000000) (hemb : 0 ≤ emb ∧ emb ≤ 1000000) (hopn : 0 ≤ opn ∧ opn ≤ 1000000) (i : Nat) (hi : i < ln) (z : Int) (hz : z = i) (hn : n = ln) (hln : ln ≤ 1000000) (hei : ∀ j, j < ln → e j = -1 ∨ ((j : Int) < e j ∧ e j < ln)) : FSpec Try.prog 39 [.ptr 0 0 0, .int .i64 z] (mheap ln l n e base k lv ov is iso emb opn q xs cs) (NX ln l n e base (isoM (oddI l e (toI ln e i) i) (l i) (absM k lv ov is iso emb opn q xs cs))) := by
  obtain ⟨to, hto⟩ : ∃ to, to = toI ln e i := ⟨_, rfl⟩
  have to1 : i + 1 ≤ to ∧ to ≤ ln ∧ (to : Int) = if e i = -1 then (ln : Int) else e i := by
    have := hei i hi
    rw [hto]; unfold toI
    split <;> omega
  obtain ⟨sg, hsg⟩ : ∃ sg, sgo l e to (to - (i + 1)) (i + 1) = sg := ⟨_, rfl⟩
  obtain ⟨odd, hodd⟩ : ∃ odd, odd = oddI l e (toI ln e i) i := ⟨_, rfl⟩
  have hodd2 : odd = if l i = 20 ∨ (l i = 21 ∧ sg = 1) then 1 else 0 := by rw [hodd, ← hto]; unfold oddI; rw [hsg]
  have ho : 0 ≤ odd ∧ odd ≤ 1 := by rw [hodd2]; split <;> omega
  obtain ⟨xs', x1, x2⟩ := snocF xs q (lv (k - 1))
  obtain ⟨cs', c1, c2⟩ := snocF cs q (if ov (k - 1) = 13 then l i else ov (k - 1))
  have r1 := f28_ok ln l n e base k lv ov is iso emb opn q xs cs hk hq i hi z hz (q + 1) rfl xs' cs' x1 x2 c1 c2
  have pa := plain_abs k lv ov is iso emb opn q xs cs hk (l i) xs' cs' x1 x2 c1 c2
  obtain ⟨nl, hnl⟩ : ∃ nl, nl = nextLv (lv (k - 1)) odd := ⟨_, rfl⟩
  obtain ⟨lv', p1, p4⟩ := snocF lv k nl
  obtain ⟨ov', p2, p5⟩ := snocF ov k 13
  obtain ⟨is', p3, p6⟩ := snocF is k true
  have hp := f51_ok ln l n e base k lv ov is iso emb opn (q + 1) xs' cs' hk hk2 odd 0 13 true ho hlv nl hnl lv' ov' is' (k + 1) rfl p1 p2 p3 p4 p5 p6
  have ht := topM_abs lv ov is iso emb opn (q + 1) xs' cs' hk
  have hcan : canP odd (absM k lv ov is iso emb opn (q + 1) xs' cs') = true ↔ (nl ≤ 125 ∧ iso ≤ 0 ∧ emb ≤ 0) := by
    simp only [canP, ht, Bool.and_eq_true, decide_eq_true_eq, ← hnl]
    simp only [absM, and_assoc]
  have d1 : nl ≤ 125 ∧ iso ≤ 0 ∧ emb ≤ 0 → absM (k + 1) lv' ov' is' iso emb (opn + 1) (q + 1) xs' cs' = isoM odd (l i) (absM k lv ov is iso emb opn q xs cs) := by
    intro h
    unfold isoM
    rw [← pa, if_pos (hcan.2 h)]
    simp only [pushM, ht, ← hnl]
    simp only [absM]
    rw [tab_snoc (f := fun j => (lv j, ov j, is j)) rfl (fun j hj => by rw [p1 j hj, p2 j hj, p3 j hj]) (by rw [p4, p5, p6])]
  have d2 : ¬ (nl ≤ 125 ∧ iso ≤ 0 ∧ emb ≤ 0) → absM k lv ov is (iso + 1) emb opn (q + 1) xs' cs' = isoM odd (l i) (absM k lv ov is iso emb opn q xs cs) := by
    intro h
    unfold isoM
    rw [← pa, if_neg (fun hh => h (hcan.1 hh))]
    simp only [absM]
  rw [← hodd]
  generalize isoM odd (l i) (absM k lv ov is iso emb opn q xs cs) = M at d1 d2 ⊢
  obtain ⟨k1, hk1⟩ : ∃ k1, k1 = k + 1 := ⟨_, rfl⟩
  obtain ⟨q1, hq1⟩ : ∃ q1, q1 = q + 1 := ⟨_, rfl⟩
  obtain ⟨i1, hi1⟩ : ∃ i1, i1 = iso + 1 := ⟨_, rfl⟩
  obtain ⟨o1, ho1⟩ : ∃ o1, o1 = opn + 1 := ⟨_, rfl⟩
  rw [← hq1] at r1
  rw [← hq1, ← hk1] at hp
  rw [← hq1, ← hk1, ← ho1] at d1
  rw [← hq1, ← hi1] at d2
  have hs : ∀ za zt : Int, za = ((i + 1 : Nat) : Int) → zt = to → FSpec Try.prog 23 [.rows 1 ln (icol .i64 l), .rows 1 n (icol .i64 e), .int .i64 za, .int .i64 zt] [] (fun r H' => r = .int .i64 sg ∧ H' = []) := fun za zt a b =>
    f23_ok ln l n e (i + 1) to za zt a b sg hsg to1.1 to1.2.1 (by omega) (fun j hj hb => by have := hei j (by omega); omega)
  have e0 := hei i hi
  clear hsg hodd hcan ht pa hnl hei hto
  refine FSpec.of (fn := Try.f39) Try.func39 rfl rfl (by simp) fun C hC => ?_
  obtain ⟨iadd, isub, imul, iquo, irem, iband, ibor, ibxor, ibandn, ishl, ishr, iconv, ieq, ine, ilt, ile, igt, ige, bbeq, bbne, bnot, bband, sseq, ssne, sscat, sssub, sslen, sssz, ssbyte, toN, ofN, addN, subN, eqN, ltB, leN, imx, imn, inb, leb, sslt, ltN, fit, ne0, ge0, ssfit, minN, inR, hS⟩ := names
  obtain rfl : z = ofN i := by simp (disch := first | omega | (simp only [hS.glob, wraps, plain, Int.ofNat_eq_natCast]; omega)) only [hS.glob, wraps, plain, Int.ofNat_eq_natCast]; exact hz
  refine V.go Try.func39 tl_ok mixed hS.ops [] 400 ?_
  intro VV VA W hVV hVA hW
  conv => cbv
  rw [hVV]
  refine V.call rfl rfl rfl rfl rfl Try.func28 rfl (by decide) [0, 1, 2, 3] (by decide) (all_lt (by rfl)) (by (first | rfl | ((conv => cbv); (repeat' apply And.intro) <;> first | rfl | trivial | (first | rfl | omega | (simp (disch := omega) only [hS.glob, wraps, plain, Int.ofNat_eq_natCast]; first | done | rfl | omega | (simp; done) | (simp; omega)) | (simp (disch := omega) only [hS.glob, wraps, plain, Int.ofNat_eq_natCast, Vx.toN]; omega))))) (by rfl) r1 ?_
  rintro r Hc ⟨rfl, rfl⟩
  clear hVV hVA VV VA hW W
  refine V.go Try.func39 tl_ok mixed hS.ops [] 400 ?_
  intro VV VA W hVV hVA hW
  conv => cbv
  repeat (refine ⟨by first | (rw [hW]; show ordOk _ _ _ = true; kernel_rfl) | (first | trivial | omega | (simp (disch := omega) only [hS.glob, wraps, plain, Int.ofNat_eq_natCast]; first | done | omega | trivial | (simp; done) | (simp; omega) | (constructor <;> omega)) | (simp (disch := omega) only [hS.glob, wraps, plain, Int.ofNat_eq_natCast, Vx.toN]; omega)), ?_⟩)
  simp only [hS.tidy]
  cases h1 : ine (e i) (-1)
  · conv => cbv
    simp (disch := first | omega | (simp only [hS.glob, wraps, plain, Int.ofNat_eq_natCast]; omega)) only [hS.glob, wraps, plain, Int.ofNat_eq_natCast] at h1
    rw [if_pos h1] at to1
    repeat (refine ⟨by first | (rw [hW]; show ordOk _ _ _ = true; kernel_rfl) | (first | trivial | omega | (simp (disch := omega) only [hS.glob, wraps, plain, Int.ofNat_eq_natCast]; first | done | omega | trivial | (simp; done) | (simp; omega) | (constructor <;> omega)) | (simp (disch := omega) only [hS.glob, wraps, plain, Int.ofNat_eq_natCast, Vx.toN]; omega)), ?_⟩)
    simp only [hS.tidy]
    cases h2 : ieq (l i) 20
    · conv => cbv
      repeat (refine ⟨by first | (rw [hW]; show ordOk _ _ _ = true; kernel_rfl) | (first | trivial | omega | (simp (disch := omega) only [hS.glob, wraps, plain, Int.ofNat_eq_natCast]; first | done | omega | trivial | (simp; done) | (simp; omega) | (constructor <;> omega)) | (simp (disch := omega) only [hS.glob, wraps, plain, Int.ofNat_eq_natCast, Vx.toN]; omega)), ?_⟩)
      simp only [hS.tidy]
      cases h3 : ieq (l i) 21
      · conv => cbv
        repeat (refine ⟨by first | (rw [hW]; show ordOk _ _ _ = true; kernel_rfl) | (first | trivial | omega | (simp (disch := omega) only [hS.glob, wraps, plain, Int.ofNat_eq_natCast]; first | done | omega | trivial | (simp; done) | (simp; omega) | (constructor <;> omega)) | (simp (disch := omega) only [hS.glob, wraps, plain, Int.ofNat_eq_natCast, Vx.toN]; omega)), ?_⟩)
        simp (disch := first | omega | (simp only [hS.glob, wraps, plain, Int.ofNat_eq_natCast]; omega)) only [hS.glob, wraps, plain, Int.ofNat_eq_natCast] at h2 h3
        obtain rfl : odd = 0 := by rw [hodd2, if_neg (by omega)]
        rw [hVV]
        refine V.call rfl rfl rfl rfl rfl Try.func51 rfl (by decide) [0, 4, 5, 6] (by decide) (all_lt (by rfl)) (by (first | rfl | ((conv => cbv); (repeat' apply And.intro) <;> first | rfl | trivial | (first | rfl | omega | (simp (disch := omega) only [hS.glob, wraps, plain, Int.ofNat_eq_natCast]; first | done | rfl | omega | (simp; done) | (simp; omega)) | (simp (disch := omega) only [hS.glob, wraps, plain, Int.ofNat_eq_natCast, Vx.toN]; omega))))) (by rfl) hp ?_
        rintro r Hc (⟨g0, rfl, rfl⟩ | ⟨g0, g1, g2, rfl, rfl⟩)
        · clear hVV hVA VV VA hW W
          refine V.pick [0, 1, 2, 3, 7, 8, 9] (by decide) (pre4 ln l n e base k lv ov is iso emb opn q xs cs hC _) rfl rfl ?_
          refine V.go Try.func39 tl_ok mixed hS.ops [] 400 ?_
          intro VV VA W hVV hVA hW
          conv => cbv
          have ee : iadd .i64 iso 1 = i1 := by simp (disch := first | omega | (simp only [hS.glob, wraps, plain, Int.ofNat_eq_natCast]; omega)) only [hS.glob, wraps, plain, Int.ofNat_eq_natCast]; omega
          rw [ee]
          exact ⟨rfl, k, lv, ov, is, i1, emb, opn, q1, xs', cs', rfl, d2 (by omega)⟩
        · clear hVV hVA VV VA hW W
          refine V.pick [0, 1, 2, 3, 7, 8, 9] (by decide) (pre4 ln l n e base k lv ov is iso emb opn q xs cs hC _) rfl rfl ?_
          refine V.go Try.func39 tl_ok mixed hS.ops [] 400 ?_
          intro VV VA W hVV hVA hW
          conv => cbv
          have ee : iadd .i64 opn 1 = o1 := by simp (disch := first | omega | (simp only [hS.glob, wraps, plain, Int.ofNat_eq_natCast]; omega)) only [hS.glob, wraps, plain, Int.ofNat_eq_natCast]; omega
          rw [ee]
          exact ⟨rfl, k1, lv', ov', is', iso, emb, o1, q1, xs', cs', rfl, d1 ⟨g0, g1, g2⟩⟩
      · conv => cbv
        repeat (refine ⟨by first | (rw [hW]; show ordOk _ _ _ = true; kernel_rfl) | (first | trivial | omega | (simp (disch := omega) only [hS.glob, wraps, plain, Int.ofNat_eq_natCast]; first | done | omega | trivial | (simp; done) | (simp; omega) | (constructor <;> omega)) | (simp (disch := omega) only [hS.glob, wraps, plain, Int.ofNat_eq_natCast, Vx.toN]; omega)), ?_⟩)
        simp (disch := first | omega | (simp only [hS.glob, wraps, plain, Int.ofNat_eq_natCast]; omega)) only [hS.glob, wraps, plain, Int.ofNat_eq_natCast] at h2 h3
        rw [hVA]
        refine AnyT.call rfl rfl rfl rfl rfl Try.func23 rfl (by decide) [] (by decide) (all_lt (by rfl)) (by (first | rfl | ((conv => cbv); (repeat' apply And.intro) <;> first | rfl | trivial | (first | rfl | omega | (simp (disch := omega) only [hS.glob, wraps, plain, Int.ofNat_eq_natCast]; first | done | rfl | omega | (simp; done) | (simp; omega)) | (simp (disch := omega) only [hS.glob, wraps, plain, Int.ofNat_eq_natCast, Vx.toN]; omega))))) (by rfl) (hs (iadd .i64 (ofN i) 1) (ofN ln) (by simp (disch := first | omega | (simp only [hS.glob, wraps, plain, Int.ofNat_eq_natCast]; omega)) only [hS.glob, wraps, plain, Int.ofNat_eq_natCast]; omega) (by simp (disch := first | omega | (simp only [hS.glob, wraps, plain, Int.ofNat_eq_natCast]; omega)) only [hS.glob, wraps, plain, Int.ofNat_eq_natCast]; omega)) ?_
        rintro r Hc ⟨rfl, rfl⟩
        clear hVV hVA VV VA hW W
        refine AnyT.go Try.func39 tl_ok mixed hS.ops [] 400 ?_
        intro VV VA W hVV hVA hW
        conv => cbv
        cases h4 : ieq sg 1
        · conv => cbv
          simp (disch := first | omega | (simp only [hS.glob, wraps, plain, Int.ofNat_eq_natCast]; omega)) only [hS.glob, wraps, plain, Int.ofNat_eq_natCast] at h4
          obtain rfl : odd = 0 := by rw [hodd2, if_neg (by omega)]
          rw [hVV]
          refine V.call rfl rfl rfl rfl rfl Try.func51 rfl (by decide) [0, 4, 5, 6] (by decide) (all_lt (by rfl)) (by (first | rfl | ((conv => cbv); (repeat' apply And.intro) <;> first | rfl | trivial | (first | rfl | omega | (simp (disch := omega) only [hS.glob, wraps, plain, Int.ofNat_eq_natCast]; first | done | rfl | omega | (simp; done) | (simp; omega)) | (simp (disch := omega) only [hS.glob, wraps, plain, Int.ofNat_eq_natCast, Vx.toN]; omega))))) (by rfl) hp ?_
          rintro r Hc (⟨g0, rfl, rfl⟩ | ⟨g0, g1, g2, rfl, rfl⟩)
          · clear hVV hVA VV VA hW W
            refine V.pick [0, 1, 2, 3, 7, 8, 9] (by decide) (pre4 ln l n e base k lv ov is iso emb opn q xs cs hC _) rfl rfl ?_
            refine V.go Try.func39 tl_ok mixed hS.ops [] 400 ?_
            intro VV VA W hVV hVA hW
            conv => cbv
            have ee : iadd .i64 iso 1 = i1 := by simp (disch := first | omega | (simp only [hS.glob, wraps, plain, Int.ofNat_eq_natCast]; omega)) only [hS.glob, wraps, plain, Int.ofNat_eq_natCast]; omega
            rw [ee]
            exact ⟨rfl, k, lv, ov, is, i1, emb, opn, q1, xs', cs', rfl, d2 (by omega)⟩
          · clear hVV hVA VV VA hW W
            refine V.pick [0, 1, 2, 3, 7, 8, 9] (by decide) (pre4 ln l n e base k lv ov is iso emb opn q xs cs hC _) rfl rfl ?_
            refine V.go Try.func39 tl_ok mixed hS.ops [] 400 ?_
            intro VV VA W hVV hVA hW
            conv => cbv
            have ee : iadd .i64 opn 1 = o1 := by simp (disch := first | omega | (simp only [hS.glob, wraps, plain, Int.ofNat_eq_natCast]; omega)) only [hS.glob, wraps, plain, Int.ofNat_eq_natCast]; omega
            rw [ee]
            exact ⟨rfl, k1, lv', ov', is', iso, emb, o1, q1, xs', cs', rfl, d1 ⟨g0, g1, g2⟩⟩
        · conv => cbv
          simp (disch := first | omega | (simp only [hS.glob, wraps, plain, Int.ofNat_eq_natCast]; omega)) only [hS.glob, wraps, plain, Int.ofNat_eq_natCast] at h4
          obtain rfl : odd = 1 := by rw [hodd2, if_pos (by omega)]
          rw [hVV]
          refine V.call rfl rfl rfl rfl rfl Try.func51 rfl (by decide) [0, 4, 5, 6] (by decide) (all_lt (by rfl)) (by (first | rfl | ((conv => cbv); (repeat' apply And.intro) <;> first | rfl | trivial | (first | rfl | omega | (simp (disch := omega) only [hS.glob, wraps, plain, Int.ofNat_eq_natCast]; first | done | rfl | omega | (simp; done) | (simp; omega)) | (simp (disch := omega) only [hS.glob, wraps, plain, Int.ofNat_eq_natCast, Vx.toN]; omega))))) (by rfl) hp ?_
          rintro r Hc (⟨g0, rfl, rfl⟩ | ⟨g0, g1, g2, rfl, rfl⟩)
          · clear hVV hVA VV VA hW W
            refine V.pick [0, 1, 2, 3, 7, 8, 9] (by decide) (pre4 ln l n e base k lv ov is iso emb opn q xs cs hC _) rfl rfl ?_
            refine V.go Try.func39 tl_ok mixed hS.ops [] 400 ?_
            intro VV VA W hVV hVA hW
            conv => cbv
            have ee : iadd .i64 iso 1 = i1 := by simp (disch := first | omega | (simp only [hS.glob, wraps, plain, Int.ofNat_eq_natCast]; omega)) only [hS.glob, wraps, plain, Int.ofNat_eq_natCast]; omega
            rw [ee]
            exact ⟨rfl, k, lv, ov, is, i1, emb, opn, q1, xs', cs', rfl, d2 (by omega)⟩
          · clear hVV hVA VV VA hW W
            refine V.pick [0, 1, 2, 3, 7, 8, 9] (by decide) (pre4 ln l n e base k lv ov is iso emb opn q xs cs hC _) rfl rfl ?_
            refine V.go Try.func39 tl_ok mixed hS.ops [] 400 ?_
            intro VV VA W hVV hVA hW
            conv => cbv
            have ee : iadd .i64 opn 1 = o1 := by simp (disch := first | omega | (simp only [hS.glob, wraps, plain, Int.ofNat_eq_natCast]; omega)) only [hS.glob, wraps, plain, Int.ofNat_eq_natCast]; omega
            rw [ee]
            exact ⟨rfl, k1, lv', ov', is', iso, emb, o1, q1, xs', cs', rfl, d1 ⟨g0, g1, g2⟩⟩
    · conv => cbv
      repeat (refine ⟨by first | (rw [hW]; show ordOk _ _ _ = true; kernel_rfl) | (first | trivial | omega | (simp (disch := omega) only [hS.glob, wraps, plain, Int.ofNat_eq_natCast]; first | done | omega | trivial | (simp; done) | (simp; omega) | (constructor <;> omega)) | (simp (disch := omega) only [hS.glob, wraps, plain, Int.ofNat_eq_natCast, Vx.toN]; omega)), ?_⟩)
      simp (disch := first | omega | (simp only [hS.glob, wraps, plain, Int.ofNat_eq_natCast]; omega)) only [hS.glob, wraps, plain, Int.ofNat_eq_natCast] at h2
      obtain rfl : odd = 1 := by rw [hodd2, if_pos (by omega)]
      rw [hVV]
      refine V.call rfl rfl rfl rfl rfl Try.func51 rfl (by decide) [0, 4, 5, 6] (by decide) (all_lt (by rfl)) (by (first | rfl | ((conv => cbv); (repeat' apply And.intro) <;> first | rfl | trivial | (first | rfl | omega | (simp (disch := omega) only [hS.glob, wraps, plain, Int.ofNat_eq_natCast]; first | done | rfl | omega | (simp; done) | (simp; omega)) | (simp (disch := omega) only [hS.glob, wraps, plain, Int.ofNat_eq_natCast, Vx.toN]; omega))))) (by rfl) hp ?_
      rintro r Hc (⟨g0, rfl, rfl⟩ | ⟨g0, g1, g2, rfl, rfl⟩)
      · clear hVV hVA VV VA hW W
        refine V.pick [0, 1, 2, 3, 7, 8, 9] (by decide) (pre4 ln l n e base k lv ov is iso emb opn q xs cs hC _) rfl rfl ?_
        refine V.go Try.func39 tl_ok mixed hS.ops [] 400 ?_
        intro VV VA W hVV hVA hW
        conv => cbv
        have ee : iadd .i64 iso 1 = i1 := by simp (disch := first | omega | (simp only [hS.glob, wraps, plain, Int.ofNat_eq_natCast]; omega)) only [hS.glob, wraps, plain, Int.ofNat_eq_natCast]; omega
        rw [ee]
        exact ⟨rfl, k, lv, ov, is, i1, emb, opn, q1, xs', cs', rfl, d2 (by omega)⟩
      · clear hVV hVA VV VA hW W
        refine V.pick [0, 1, 2, 3, 7, 8, 9] (by decide) (pre4 ln l n e base k lv ov is iso emb opn q xs cs hC _) rfl rfl ?_
        refine V.go Try.func39 tl_ok mixed hS.ops [] 400 ?_
        intro VV VA W hVV hVA hW
        conv => cbv
        have ee : iadd .i64 opn 1 = o1 := by simp (disch := first | omega | (simp only [hS.glob, wraps, plain, Int.ofNat_eq_natCast]; omega)) only [hS.glob, wraps, plain, Int.ofNat_eq_natCast]; omega
        rw [ee]
        exact ⟨rfl, k1, lv', ov', is', iso, emb, o1, q1, xs', cs', rfl, d1 ⟨g0, g1, g2⟩⟩
  · conv => cbv
    simp (disch := first | omega | (simp only [hS.glob, wraps, plain, Int.ofNat_eq_natCast]; omega)) only [hS.glob, wraps, plain, Int.ofNat_eq_natCast] at h1
    rw [if_neg h1] at to1
    repeat (refine ⟨by first | (rw [hW]; show ordOk _ _ _ = true; kernel_rfl) | (first | trivial | omega | (simp (disch := omega) only [hS.glob, wraps, plain, Int.ofNat_eq_natCast]; first | done | omega | trivial | (simp; done) | (simp; omega) | (constructor <;> omega)) | (simp (disch := omega) only [hS.glob, wraps, plain, Int.ofNat_eq_natCast, Vx.toN]; omega)), ?_⟩)
    simp only [hS.tidy]
    cases h2 : ieq (l i) 20
    · conv => cbv
      repeat (refine ⟨by first | (rw [hW]; show ordOk _ _ _ = true; kernel_rfl) | (first | trivial | omega | (simp (disch := omega) only [hS.glob, wraps, plain, Int.ofNat_eq_natCast]; first | done | omega | trivial | (simp; done) | (simp; omega) | (constructor <;> omega)) | (simp (disch := omega) only [hS.glob, wraps, plain, Int.ofNat_eq_natCast, Vx.toN]; omega)), ?_⟩)
      simp only [hS.tidy]
      cases h3 : ieq (l i) 21
      · conv => cbv
        repeat (refine ⟨by first | (rw [hW]; show ordOk _ _ _ = true; kernel_rfl) | (first | trivial | omega | (simp (disch := omega) only [hS.glob, wraps, plain, Int.ofNat_eq_natCast]; first | done | omega | trivial | (simp; done) | (simp; omega) | (constructor <;> omega)) | (simp (disch := omega) only [hS.glob, wraps, plain, Int.ofNat_eq_natCast, Vx.toN]; omega)), ?_⟩)
        simp (disch := first | omega | (simp only [hS.glob, wraps, plain, Int.ofNat_eq_natCast]; omega)) only [hS.glob, wraps, plain, Int.ofNat_eq_natCast] at h2 h3
        obtain rfl : odd = 0 := by rw [hodd2, if_neg (by omega)]
        rw [hVV]
        refine V.call rfl rfl rfl rfl rfl Try.func51 rfl (by decide) [0, 4, 5, 6] (by decide) (all_lt (by rfl)) (by (first | rfl | ((conv => cbv); (repeat' apply And.intro) <;> first | rfl | trivial | (first | rfl | omega | (simp (disch := omega) only [hS.glob, wraps, plain, Int.ofNat_eq_natCast]; first | done | rfl | omega | (simp; done) | (simp; omega)) | (simp (disch := omega) only [hS.glob, wraps, plain, Int.ofNat_eq_natCast, Vx.toN]; omega))))) (by rfl) hp ?_
        rintro r Hc (⟨g0, rfl, rfl⟩ | ⟨g0, g1, g2, rfl, rfl⟩)
        · clear hVV hVA VV VA hW W
          refine V.pick [0, 1, 2, 3, 7, 8, 9] (by decide) (pre4 ln l n e base k lv ov is iso emb opn q xs cs hC _) rfl rfl ?_
          refine V.go Try.func39 tl_ok mixed hS.ops [] 400 ?_
          intro VV VA W hVV hVA hW
          conv => cbv
          have ee : iadd .i64 iso 1 = i1 := by simp (disch := first | omega | (simp only [hS.glob, wraps, plain, Int.ofNat_eq_natCast]; omega)) only [hS.glob, wraps, plain, Int.ofNat_eq_natCast]; omega
          rw [ee]
          exact ⟨rfl, k, lv, ov, is, i1, emb, opn, q1, xs', cs', rfl, d2 (by omega)⟩
        · clear hVV hVA VV VA hW W
          refine V.pick [0, 1, 2, 3, 7, 8, 9] (by decide) (pre4 ln l n e base k lv ov is iso emb opn q xs cs hC _) rfl rfl ?_
          refine V.go Try.func39 tl_ok mixed hS.ops [] 400 ?_
          intro VV VA W hVV hVA hW
          conv => cbv
          have ee : iadd .i64 opn 1 = o1 := by simp (disch := first | omega | (simp only [hS.glob, wraps, plain, Int.ofNat_eq_natCast]; omega)) only [hS.glob, wraps, plain, Int.ofNat_eq_natCast]; omega
          rw [ee]
          exact ⟨rfl, k1, lv', ov', is', iso, emb, o1, q1, xs', cs', rfl, d1 ⟨g0, g1, g2⟩⟩
      · conv => cbv
        repeat (refine ⟨by first | (rw [hW]; show ordOk _ _ _ = true; kernel_rfl) | (first | trivial | omega | (simp (disch := omega) only [hS.glob, wraps, plain, Int.ofNat_eq_natCast]; first | done | omega | trivial | (simp; done) | (simp; omega) | (constructor <;> omega)) | (simp (disch := omega) only [hS.glob, wraps, plain, Int.ofNat_eq_natCast, Vx.toN]; omega)), ?_⟩)
        simp (disch := first | omega | (simp only [hS.glob, wraps, plain, Int.ofNat_eq_natCast]; omega)) only [hS.glob, wraps, plain, Int.ofNat_eq_natCast] at h2 h3
        rw [hVA]
        refine AnyT.call rfl rfl rfl rfl rfl Try.func23 rfl (by decide) [] (by decide) (all_lt (by rfl)) (by (first | rfl | ((conv => cbv); (repeat' apply And.intro) <;> first | rfl | trivial | (first | rfl | omega | (simp (disch := omega) only [hS.glob, wraps, plain, Int.ofNat_eq_natCast]; first | done | rfl | omega | (simp; done) | (simp; omega)) | (simp (disch := omega) only [hS.glob, wraps, plain, Int.ofNat_eq_natCast, Vx.toN]; omega))))) (by rfl) (hs (iadd .i64 (ofN i) 1) (e i) (by simp (disch := first | omega | (simp only [hS.glob, wraps, plain, Int.ofNat_eq_natCast]; omega)) only [hS.glob, wraps, plain, Int.ofNat_eq_natCast]; omega) (by omega)) ?_
        rintro r Hc ⟨rfl, rfl⟩
        clear hVV hVA VV VA hW W
        refine AnyT.go Try.func39 tl_ok mixed hS.ops [] 400 ?_
        intro VV VA W hVV hVA hW
        conv => cbv
        cases h4 : ieq sg 1
        · conv => cbv
          simp (disch := first | omega | (simp only [hS.glob, wraps, plain, Int.ofNat_eq_natCast]; omega)) only [hS.glob, wraps, plain, Int.ofNat_eq_natCast] at h4
          obtain rfl : odd = 0 := by rw [hodd2, if_neg (by omega)]
          rw [hVV]
          refine V.call rfl rfl rfl rfl rfl Try.func51 rfl (by decide) [0, 4, 5, 6] (by decide) (all_lt (by rfl)) (by (first | rfl | ((conv => cbv); (repeat' apply And.intro) <;> first | rfl | trivial | (first | rfl | omega | (simp (disch := omega) only [hS.glob, wraps, plain, Int.ofNat_eq_natCast]; first | done | rfl | omega | (simp; done) | (simp; omega)) | (simp (disch := omega) only [hS.glob, wraps, plain, Int.ofNat_eq_natCast, Vx.toN]; omega))))) (by rfl) hp ?_
          rintro r Hc (⟨g0, rfl, rfl⟩ | ⟨g0, g1, g2, rfl, rfl⟩)
          · clear hVV hVA VV VA hW W
            refine V.pick [0, 1, 2, 3, 7, 8, 9] (by decide) (pre4 ln l n e base k lv ov is iso emb opn q xs cs hC _) rfl rfl ?_
            refine V.go Try.func39 tl_ok mixed hS.ops [] 400 ?_
            intro VV VA W hVV hVA hW
            conv => cbv
            have ee : iadd .i64 iso 1 = i1 := by simp (disch := first | omega | (simp only [hS.glob, wraps, plain, Int.ofNat_eq_natCast]; omega)) only [hS.glob, wraps, plain, Int.ofNat_eq_natCast]; omega
            rw [ee]
            exact ⟨rfl, k, lv, ov, is, i1, emb, opn, q1, xs', cs', rfl, d2 (by omega)⟩
          · clear hVV hVA VV VA hW W
            refine V.pick [0, 1, 2, 3, 7, 8, 9] (by decide) (pre4 ln l n e base k lv ov is iso emb opn q xs cs hC _) rfl rfl ?_
            refine V.go Try.func39 tl_ok mixed hS.ops [] 400 ?_
            intro VV VA W hVV hVA hW
            conv => cbv
            have ee : iadd .i64 opn 1 = o1 := by simp (disch := first | omega | (simp only [hS.glob, wraps, plain, Int.ofNat_eq_natCast]; omega)) only [hS.glob, wraps, plain, Int.ofNat_eq_natCast]; omega
            rw [ee]
            exact ⟨rfl, k1, lv', ov', is', iso, emb, o1, q1, xs', cs', rfl, d1 ⟨g0, g1, g2⟩⟩
        · conv => cbv
          simp (disch := first | omega | (simp only [hS.glob, wraps, plain, Int.ofNat_eq_natCast]; omega)) only [hS.glob, wraps, plain, Int.ofNat_eq_natCast] at h4
          obtain rfl : odd = 1 := by rw [hodd2, if_pos (by omega)]
          rw [hVV]
          refine V.call rfl rfl rfl rfl rfl Try.func51 rfl (by decide) [0, 4, 5, 6] (by decide) (all_lt (by rfl)) (by (first | rfl | ((conv => cbv); (repeat' apply And.intro) <;> first | rfl | trivial | (first | rfl | omega | (simp (disch := omega) only [hS.glob, wraps, plain, Int.ofNat_eq_natCast]; first | done | rfl | omega | (simp; done) | (simp; omega)) | (simp (disch := omega) only [hS.glob, wraps, plain, Int.ofNat_eq_natCast, Vx.toN]; omega))))) (by rfl) hp ?_
          rintro r Hc (⟨g0, rfl, rfl⟩ | ⟨g0, g1, g2, rfl, rfl⟩)
          · clear hVV hVA VV VA hW W
            refine V.pick [0, 1, 2, 3, 7, 8, 9] (by decide) (pre4 ln l n e base k lv ov is iso emb opn q xs cs hC _) rfl rfl ?_
            refine V.go Try.func39 tl_ok mixed hS.ops [] 400 ?_
            intro VV VA W hVV hVA hW
            conv => cbv
            have ee : iadd .i64 iso 1 = i1 := by simp (disch := first | omega | (simp only [hS.glob, wraps, plain, Int.ofNat_eq_natCast]; omega)) only [hS.glob, wraps, plain, Int.ofNat_eq_natCast]; omega
            rw [ee]
            exact ⟨rfl, k, lv, ov, is, i1, emb, opn, q1, xs', cs', rfl, d2 (by omega)⟩
          · clear hVV hVA VV VA hW W
            refine V.pick [0, 1, 2, 3, 7, 8, 9] (by decide) (pre4 ln l n e base k lv ov is iso emb opn q xs cs hC _) rfl rfl ?_
            refine V.go Try.func39 tl_ok mixed hS.ops [] 400 ?_
            intro VV VA W hVV hVA hW
            conv => cbv
            have ee : iadd .i64 opn 1 = o1 := by simp (disch := first | omega | (simp only [hS.glob, wraps, plain, Int.ofNat_eq_natCast]; omega)) only [hS.glob, wraps, plain, Int.ofNat_eq_natCast]; omega
            rw [ee]
            exact ⟨rfl, k1, lv', ov', is', iso, emb, o1, q1, xs', cs', rfl, d1 ⟨g0, g1, g2⟩⟩
    · conv => cbv
      repeat (refine ⟨by first | (rw [hW]; show ordOk _ _ _ = true; kernel_rfl) | (first | trivial | omega | (simp (disch := omega) only [hS.glob, wraps, plain, Int.ofNat_eq_natCast]; first | done | omega | trivial | (simp; done) | (simp; omega) | (constructor <;> omega)) | (simp (disch := omega) only [hS.glob, wraps, plain, Int.ofNat_eq_natCast, Vx.toN]; omega)), ?_⟩)
      simp (disch := first | omega | (simp only [hS.glob, wraps, plain, Int.ofNat_eq_natCast]; omega)) only [hS.glob, wraps, plain, Int.ofNat_eq_natCast] at h2
      obtain rfl : odd = 1 := by rw [hodd2, if_pos (by omega)]
      rw [hVV]
      refine V.call rfl rfl rfl rfl rfl Try.func51 rfl (by decide) [0, 4, 5, 6] (by decide) (all_lt (by rfl)) (by (first | rfl | ((conv => cbv); (repeat' apply And.intro) <;> first | rfl | trivial | (first | rfl | omega | (simp (disch := omega) only [hS.glob, wraps, plain, Int.ofNat_eq_natCast]; first | done | rfl | omega | (simp; done) | (simp; omega)) | (simp (disch := omega) only [hS.glob, wraps, plain, Int.ofNat_eq_natCast, Vx.toN]; omega))))) (by rfl) hp ?_
      rintro r Hc (⟨g0, rfl, rfl⟩ | ⟨g0, g1, g2, rfl, rfl⟩)
      · clear hVV hVA VV VA hW W
        refine V.pick [0, 1, 2, 3, 7, 8, 9] (by decide) (pre4 ln l n e base k lv ov is iso emb opn q xs cs hC _) rfl rfl ?_
        refine V.go Try.func39 tl_ok mixed hS.ops [] 400 ?_
        intro VV VA W hVV hVA hW
        conv => cbv
        have ee : iadd .i64 iso 1 = i1 := by simp (disch := first | omega | (simp only [hS.glob, wraps, plain, Int.ofNat_eq_natCast]; omega)) only [hS.glob, wraps, plain, Int.ofNat_eq_natCast]; omega
        rw [ee]
        exact ⟨rfl, k, lv, ov, is, i1, emb, opn, q1, xs', cs', rfl, d2 (by omega)⟩
      · clear hVV hVA VV VA hW W
        refine V.pick [0, 1, 2, 3, 7, 8, 9] (by decide) (pre4 ln l n e base k lv ov is iso emb opn q xs cs hC _) rfl rfl ?_
        refine V.go Try.func39 tl_ok mixed hS.ops [] 400 ?_
        intro VV VA W hVV hVA hW
        conv => cbv
        have ee : iadd .i64 opn 1 = o1 := by simp (disch := first | omega | (simp only [hS.glob, wraps, plain, Int.ofNat_eq_natCast]; omega)) only [hS.glob, wraps, plain, Int.ofNat_eq_natCast]; omega
        rw [ee]
        exact ⟨rfl, k1, lv', ov', is', iso, emb, o1, q1, xs', cs', rfl, d1 ⟨g0, g1, g2⟩⟩
end Go.Proofs.Ytihmolafajmbjaa

namespace Go.Proofs.Ytihmolafajmbjaa
open Go Vx

theorem f37_ok (ln : Nat) (l : Nat → Int) (hl : ln ≤ 1000000) : FSpec Try.prog 37 [.rows 1 ln (icol .i64 l)] [] (fun r H' => r = .sl 0 0 (ln) ∧ H' = [some ⟨34, 1, .arr (ln) (icol .i64 (l))⟩]) := by
  have run : FSpec Try.prog 37 [.rows 1 ln (icol .i64 l)] [] (fun r H' => ∃ x g, (ln = 0 ∧ r = .nil .slice ∧ H' = []) ∨ (r = .sl 1 0 (ln) ∧ H' = [x, some ⟨34, 1, .arr (ln) g⟩] ∧ ∀ i, i < ln → g i = icol .i64 (l) i)) := by
    refine FSpec.of (fn := Try.f37) Try.func37 rfl rfl (by simp) fun C hC => ?_
    obtain ⟨iadd, isub, imul, iquo, irem, iband, ibor, ibxor, ibandn, ishl, ishr, iconv, ieq, ine, ilt, ile, igt, ige, bbeq, bbne, bnot, bband, sseq, ssne, sscat, sssub, sslen, sssz, ssbyte, toN, ofN, addN, subN, eqN, ltB, leN, imx, imn, inb, leb, sslt, ltN, fit, ne0, ge0, ssfit, minN, inR, hS⟩ := names
    refine V.go Try.func37 tl_ok mixed hS.ops [] 400 ?_
    intro VV VA W hVV hVA hW
    conv => cbv
    rw [hVV]
    refine V.isNil tl_ok rfl rfl rfl rfl rfl rfl fun b hb => ?_
    clear hVV hVA VV VA hW W
    refine V.go Try.func37 tl_ok mixed hS.ops [] 400 ?_
    intro VV VA W hVV hVA hW
    conv => cbv
    cases b
    · conv => cbv
      repeat (refine ⟨by first | (rw [hW]; show ordOk _ _ _ = true; kernel_rfl) | (first | trivial | omega | (simp (disch := omega) only [hS.glob, wraps, plain, Int.ofNat_eq_natCast]; first | done | omega | trivial | (simp; done) | (simp; omega) | (constructor <;> omega)) | (simp (disch := omega) only [hS.glob, wraps, plain, Int.ofNat_eq_natCast, Vx.toN]; omega)), ?_⟩)
      have e : addN 0 (ln) = ln := by simp (disch := first | omega | (simp only [hS.glob, wraps, plain, Int.ofNat_eq_natCast]; omega)) only [hS.glob, wraps, plain, Int.ofNat_eq_natCast]; omega
      rw [e]
      refine ⟨_, _, .inr ⟨rfl, rfl, fun i hi => ?_⟩⟩
      simp only [icol]
      cases hr : ltB i 0
      · simp [hS.glob, Vx.subN]
      · simp (disch := first | omega | (simp only [hS.glob, wraps, plain, Int.ofNat_eq_natCast]; omega)) only [hS.glob, wraps, plain, Int.ofNat_eq_natCast] at hr; omega
    · conv => cbv
      exact ⟨none, fun _ => [], .inl ⟨hb rfl, rfl, rfl⟩⟩
  refine FSpec.repick (FSpec.weaken (FSpec.unnil run (Q' := fun r H' => ∃ x, r.bnd H'.length = true ∧ ((ln = 0 ∧ r = .sl 0 0 0 ∧ H' = [some ⟨34, 1, .arr 0 (icol .i64 (l))⟩]) ∨ ∃ g, r = .sl 1 0 (ln) ∧ H' = [x, some ⟨34, 1, .arr (ln) g⟩] ∧ ∀ i, i < ln → g i = icol .i64 (l) i)) ?_) (Q' := fun r H' => (ln = 0 ∧ r = .sl 0 0 0 ∧ H' = [some ⟨34, 1, .arr 0 (icol .i64 (l))⟩]) ∨ (r = .sl 1 0 (ln) ∧ H' = [none, some ⟨34, 1, .arr (ln) (icol .i64 (l))⟩])) ?_) ?_
  · rintro r H' ⟨x, g, ⟨h1, rfl, rfl⟩ | ⟨rfl, rfl, hg⟩⟩
    · exact .inr ⟨rfl, 34, 1, icol .i64 (l), none, rfl, .inl ⟨h1, rfl, rfl⟩⟩
    · exact .inl ⟨x, rfl, .inr ⟨g, rfl, rfl, hg⟩⟩
  · rintro r H' ⟨x, _, ⟨h1, rfl, rfl⟩ | ⟨g, rfl, rfl, hg⟩⟩
    · exact ⟨[some ⟨34, 1, .arr 0 (icol .i64 (l))⟩], ⟨⟨rfl, rfl, ⟨Nat.le_refl _, fun _ _ => rfl⟩, rfl⟩, trivial⟩, rfl, by simp, .inl ⟨h1, rfl, rfl⟩⟩
    · exact ⟨[none, some ⟨34, 1, .arr (ln) (icol .i64 (l))⟩], ⟨⟨rfl, rfl, ⟨Nat.le_refl _, fun i hi => (hg i hi).symm⟩, rfl⟩, trivial⟩, rfl, by simp, .inr ⟨rfl, rfl⟩⟩
  · rintro r H' (⟨h1, rfl, rfl⟩ | ⟨rfl, rfl⟩)
    · exact ⟨[0], by decide, fun k hk => by simp at hk, by rw [h1]; exact ⟨rfl, rfl⟩⟩
    · exact ⟨[1], by decide, fun k hk => by simp at hk, ⟨rfl, rfl⟩⟩
end Go.Proofs.Ytihmolafajmbjaa

namespace Go.Proofs.Ytihmolafajmbjaa
open Go Vx

def kn (l : Nat → Int) (i : Nat) : Int := knownC (l i)
theorem f25_ok1 (ln : Nat) (l : Nat → Int) (hl : ln ≤ 1000000) : FSpec Try.prog 25 [.rows 1 ln (icol .i64 l)] [] (fun r H' => ∃ g, r = .sl 0 0 (ln) ∧ H' = [some ⟨34, 1, .arr (ln) (icol .i64 g)⟩] ∧ ∀ i, i < ln → g i = kn l i) := by
  refine FSpec.of (fn := Try.f25) Try.func25 rfl rfl (by simp) fun C hC => ?_
  obtain ⟨iadd, isub, imul, iquo, irem, iband, ibor, ibxor, ibandn, ishl, ishr, iconv, ieq, ine, ilt, ile, igt, ige, bbeq, bbne, bnot, bband, sseq, ssne, sscat, sssub, sslen, sssz, ssbyte, toN, ofN, addN, subN, eqN, ltB, leN, imx, imn, inb, leb, sslt, ltN, fit, ne0, ge0, ssfit, minN, inR, hS⟩ := names
  refine V.go Try.func25 tl_ok mixed hS.ops [] 400 ?_
  intro VV VA W hVV hVA hW
  conv => cbv
  rw [hVV]
  refine V.call rfl rfl rfl rfl rfl Try.func37 rfl (by decide) [] (by simp) (by simp) (by (first | rfl | ((conv => cbv); (repeat' apply And.intro) <;> first | rfl | trivial | (first | rfl | omega | (simp (disch := omega) only [hS.glob, wraps, plain, Int.ofNat_eq_natCast]; first | done | rfl | omega | (simp; done) | (simp; omega)) | (simp (disch := omega) only [hS.glob, wraps, plain, Int.ofNat_eq_natCast, Vx.toN]; omega))))) rfl (f37_ok ln l hl) ?_
  rintro r Hc ⟨rfl, rfl⟩
  clear hVV hVA VV VA hW W
  refine V.go Try.func25 tl_ok mixed hS.ops [] 400 ?_
  intro VV VA W hVV hVA hW
  conv => cbv
  rw [hVV]
  clear hVV hVA VV VA hW W
  refine V.to (s' := [(9, .int .i64 (ofN 0)), (8, .int .i64 (ofN (ln))), (7, .sl 0 0 (ln)), (0, .sl 0 0 (ln))]) (H' := [some ⟨34, 1, .arr (ln) (icol .i64 (l))⟩]) ?_ (by (repeat' first | exact trivial | rfl | (refine And.intro ?_ ?_) | (refine sti ?_; (first | rfl | omega | (simp (disch := omega) only [hS.glob, wraps, plain, Int.ofNat_eq_natCast]; first | done | rfl | omega | (simp; done) | (simp; omega)) | (simp (disch := omega) only [hS.glob, wraps, plain, Int.ofNat_eq_natCast, Vx.toN]; omega))) | (refine slq ?_ ?_ ?_ <;> (first | rfl | omega | (simp (disch := omega) only [hS.glob, wraps, plain, Int.ofNat_eq_natCast]; first | done | rfl | omega | (simp; done) | (simp; omega)) | (simp (disch := omega) only [hS.glob, wraps, plain, Int.ofNat_eq_natCast, Vx.toN]; omega))) | (refine ptq ?_ ?_ ?_ <;> (first | rfl | omega | (simp (disch := omega) only [hS.glob, wraps, plain, Int.ofNat_eq_natCast]; first | done | rfl | omega | (simp; done) | (simp; omega)) | (simp (disch := omega) only [hS.glob, wraps, plain, Int.ofNat_eq_natCast, Vx.toN]; omega))) | (refine blq ?_; (first | rfl | omega | (simp (disch := omega) only [hS.glob, wraps, plain, Int.ofNat_eq_natCast]; first | done | rfl | omega | (simp; done) | (simp; omega)) | (simp (disch := omega) only [hS.glob, wraps, plain, Int.ofNat_eq_natCast, Vx.toN]; omega))))) rfl (by (repeat' first | exact trivial | rfl | exact Nat.le_refl _ | exact (fun _ _ => rfl) | (refine And.intro ?_ ?_) | (simp only [hS.glob, plain]; first | done | omega))) (by rw [hC]; simp)
  refine V.loop (γ := Nat × (Nat → Int)) (fun p => p.1 ≤ ln ∧ ∀ j, j < ln → p.2 j = if j < p.1 then kn l j else l j) (fun p => [(9, .int .i64 (ofN p.1)), (8, .int .i64 (ofN (ln))), (7, .sl 0 0 (ln)), (0, .sl 0 0 (ln))]) (fun p => [some ⟨34, 1, .arr (ln) (icol .i64 p.2)⟩]) (fun p => ln - p.1) ?_ (0, l) ⟨by simp, fun j hj => by simp⟩
  rintro ⟨i, g⟩ ⟨hi, hg⟩ hback
  dsimp only at hi hg ⊢
  refine V.go Try.func25 tl_ok mixed hS.ops [] 400 ?_
  intro VV VA W hVV hVA hW
  conv => cbv
  split <;> rename_i h1
  rotate_left
  · conv => cbv
    simp (disch := first | omega | (simp only [hS.glob, wraps, plain, Int.ofNat_eq_natCast]; omega)) only [hS.glob, wraps, plain, Int.ofNat_eq_natCast] at h1
    refine ⟨g, rfl, rfl, fun j hj => ?_⟩
    rw [hg j hj, if_pos (by omega)]
  · conv => cbv
    simp (disch := first | omega | (simp only [hS.glob, wraps, plain, Int.ofNat_eq_natCast]; omega)) only [hS.glob, wraps, plain, Int.ofNat_eq_natCast] at h1
    repeat (refine ⟨by first | (rw [hW]; show ordOk _ _ _ = true; kernel_rfl) | (first | trivial | omega | (simp (disch := omega) only [hS.glob, wraps, plain, Int.ofNat_eq_natCast]; first | done | omega | trivial | (simp; done) | (simp; omega) | (constructor <;> omega)) | (simp (disch := omega) only [hS.glob, wraps, plain, Int.ofNat_eq_natCast, Vx.toN]; omega)), ?_⟩)
    simp only [hS.tidy] at h1 ⊢
    have gi : g i = l i := by rw [hg i (by omega), if_neg (by omega)]
    have keep : ¬ (l i < 0 ∨ l i > 22) → ∀ j, j < ln → g j = if j < i + 1 then kn l j else l j := by
      intro hk j hj
      rw [hg j hj]
      by_cases h : j < i
      · rw [if_pos h, if_pos (by omega)]
      · by_cases h2 : j = i
        · subst h2
          rw [if_neg h, if_pos (by omega), kn, knownC, if_neg hk]
        · rw [if_neg h, if_neg (by omega)]
    have turn : (l i < 0 ∨ l i > 22) → ∀ j, j < ln → (if j = i then 13 else g j) = if j < i + 1 then kn l j else l j := by
      intro hk j hj
      by_cases h2 : j = i
      · subst h2
        rw [if_pos rfl, if_pos (by omega), kn, knownC, if_pos hk]
      · rw [if_neg h2, hg j hj]
        by_cases h : j < i
        · rw [if_pos h, if_pos (by omega)]
        · rw [if_neg h, if_neg (by omega)]
    cases h2 : ilt (g i) 0
    · conv => cbv
      simp (disch := first | omega | (simp only [hS.glob, wraps, plain, Int.ofNat_eq_natCast]; omega)) only [hS.glob, wraps, plain, Int.ofNat_eq_natCast] at h2
      rw [gi] at h2
      cases h3 : igt (g i) 22
      · conv => cbv
        simp (disch := first | omega | (simp only [hS.glob, wraps, plain, Int.ofNat_eq_natCast]; omega)) only [hS.glob, wraps, plain, Int.ofNat_eq_natCast] at h3
        rw [gi] at h3
        rw [hVV]
        exact V.to (hback (i + 1, g) ⟨by simp only; omega, keep (by omega)⟩ (by simp only; omega)) (by (repeat' first | exact trivial | rfl | (refine And.intro ?_ ?_) | (refine sti ?_; (first | rfl | omega | (simp (disch := omega) only [hS.glob, wraps, plain, Int.ofNat_eq_natCast]; first | done | rfl | omega | (simp; done) | (simp; omega)) | (simp (disch := omega) only [hS.glob, wraps, plain, Int.ofNat_eq_natCast, Vx.toN]; omega))) | (refine slq ?_ ?_ ?_ <;> (first | rfl | omega | (simp (disch := omega) only [hS.glob, wraps, plain, Int.ofNat_eq_natCast]; first | done | rfl | omega | (simp; done) | (simp; omega)) | (simp (disch := omega) only [hS.glob, wraps, plain, Int.ofNat_eq_natCast, Vx.toN]; omega))) | (refine ptq ?_ ?_ ?_ <;> (first | rfl | omega | (simp (disch := omega) only [hS.glob, wraps, plain, Int.ofNat_eq_natCast]; first | done | rfl | omega | (simp; done) | (simp; omega)) | (simp (disch := omega) only [hS.glob, wraps, plain, Int.ofNat_eq_natCast, Vx.toN]; omega))) | (refine blq ?_; (first | rfl | omega | (simp (disch := omega) only [hS.glob, wraps, plain, Int.ofNat_eq_natCast]; first | done | rfl | omega | (simp; done) | (simp; omega)) | (simp (disch := omega) only [hS.glob, wraps, plain, Int.ofNat_eq_natCast, Vx.toN]; omega))))) rfl (by (repeat' first | exact trivial | rfl | exact Nat.le_refl _ | exact (fun _ _ => rfl) | (refine And.intro ?_ ?_) | (simp only [hS.glob, plain]; first | done | omega))) (by rw [hC]; simp)
      · conv => cbv
        simp (disch := first | omega | (simp only [hS.glob, wraps, plain, Int.ofNat_eq_natCast]; omega)) only [hS.glob, wraps, plain, Int.ofNat_eq_natCast] at h3
        rw [gi] at h3
        repeat (refine ⟨by first | (rw [hW]; show ordOk _ _ _ = true; kernel_rfl) | (first | trivial | omega | (simp (disch := omega) only [hS.glob, wraps, plain, Int.ofNat_eq_natCast]; first | done | omega | trivial | (simp; done) | (simp; omega) | (constructor <;> omega)) | (simp (disch := omega) only [hS.glob, wraps, plain, Int.ofNat_eq_natCast, Vx.toN]; omega)), ?_⟩)
        rw [hVV]
        refine V.to (hback (i + 1, fun j => if j = i then 13 else g j) ⟨by simp only; omega, turn (by omega)⟩ (by simp only; omega)) (by (repeat' first | exact trivial | rfl | (refine And.intro ?_ ?_) | (refine sti ?_; (first | rfl | omega | (simp (disch := omega) only [hS.glob, wraps, plain, Int.ofNat_eq_natCast]; first | done | rfl | omega | (simp; done) | (simp; omega)) | (simp (disch := omega) only [hS.glob, wraps, plain, Int.ofNat_eq_natCast, Vx.toN]; omega))) | (refine slq ?_ ?_ ?_ <;> (first | rfl | omega | (simp (disch := omega) only [hS.glob, wraps, plain, Int.ofNat_eq_natCast]; first | done | rfl | omega | (simp; done) | (simp; omega)) | (simp (disch := omega) only [hS.glob, wraps, plain, Int.ofNat_eq_natCast, Vx.toN]; omega))) | (refine ptq ?_ ?_ ?_ <;> (first | rfl | omega | (simp (disch := omega) only [hS.glob, wraps, plain, Int.ofNat_eq_natCast]; first | done | rfl | omega | (simp; done) | (simp; omega)) | (simp (disch := omega) only [hS.glob, wraps, plain, Int.ofNat_eq_natCast, Vx.toN]; omega))) | (refine blq ?_; (first | rfl | omega | (simp (disch := omega) only [hS.glob, wraps, plain, Int.ofNat_eq_natCast]; first | done | rfl | omega | (simp; done) | (simp; omega)) | (simp (disch := omega) only [hS.glob, wraps, plain, Int.ofNat_eq_natCast, Vx.toN]; omega))))) rfl ?_ (by rw [hC]; simp)
        (repeat' first | exact trivial | rfl | exact Nat.le_refl _ | exact (fun _ _ => rfl) | (refine And.intro ?_ ?_) | (simp only [hS.glob, plain]; first | done | omega))
        intro j hj
        simp only [icol, hS.tidy]
        cases hr : eqN j i
        · simp only [hS.glob, plain] at hr
          rw [if_neg hr]
        · simp only [hS.glob, plain] at hr
          rw [if_pos hr]
          rfl
    · conv => cbv
      simp (disch := first | omega | (simp only [hS.glob, wraps, plain, Int.ofNat_eq_natCast]; omega)) only [hS.glob, wraps, plain, Int.ofNat_eq_natCast] at h2
      rw [gi] at h2
      repeat (refine ⟨by first | (rw [hW]; show ordOk _ _ _ = true; kernel_rfl) | (first | trivial | omega | (simp (disch := omega) only [hS.glob, wraps, plain, Int.ofNat_eq_natCast]; first | done | omega | trivial | (simp; done) | (simp; omega) | (constructor <;> omega)) | (simp (disch := omega) only [hS.glob, wraps, plain, Int.ofNat_eq_natCast, Vx.toN]; omega)), ?_⟩)
      rw [hVV]
      refine V.to (hback (i + 1, fun j => if j = i then 13 else g j) ⟨by simp only; omega, turn (by omega)⟩ (by simp only; omega)) (by (repeat' first | exact trivial | rfl | (refine And.intro ?_ ?_) | (refine sti ?_; (first | rfl | omega | (simp (disch := omega) only [hS.glob, wraps, plain, Int.ofNat_eq_natCast]; first | done | rfl | omega | (simp; done) | (simp; omega)) | (simp (disch := omega) only [hS.glob, wraps, plain, Int.ofNat_eq_natCast, Vx.toN]; omega))) | (refine slq ?_ ?_ ?_ <;> (first | rfl | omega | (simp (disch := omega) only [hS.glob, wraps, plain, Int.ofNat_eq_natCast]; first | done | rfl | omega | (simp; done) | (simp; omega)) | (simp (disch := omega) only [hS.glob, wraps, plain, Int.ofNat_eq_natCast, Vx.toN]; omega))) | (refine ptq ?_ ?_ ?_ <;> (first | rfl | omega | (simp (disch := omega) only [hS.glob, wraps, plain, Int.ofNat_eq_natCast]; first | done | rfl | omega | (simp; done) | (simp; omega)) | (simp (disch := omega) only [hS.glob, wraps, plain, Int.ofNat_eq_natCast, Vx.toN]; omega))) | (refine blq ?_; (first | rfl | omega | (simp (disch := omega) only [hS.glob, wraps, plain, Int.ofNat_eq_natCast]; first | done | rfl | omega | (simp; done) | (simp; omega)) | (simp (disch := omega) only [hS.glob, wraps, plain, Int.ofNat_eq_natCast, Vx.toN]; omega))))) rfl ?_ (by rw [hC]; simp)
      (repeat' first | exact trivial | rfl | exact Nat.le_refl _ | exact (fun _ _ => rfl) | (refine And.intro ?_ ?_) | (simp only [hS.glob, plain]; first | done | omega))
      intro j hj
      simp only [icol, hS.tidy]
      cases hr : eqN j i
      · simp only [hS.glob, plain] at hr
        rw [if_neg hr]
      · simp only [hS.glob, plain] at hr
        rw [if_pos hr]
        rfl
theorem f25_ok (ln : Nat) (l : Nat → Int) (hl : ln ≤ 1000000) : FSpec Try.prog 25 [.rows 1 ln (icol .i64 l)] [] (fun r H' => r = .sl 0 0 (ln) ∧ H' = [some ⟨34, 1, .arr (ln) (icol .i64 (kn l))⟩]) := by
  refine (f25_ok1 ln l hl).weaken ?_
  rintro r H' ⟨g, rfl, rfl, hg⟩
  exact ⟨[some ⟨34, 1, .arr (ln) (icol .i64 (kn l))⟩], ⟨⟨rfl, rfl, ⟨Nat.le_refl _, fun i hi => by simp only [icol, hg i hi]⟩, rfl⟩, trivial⟩, rfl, by simp, rfl, rfl⟩
end Go.Proofs.Ytihmolafajmbjaa

/- One scalar's step, and what holds of the machine behind any number of them. -/
namespace Go.Proofs.Ytihmolafajmbjaa
open Go Vx

/-- What the machine does with a class; odd: what an isolate's levels are. -/
def stepM (base odd c : Int) (m : Ms) : Ms :=
  if c = 16 ∨ c = 14 ∨ c = 17 ∨ c = 15 then embM c m
  else if c = 20 ∨ c = 19 ∨ c = 21 then isoM odd c m
  else if c = 22 then closingM c m
  else if c = 18 then popM c m
  else if c = 10 then parM base c m
  else if c = 9 then removedM c m
  else plainM c m
def runM (base : Int) (odd : Nat → Int) (l : Nat → Int) : Nat → Ms
  | 0 => ⟨[(base, 13, false)], 0, 0, 0, [], []⟩
  | i + 1 => stepM base (odd i) (l i) (runM base odd l i)

structure Good (base : Int) (i : Nat) (m : Ms) : Prop where
  len : m.st.length ≤ i + 1
  lev : ∀ p ∈ m.st, base ≤ p.1 ∧ p.1 ≤ 125
  iso : 0 ≤ m.iso ∧ m.iso ≤ i
  emb : 0 ≤ m.emb ∧ m.emb ≤ i
  opn : m.opn = (m.st.countP (fun p => p.2.2) : Nat)
  hd : (m.st.headD (0, 0, true)).2.2 = false
  xs : m.xs.length = i
  cs : m.cs.length = i

theorem snoc_of {α : Type} {l : List α} (h : l ≠ []) : ∃ s x, l = s ++ [x] := ⟨l.dropLast, l.getLast h, (List.dropLast_concat_getLast h).symm⟩
theorem headD_snoc {α : Type} {s : List α} (x d : α) (h : s ≠ []) : (s ++ [x]).headD d = s.headD d := by
  cases s with
  | nil => exact absurd rfl h
  | cons a b => rfl
theorem hd_ne {st : List (Int × Int × Bool)} (h : (st.headD (0, 0, true)).2.2 = false) : st ≠ [] := by
  intro e; subst e; cases h
theorem Good.ne {base : Int} {i : Nat} {m : Ms} (h : Good base i m) : m.st ≠ [] := hd_ne h.hd
theorem Good.top {base : Int} {i : Nat} {m : Ms} (h : Good base i m) : base ≤ (topM m).1 ∧ (topM m).1 ≤ 125 := by
  obtain ⟨s, x, hs⟩ := snoc_of h.ne
  refine h.lev _ ?_
  simp [topM, hs]
theorem Good.start (base : Int) (hb : 0 ≤ base ∧ base ≤ 1) : Good base 0 ⟨[(base, 13, false)], 0, 0, 0, [], []⟩ :=
  ⟨by simp, by simp; omega, by simp, by simp, by simp, rfl, rfl, rfl⟩
/-- Only the stack, the numbers. -/
structure Good0 (base : Int) (i : Nat) (m : Ms) : Prop where
  len : m.st.length ≤ i + 1
  lev : ∀ p ∈ m.st, base ≤ p.1 ∧ p.1 ≤ 125
  iso : 0 ≤ m.iso ∧ m.iso ≤ i
  emb : 0 ≤ m.emb ∧ m.emb ≤ i
  opn : m.opn = (m.st.countP (fun p => p.2.2) : Nat)
  hd : (m.st.headD (0, 0, true)).2.2 = false
theorem Good.put {base : Int} {i : Nat} {m m' : Ms} (x c : Int) (h : Good base i m) (h' : Good0 base (i + 1) m') (hx : m'.xs = m.xs) (hc : m'.cs = m.cs) : Good base (i + 1) (putM x c m') :=
  ⟨h'.len, h'.lev, h'.iso, h'.emb, h'.opn, h'.hd, by simp [putM, hx, h.xs], by simp [putM, hc, h.cs]⟩
theorem Good.zero {base : Int} {i : Nat} {m : Ms} (h : Good base i m) : Good0 base (i + 1) m :=
  ⟨by have := h.len; omega, h.lev, by have := h.iso; omega, by have := h.emb; omega, h.opn, h.hd⟩
theorem next_ge {t odd : Int} (ho : 0 ≤ odd ∧ odd ≤ 1) : t + 1 ≤ nextLv t odd := by unfold nextLv; omega
/-- One more on the stack. -/
theorem good_push {base : Int} {i : Nat} {m : Ms} (odd ov : Int) (b : Bool) (ho : 0 ≤ odd ∧ odd ≤ 1) (hl : m.st.length ≤ i + 1) (lev : ∀ p ∈ m.st, base ≤ p.1 ∧ p.1 ≤ 125) (hd : (m.st.headD (0, 0, true)).2.2 = false) (hcan : canP odd m = true) :
    (pushM odd ov b m).st.length ≤ i + 1 + 1 ∧ (∀ p ∈ (pushM odd ov b m).st, base ≤ p.1 ∧ p.1 ≤ 125) ∧ (((pushM odd ov b m).st.headD (0, 0, true)).2.2 = false) ∧ (pushM odd ov b m).st.countP (fun p => p.2.2) = m.st.countP (fun p => p.2.2) + (if b then 1 else 0) := by
  have ne := hd_ne hd
  refine ⟨by simp [pushM]; omega, fun p hp => ?_, ?_, ?_⟩
  · simp only [pushM, List.mem_append, List.mem_singleton] at hp
    rcases hp with hp | rfl
    · exact lev p hp
    · obtain ⟨s, x, hs⟩ := snoc_of ne
      have hx := lev x (by simp [hs])
      have : topM m = x := by simp [topM, hs]
      rw [this]
      simp only [canP, this, Bool.and_eq_true, decide_eq_true_eq] at hcan
      have := next_ge (t := x.1) ho
      exact ⟨by simp only; omega, hcan.1.1⟩
  · rw [pushM, headD_snoc _ _ ne]; exact hd
  · simp only [pushM, List.countP_append, List.countP_cons, List.countP_nil]
    cases b <;> simp
/-- The last taken from the stack. -/
theorem good_drop {base : Int} {st : List (Int × Int × Bool)} (lev : ∀ p ∈ st, base ≤ p.1 ∧ p.1 ≤ 125) (hd : (st.headD (0, 0, true)).2.2 = false) (h : 1 < st.length) :
    st.dropLast.length + 1 = st.length ∧ (∀ p ∈ st.dropLast, base ≤ p.1 ∧ p.1 ≤ 125) ∧ ((st.dropLast.headD (0, 0, true)).2.2 = false) ∧ st.countP (fun p => p.2.2) = st.dropLast.countP (fun p => p.2.2) + (if (st.getLastD (0, 13, false)).2.2 then 1 else 0) := by
  obtain ⟨s, x, rfl⟩ := snoc_of (hd_ne hd)
  have hs : s ≠ [] := by intro e; subst e; simp at h
  simp only [List.dropLast_concat]
  refine ⟨by simp, fun p hp => lev p (by simp [hp]), by rw [headD_snoc _ _ hs] at hd; exact hd, ?_⟩
  rw [show (s ++ [x]).getLastD (0, 13, false) = x by simp]
  simp only [List.countP_append, List.countP_cons, List.countP_nil]
  omega
theorem good_cut {base : Int} : ∀ (f : Nat) (st : List (Int × Int × Bool)), st.length ≤ f → (∀ p ∈ st, base ≤ p.1 ∧ p.1 ≤ 125) → (st.headD (0, 0, true)).2.2 = false → 0 < st.countP (fun p => p.2.2) →
    (cutI f st).length ≤ st.length ∧ (∀ p ∈ cutI f st, base ≤ p.1 ∧ p.1 ≤ 125) ∧ ((cutI f st).headD (0, 0, true)).2.2 = false ∧ (cutI f st).countP (fun p => p.2.2) + 1 = st.countP (fun p => p.2.2)
  | 0, st, hf, _, hd, _ => absurd (List.eq_nil_of_length_eq_zero (by omega)) (hd_ne hd)
  | f + 1, st, hf, lev, hd, hc => by
    have h1 : 1 < st.length := by
      match st, hd, hc with
      | [p], hd, hc => simp at hd; simp [hd] at hc
      | _ :: _ :: _, _, _ => simp
    obtain ⟨d1, d2, d3, d4⟩ := good_drop lev hd h1
    rw [cutI]
    split
    · rename_i h
      rw [if_pos h] at d4
      exact ⟨by omega, d2, d3, by omega⟩
    · rename_i h
      rw [if_neg h] at d4
      obtain ⟨c1, c2, c3, c4⟩ := good_cut f st.dropLast (by omega) d2 d3 (by omega)
      exact ⟨by omega, c2, c3, by omega⟩

theorem good_step {base : Int} (hb : 0 ≤ base ∧ base ≤ 1) {i : Nat} {m : Ms} (h : Good base i m) (odd c : Int) (ho : 0 ≤ odd ∧ odd ≤ 1) : Good base (i + 1) (stepM base odd c m) := by
  have z := h.zero
  unfold stepM
  split
  · unfold embM removedM
    refine h.put _ _ ?_ (by split <;> (try split) <;> rfl) (by split <;> (try split) <;> rfl)
    split
    · rename_i hcan
      have ho' : 0 ≤ oddM c ∧ oddM c ≤ 1 := by unfold oddM; split <;> omega
      obtain ⟨p1, p2, p3, p4⟩ := good_push (i := i) (oddM c) (ovM c) false ho' h.len h.lev h.hd hcan
      exact ⟨p1, p2, z.iso, z.emb, by rw [p4]; simp only [Bool.false_eq_true, if_false, Nat.add_zero]; exact h.opn, p3⟩
    · split
      · exact ⟨z.len, z.lev, z.iso, by have := h.emb; simp only; omega, z.opn, z.hd⟩
      · exact z
  split
  · unfold isoM
    have g : Good base (i + 1) (plainM c m) := h.put _ _ z rfl rfl
    have g0 : (plainM c m).st = m.st ∧ (plainM c m).iso = m.iso := ⟨rfl, rfl⟩
    dsimp only
    split
    · rename_i hcan
      obtain ⟨p1, p2, p3, p4⟩ := good_push (i := i) odd 13 true ho (m := plainM c m) (by rw [g0.1]; exact h.len) g.lev g.hd hcan
      exact ⟨p1, p2, g.iso, g.emb, by have := g.opn; simp only at p4 ⊢; rw [p4]; simp only [if_true]; omega, p3, g.xs, g.cs⟩
    · exact ⟨g.len, g.lev, by have := h.iso; have := g0.2; simp only; omega, g.emb, g.opn, g.hd, g.xs, g.cs⟩
  split
  · unfold closingM
    refine h.put _ _ ?_ (by unfold closeM; split <;> (try split) <;> rfl) (by unfold closeM; split <;> (try split) <;> rfl)
    unfold closeM
    split
    · exact ⟨z.len, z.lev, by have := h.iso; simp only; omega, z.emb, z.opn, z.hd⟩
    · split
      · rename_i h1 h2
        have hc : 0 < m.st.countP (fun p => p.2.2) := by have := h.opn; omega
        obtain ⟨c1, c2, c3, c4⟩ := good_cut m.st.length m.st (Nat.le_refl _) h.lev h.hd hc
        exact ⟨by have := h.len; simp only; omega, c2, z.iso, by simp only; omega, by have := h.opn; simp only; omega, c3⟩
      · exact z
  split
  · unfold popM removedM
    refine h.put _ _ ?_ (by split <;> (try split) <;> (try split) <;> rfl) (by split <;> (try split) <;> (try split) <;> rfl)
    split
    · exact z
    split
    · exact ⟨z.len, z.lev, z.iso, by have := h.emb; simp only; omega, z.opn, z.hd⟩
    split
    · rename_i h1
      obtain ⟨d1, d2, d3, d4⟩ := good_drop h.lev h.hd h1.1
      have h2 : ((m.st.getLastD (0, 13, false)).2.2) = false := h1.2
      rw [h2] at d4
      exact ⟨by have := h.len; simp only; omega, d2, z.iso, z.emb, by have := h.opn; simp only at d4 ⊢; rw [this, d4]; rfl, d3⟩
    · exact z
  split
  · unfold parM freshM
    refine ⟨by simp, by simp; omega, by simp; omega, by simp; omega, by simp, rfl, by simp [putM, h.xs], by simp [putM, h.cs]⟩
  split
  · exact h.put _ _ z rfl rfl
  · exact h.put _ _ z rfl rfl
theorem good_run {base : Int} (hb : 0 ≤ base ∧ base ≤ 1) (odd l : Nat → Int) (ho : ∀ i, 0 ≤ odd i ∧ odd i ≤ 1) : ∀ i, Good base i (runM base odd l i)
  | 0 => Good.start base hb
  | i + 1 => good_step hb (good_run hb odd l ho i) _ _ (ho i)
end Go.Proofs.Ytihmolafajmbjaa

/- What classes do: the map that 'orders' makes. -/
namespace Go.Proofs.Ytihmolafajmbjaa
open Go Go.RowKit

theorem heap_top (w : World) (o : Obj) : (w.alloc o).heap[w.heap.size]? = some o := by
  show (w.heap.push o)[w.heap.size]? = some o
  simp
theorem put_top (w : World) (o o' : Obj) : { w.alloc o with heap := (w.alloc o).heap.setIfInBounds w.heap.size o' } = w.alloc o' := by
  show { w with heap := (w.heap.push o).setIfInBounds w.heap.size o' } = { w with heap := w.heap.push o' }
  congr 1
  apply Array.ext_getElem?
  intro i
  rw [Array.getElem?_setIfInBounds]
  by_cases h : w.heap.size = i
  · subst h; simp
  · rw [if_neg h, Array.getElem?_push, Array.getElem?_push, if_neg (by omega), if_neg (by omega)]
def entry (k : Int) (g : FuncId) (n : Nat) : MapEntry := { key := .int .i64 k, val := .func (.func g) #[] #[], born := n }
def ents : Nat → Array MapEntry
  | 0 => #[]
  | 1 => #[entry 16 38 0]
  | 2 => #[entry 16 38 0, entry 14 38 1]
  | 3 => #[entry 16 38 0, entry 14 38 1, entry 17 38 2]
  | 4 => #[entry 16 38 0, entry 14 38 1, entry 17 38 2, entry 15 38 3]
  | 5 => #[entry 16 38 0, entry 14 38 1, entry 17 38 2, entry 15 38 3, entry 20 39 4]
  | 6 => #[entry 16 38 0, entry 14 38 1, entry 17 38 2, entry 15 38 3, entry 20 39 4, entry 19 39 5]
  | 7 => #[entry 16 38 0, entry 14 38 1, entry 17 38 2, entry 15 38 3, entry 20 39 4, entry 19 39 5, entry 21 39 6]
  | 8 => #[entry 16 38 0, entry 14 38 1, entry 17 38 2, entry 15 38 3, entry 20 39 4, entry 19 39 5, entry 21 39 6, entry 22 40 7]
  | 9 => #[entry 16 38 0, entry 14 38 1, entry 17 38 2, entry 15 38 3, entry 20 39 4, entry 19 39 5, entry 21 39 6, entry 22 40 7, entry 18 41 8]
  | 10 => #[entry 16 38 0, entry 14 38 1, entry 17 38 2, entry 15 38 3, entry 20 39 4, entry 19 39 5, entry 21 39 6, entry 22 40 7, entry 18 41 8, entry 10 42 9]
  | _ => #[entry 16 38 0, entry 14 38 1, entry 17 38 2, entry 15 38 3, entry 20 39 4, entry 19 39 5, entry 21 39 6, entry 22 40 7, entry 18 41 8, entry 10 42 9, entry 9 43 10]
theorem ins_run (n : Nat) (k : Int) (g : FuncId) (hk : Instr.findNow (.int .i64) (.int .i64 k) (ents n).toList 0 = some none) (he : (ents n).push (entry k g n) = ents (n + 1)) (w : World) :
    (Instr.mapUpdate 50 (.map (some w.heap.size)) (.int .i64 k) (.func (.func g) #[] #[])).run Try.prog (w.alloc (.map (ents n) n)) = .ok () (w.alloc (.map (ents (n + 1)) (n + 1))) := by
  have u50 : Try.prog.underlying 50 = some (.map 34 52) := by kernel_rfl
  have u34 : Try.prog.underlying 34 = some (.int .i64) := by kernel_rfl
  have h1 := Go.MapKept.run_getObj_map (P := Try.prog) (heap_top w (.map (ents n) n))
  have h2 := Go.MapKept.run_checkKey (P := Try.prog) (w := w.alloc (.map (ents n) n)) (k := .int .i64 k) u34 (by simp [Go.MapKept.IsKey]) false 9999
  have h3 := Go.MapKept.run_findKey (P := Try.prog) (w := w.alloc (.map (ents n) n)) (k := .int .i64 k) u34 hk
  have h4 := Go.MapKept.run_setObj_map (P := Try.prog) (.map (ents (n + 1)) (n + 1)) (heap_top w (.map (ents n) n))
  rw [put_top] at h4
  unfold Instr.mapUpdate
  have he' : (ents n).push { key := .int .i64 k, val := .func (.func g) #[] #[], born := n } = ents (n + 1) := he
  simp only [Sem.run_bind, run_underlying u50, Result.andThen, h1, h2, h3, he', h4]

set_option maxRecDepth 100000 in
theorem orders_run (w : World) : Calls Try.prog 27 #[] w fun e w' => e = .returned (.map (some w.heap.size)) ∧ w' = w.alloc (.map (ents 11) 11) := by
  have hm : ∀ w : World, (Instr.makeMap 50 none).run Try.prog w = .ok (.map (some w.heap.size)) (w.alloc (.map (ents 0) 0)) := fun w => run_makeMap (P := Try.prog) 50 w
  have a0 := ins_run 0 16 38 (by kernel_rfl) rfl
  have a1 := ins_run 1 14 38 (by kernel_rfl) rfl
  have a2 := ins_run 2 17 38 (by kernel_rfl) rfl
  have a3 := ins_run 3 15 38 (by kernel_rfl) rfl
  have a4 := ins_run 4 20 39 (by kernel_rfl) rfl
  have a5 := ins_run 5 19 39 (by kernel_rfl) rfl
  have a6 := ins_run 6 21 39 (by kernel_rfl) rfl
  have a7 := ins_run 7 22 40 (by kernel_rfl) rfl
  have a8 := ins_run 8 18 41 (by kernel_rfl) rfl
  have a9 := ins_run 9 10 42 (by kernel_rfl) rfl
  have a10 := ins_run 10 9 43 (by kernel_rfl) rfl
  generalize ents = E at *
  go_enter Try.func27, Try.ntmps27
  go_wp2
  go_ret
  exact ⟨rfl, rfl⟩
end Go.Proofs.Ytihmolafajmbjaa

/- The machine: the function that a class has, and what it does. -/
namespace Go.Proofs.Ytihmolafajmbjaa
open Go Vx

def inMap (c : Int) : Bool := c == 16 || c == 14 || c == 17 || c == 15 || c == 20 || c == 19 || c == 21 || c == 22 || c == 18 || c == 10 || c == 9
def stepG (c : Int) : FuncId :=
  if c = 16 ∨ c = 14 ∨ c = 17 ∨ c = 15 then 38
  else if c = 20 ∨ c = 19 ∨ c = 21 then 39
  else if c = 22 then 40
  else if c = 18 then 41
  else if c = 10 then 42
  else if c = 9 then 43
  else 28
def fnv (g : FuncId) : Value := .func (.func g) #[] #[]
def mapPs : List (Int × Value) := [(16, fnv 38), (14, fnv 38), (17, fnv 38), (15, fnv 38), (20, fnv 39), (19, fnv 39), (21, fnv 39), (22, fnv 40), (18, fnv 41), (10, fnv 42), (9, fnv 43)]
theorem mapPs_ok : (ents 11).toList.map (fun e => (e.key, e.val)) = mapPs.map (fun p => (Value.int .i64 p.1, p.2)) := rfl
theorem seek_map (c : Int) : seek c mapPs = if inMap c = true then some (fnv (stepG c)) else none := by
  unfold mapPs
  by_cases h1 : c = 16
  · subst h1; rfl
  by_cases h2 : c = 14
  · subst h2; rfl
  by_cases h3 : c = 17
  · subst h3; rfl
  by_cases h4 : c = 15
  · subst h4; rfl
  by_cases h5 : c = 20
  · subst h5; rfl
  by_cases h6 : c = 19
  · subst h6; rfl
  by_cases h7 : c = 21
  · subst h7; rfl
  by_cases h8 : c = 22
  · subst h8; rfl
  by_cases h9 : c = 18
  · subst h9; rfl
  by_cases h10 : c = 10
  · subst h10; rfl
  by_cases h11 : c = 9
  · subst h11; rfl
  simp [seek, inMap, h1, h2, h3, h4, h5, h6, h7, h8, h9, h10, h11]
theorem stepG_not {c : Int} (h : inMap c = false) : stepG c = 28 := by
  simp only [inMap, Bool.or_eq_false_iff, beq_eq_false_iff_ne, ne_eq] at h
  unfold stepG
  rw [if_neg (by omega), if_neg (by omega), if_neg (by omega), if_neg (by omega), if_neg (by omega), if_neg (by omega)]
theorem stepG_fn (c : Int) : ∃ fn, Try.prog.funcs[stepG c]? = some fn ∧ fn.body.isNone = false ∧ (fn.name == "runtime.NumGoroutine") = false := by
  unfold stepG
  split; · exact ⟨_, Try.func38, rfl, by rfl⟩
  split; · exact ⟨_, Try.func39, rfl, by rfl⟩
  split; · exact ⟨_, Try.func40, rfl, by rfl⟩
  split; · exact ⟨_, Try.func41, rfl, by rfl⟩
  split; · exact ⟨_, Try.func42, rfl, by rfl⟩
  split; · exact ⟨_, Try.func43, rfl, by rfl⟩
  exact ⟨_, Try.func28, rfl, by rfl⟩

theorem tab_mem {α : Type} {n : Nat} (f : Nat → α) {j : Nat} (h : j < n) : f j ∈ tab n f := by simp only [tab, List.mem_map, List.mem_range]; exact ⟨j, h, rfl⟩
theorem tab_count {α : Type} {n : Nat} (f : Nat → α) (p : α → Bool) (h : 0 < (tab n f).countP p) : ∃ j, j < n ∧ p (f j) = true := by
  obtain ⟨a, ha, hp⟩ := List.countP_pos_iff.1 h
  simp only [tab, List.mem_map, List.mem_range] at ha
  obtain ⟨j, hj, rfl⟩ := ha
  exact ⟨j, hj, hp⟩

theorem step_ok (ln : Nat) (l : Nat → Int) (n : Nat) (e : Nat → Int) (base : Int) (k : Nat) (lv ov : Nat → Int) (is : Nat → Bool) (iso emb opn : Int) (q : Nat) (xs cs : Nat → Int) (i : Nat) (hi : i < ln) (z : Int) (hz : z = i) (hn : n = ln) (hln : ln ≤ 999999) (hei : ∀ j, j < ln → e j = -1 ∨ ((j : Int) < e j ∧ e j < ln)) (hb : 0 ≤ base ∧ base ≤ 1) (good : Good base i (absM k lv ov is iso emb opn q xs cs)) :
    FSpec Try.prog (stepG (l i)) [.ptr 0 0 0, .int .i64 z] (mheap ln l n e base k lv ov is iso emb opn q xs cs) (NX ln l n e base (stepM base (oddI l e (toI ln e i) i) (l i) (absM k lv ov is iso emb opn q xs cs))) := by
  have hk : 0 < k := by
    have := good.ne
    rcases Nat.eq_zero_or_pos k with h | h
    · subst h; exact absurd rfl this
    · exact h
  have hk2 : k ≤ 1000000 := by have := good.len; simp only [absM, tab_len] at this; omega
  have hlv : 0 ≤ lv (k - 1) ∧ lv (k - 1) ≤ 1000 := by
    have := good.lev _ (tab_mem (fun j => (lv j, ov j, is j)) (show k - 1 < k by omega))
    simp only at this; omega
  have hqi : q = i := by have := good.xs; simpa only [absM, tab_len] using this
  have hq : q ≤ 1000000 := by omega
  have hiso : 0 ≤ iso ∧ iso ≤ 1000000 := by have := good.iso; simp only [absM] at this; omega
  have hemb : 0 ≤ emb ∧ emb ≤ 1000000 := by have := good.emb; simp only [absM] at this; omega
  have hco := good.opn
  have hopn : 0 ≤ opn ∧ opn ≤ 1000000 := by
    have h1 := List.countP_le_length (p := fun p : Int × Int × Bool => p.2.2) (l := tab k fun j => (lv j, ov j, is j))
    simp only [absM, tab_len] at hco h1
    omega
  have hop : 0 < opn → ∃ j, 0 < j ∧ j < k ∧ is j = true := by
    intro h
    obtain ⟨j, hj, hp⟩ := tab_count (fun j => (lv j, ov j, is j)) (fun p => p.2.2) (show 0 < (tab k fun j => (lv j, ov j, is j)).countP (fun p => p.2.2) by simp only [absM] at hco; omega)
    refine ⟨j, ?_, hj, hp⟩
    rcases Nat.eq_zero_or_pos j with h0 | h0
    · subst h0
      have hd := good.hd
      obtain ⟨k', rfl⟩ : ∃ k', k = k' + 1 := ⟨k - 1, by omega⟩
      simp only [absM, tab, List.range_succ_eq_map, List.map_cons, List.headD_cons] at hd
      simp only at hp
      rw [hd] at hp; cases hp
    · exact h0
  unfold stepG stepM
  split
  · exact f38_ok ln l n e base k lv ov is iso emb opn q xs cs hk hk2 hlv hq hiso hemb hopn i hi z hz
  split
  · exact f39_ok ln l n e base k lv ov is iso emb opn q xs cs hk hk2 hlv hq hiso hemb hopn i hi z hz hn (by omega) hei
  split
  · exact f40_ok ln l n e base k lv ov is iso emb opn q xs cs hk hk2 hlv hq hiso hemb hopn hop i hi z hz
  split
  · exact f41_ok ln l n e base k lv ov is iso emb opn q xs cs hk hk2 hlv hq hiso hemb hopn i hi z hz
  split
  · exact f42_ok ln l n e base k lv ov is iso emb opn q xs cs hk hk2 hlv hq hiso hemb hopn i hi z hz
  split
  · obtain ⟨xs', x1, x2⟩ := snocF xs q (-1)
    obtain ⟨cs', c1, c2⟩ := snocF cs q (l i)
    refine (f43_ok ln l n e base k lv ov is iso emb opn q xs cs hq i hi z hz (q + 1) rfl xs' cs' x1 x2 c1 c2).mono ?_
    rintro r H' ⟨rfl, rfl⟩
    refine ⟨rfl, k, lv, ov, is, iso, emb, opn, q + 1, xs', cs', rfl, ?_⟩
    simp only [removedM, putM, absM]
    rw [tab_snoc rfl x1 x2, tab_snoc rfl c1 c2]
  · obtain ⟨xs', x1, x2⟩ := snocF xs q (lv (k - 1))
    obtain ⟨cs', c1, c2⟩ := snocF cs q (if ov (k - 1) = 13 then l i else ov (k - 1))
    refine (f28_ok ln l n e base k lv ov is iso emb opn q xs cs hk hq i hi z hz (q + 1) rfl xs' cs' x1 x2 c1 c2).mono ?_
    rintro r H' ⟨rfl, rfl⟩
    exact ⟨rfl, k, lv, ov, is, iso, emb, opn, q + 1, xs', cs', rfl, plain_abs k lv ov is iso emb opn q xs cs hk (l i) xs' cs' x1 x2 c1 c2⟩
end Go.Proofs.Ytihmolafajmbjaa

/- Levels. -/
namespace Go.Proofs.Ytihmolafajmbjaa
open Go Vx

def oddsOf (ln : Nat) (l : Nat → Int) (i : Nat) : Int := oddI (kn l) (mrun l ln).2 (toI ln (mrun l ln).2 i) i
theorem oddI_01 (l e : Nat → Int) (to i : Nat) : 0 ≤ oddI l e to i ∧ oddI l e to i ≤ 1 := by unfold oddI; split <;> omega
/-- What 'Levels' comes to, the base being known. -/
def levM (ln : Nat) (l : Nat → Int) (base : Int) : Ms := runM base (oddsOf ln l) (kn l) ln
def LQ (ln : Nat) (M : Ms) : AV → Hp → Prop := fun r H' => ∃ xs cs : Nat → Int, r = .tup [.sl 0 0 ln, .sl 1 0 ln, .int .i64 0] ∧ H' = [some ⟨3, 1, .arr ln (icol .i64 xs)⟩, some ⟨34, 1, .arr ln (icol .i64 cs)⟩] ∧ tab ln xs = M.xs ∧ tab ln cs = M.cs

theorem f15_err (ln : Nat) (l : Nat → Int) (b0 : Int) (hb : b0 < -1 ∨ 1 < b0) : FSpec Try.prog 15 [.rows 1 ln (icol .i64 l), .int .i64 b0] [] (fun r H' => r = .tup [.nil .slice, .nil .slice, .int .i64 81] ∧ H' = []) := by
  refine FSpec.of (fn := Try.f15) Try.func15 rfl rfl (by simp) fun C hC => ?_
  obtain ⟨iadd, isub, imul, iquo, irem, iband, ibor, ibxor, ibandn, ishl, ishr, iconv, ieq, ine, ilt, ile, igt, ige, bbeq, bbne, bnot, bband, sseq, ssne, sscat, sssub, sslen, sssz, ssbyte, toN, ofN, addN, subN, eqN, ltB, leN, imx, imn, inb, leb, sslt, ltN, fit, ne0, ge0, ssfit, minN, inR, hS⟩ := names
  refine V.go Try.func15 tl_ok mixed hS.ops [] 400 ?_
  intro VV VA W hVV hVA hW
  conv => cbv
  cases h1 : ilt b0 (-1)
  · conv => cbv
    cases h2 : igt b0 1
    · simp (disch := first | omega | (simp only [hS.glob, wraps, plain, Int.ofNat_eq_natCast]; omega)) only [hS.glob, wraps, plain, Int.ofNat_eq_natCast] at h1 h2; omega
    · conv => cbv
      simp
  · conv => cbv
    simp

theorem zero52 (w : World) : (zeroValue 52).run Try.prog w = .ok .nilFunc w := by
  obtain ⟨i, z, hi, hsz, _, hz, hzs, hzl, h1, hzr⟩ := (tl_ok 52 _ rfl).info
  have hzz : i.zero = some .nilFunc := by
    have : (Try.prog.info? 52).bind (·.zero) = some .nilFunc := by kernel_rfl
    rw [hi] at this; exact this
  simp [zeroValue, typeInfo, hi, hzz]
def avF : Value → AV
  | .func (.func g) _ _ => .fn (.func g) [] []
  | _ => .top
theorem avF_ok : ∀ p ∈ mapPs, RelV rho0 mu0 (avF p.2) p.2 := by
  intro p hp
  have fn : ∀ g, RelV rho0 mu0 (.fn (.func g) [] []) (fnv g) := fun g => .fn _ _ _ _ _ _ _ rfl rfl (fun j hj => absurd hj (Nat.not_lt_zero _)) (fun j hj => absurd hj (Nat.not_lt_zero _))
  simp only [mapPs, List.mem_cons, List.not_mem_nil, or_false] at hp
  rcases hp with rfl | rfl | rfl | rfl | rfl | rfl | rfl | rfl | rfl | rfl | rfl <;> exact fn _

/-- The machine's state, in numbers. -/
structure Mv where
  i : Nat
  k : Nat
  lv : Nat → Int
  ov : Nat → Int
  is : Nat → Bool
  iso : Int
  emb : Int
  opn : Int
  q : Nat
  xs : Nat → Int
  cs : Nat → Int

theorem f15_known1 (ln : Nat) (l : Nat → Int) (hl : ln ≤ 999999) (base : Int) (hb : 0 ≤ base ∧ base ≤ 1) : FSpec Try.prog 15 [.rows 1 ln (icol .i64 l), .int .i64 base] []
    (fun r H' => ∃ xs cs : Nat → Int, r = .tup [.sl 5 0 ln, .sl 6 0 ln, .int .i64 0] ∧ (∃ a b c d x, H' = [a, b, c, d, x, some ⟨3, 1, .arr ln (icol .i64 xs)⟩, some ⟨34, 1, .arr ln (icol .i64 cs)⟩]) ∧ tab ln xs = (levM ln l base).xs ∧ tab ln cs = (levM ln l base).cs) := by
  have hE := mrun_out l ln
  have h10 := f10_ok ln l (by omega)
  have h25 := f25_ok ln l (by omega)
  have hlev : levM ln l base = runM base (oddsOf ln l) (kn l) ln := rfl
  have hG := good_run hb (oddsOf ln l) (kn l) (fun i => oddI_01 _ _ _ _)
  have hS0 : runM base (oddsOf ln l) (kn l) 0 = ⟨[(base, 13, false)], 0, 0, 0, [], []⟩ := rfl
  have hSs : ∀ i, runM base (oddsOf ln l) (kn l) (i + 1) = stepM base (oddI (kn l) (mrun l ln).2 (toI ln (mrun l ln).2 i) i) (kn l i) (runM base (oddsOf ln l) (kn l) i) := fun i => rfl
  rw [hlev]
  clear hlev
  generalize runM base (oddsOf ln l) (kn l) = R at hG hS0 hSs ⊢
  generalize kn l = K at h25 hSs
  generalize (mrun l ln).2 = e at h10 hE hSs
  refine FSpec.of (fn := Try.f15) Try.func15 rfl rfl (by simp) fun C hC => ?_
  obtain ⟨iadd, isub, imul, iquo, irem, iband, ibor, ibxor, ibandn, ishl, ishr, iconv, ieq, ine, ilt, ile, igt, ige, bbeq, bbne, bnot, bband, sseq, ssne, sscat, sssub, sslen, sssz, ssbyte, toN, ofN, addN, subN, eqN, ltB, leN, imx, imn, inb, leb, sslt, ltN, fit, ne0, ge0, ssfit, minN, inR, hS⟩ := names
  refine V.go Try.func15 tl_ok mixed hS.ops [] 400 ?_
  intro VV VA W hVV hVA hW
  conv => cbv
  cases h1 : ilt base (-1)
  rotate_left
  · simp (disch := first | omega | (simp only [hS.glob, wraps, plain, Int.ofNat_eq_natCast]; omega)) only [hS.glob, wraps, plain, Int.ofNat_eq_natCast] at h1; omega
  conv => cbv
  cases h2 : igt base 1
  rotate_left
  · simp (disch := first | omega | (simp only [hS.glob, wraps, plain, Int.ofNat_eq_natCast]; omega)) only [hS.glob, wraps, plain, Int.ofNat_eq_natCast] at h2; omega
  conv => cbv
  cases h3 : ieq base (-1)
  rotate_left
  · simp (disch := first | omega | (simp only [hS.glob, wraps, plain, Int.ofNat_eq_natCast]; omega)) only [hS.glob, wraps, plain, Int.ofNat_eq_natCast] at h3; omega
  conv => cbv
  rw [hVV]
  refine V.call rfl rfl rfl rfl rfl Try.func25 rfl (by decide) [] (by simp) (by simp) (by (first | rfl | ((conv => cbv); (repeat' apply And.intro) <;> first | rfl | trivial | (first | rfl | omega | (simp (disch := omega) only [hS.glob, wraps, plain, Int.ofNat_eq_natCast]; first | done | rfl | omega | (simp; done) | (simp; omega)) | (simp (disch := omega) only [hS.glob, wraps, plain, Int.ofNat_eq_natCast, Vx.toN]; omega))))) rfl h25 ?_
  rintro r Hc ⟨rfl, rfl⟩
  clear hVV hVA VV VA hW W h1 h2 h3
  refine V.freeze0 24 0 ln (by rfl) (by rfl) (by rfl) (by first | decide | omega | exact Nat.zero_lt_one) (by rfl) (by rfl) (by first | exact Nat.le_refl _ | decide | omega | (simp only [Cont.n]; omega)) ?_
  refine V.go Try.func15 tl_ok mixed hS.ops [] 400 ?_
  intro VV VA W hVV hVA hW
  conv => cbv
  rw [hVV]
  refine V.call rfl rfl rfl rfl rfl Try.func10 rfl (by decide) [] (by simp) (by simp) (by (first | rfl | ((conv => cbv); (repeat' apply And.intro) <;> first | rfl | trivial | (first | rfl | omega | (simp (disch := omega) only [hS.glob, wraps, plain, Int.ofNat_eq_natCast]; first | done | rfl | omega | (simp; done) | (simp; omega)) | (simp (disch := omega) only [hS.glob, wraps, plain, Int.ofNat_eq_natCast, Vx.toN]; omega))))) rfl h10 ?_
  rintro r Hc ⟨rfl, rfl⟩
  clear hVV hVA VV VA hW W
  refine V.freeze0 26 1 ln (by rfl) (by rfl) (by rfl) (by first | decide | omega | exact Nat.zero_lt_one) (by rfl) (by rfl) (by first | exact Nat.le_refl _ | decide | omega | (simp only [Cont.n]; omega)) ?_
  refine V.go Try.func15 tl_ok mixed hS.ops [] 400 ?_
  intro VV VA W hVV hVA hW
  conv => cbv
  rw [hVV]
  refine V.phantomOb 2 3 66 3 (srow (fun _ => 0) (fun _ => 0) (fun _ => false)) rfl rfl ?_
  refine V.phantomOb 2 7 3 1 (icol .i64 (fun _ => 0)) rfl rfl ?_
  refine V.phantomOb 2 8 34 1 (icol .i64 (fun _ => 0)) rfl rfl ?_
  refine V.to (s' := [(7, .ptr 2 0 0), (30, .ptr 2 0 0)]) (H' := [none, none, some ⟨49, 9, .lit [mrow 3 4 5 ln K ln e base 0 0 0 0 0]⟩, some ⟨66, 3, .arr 0 (srow (fun _ => 0) (fun _ => 0) (fun _ => false))⟩, some ⟨3, 1, .arr 0 (icol .i64 (fun _ => 0))⟩, some ⟨34, 1, .arr 0 (icol .i64 (fun _ => 0))⟩]) ?_ (by (repeat' first | exact trivial | rfl | (refine And.intro ?_ ?_) | (refine sti ?_; (first | rfl | omega | (simp (disch := omega) only [hS.glob, wraps, plain, Int.ofNat_eq_natCast]; first | done | rfl | omega | (simp; done) | (simp; omega)) | (simp (disch := omega) only [hS.glob, wraps, plain, Int.ofNat_eq_natCast, Vx.toN]; omega))) | (refine slq ?_ ?_ ?_ <;> (first | rfl | omega | (simp (disch := omega) only [hS.glob, wraps, plain, Int.ofNat_eq_natCast]; first | done | rfl | omega | (simp; done) | (simp; omega)) | (simp (disch := omega) only [hS.glob, wraps, plain, Int.ofNat_eq_natCast, Vx.toN]; omega))) | (refine ptq ?_ ?_ ?_ <;> (first | rfl | omega | (simp (disch := omega) only [hS.glob, wraps, plain, Int.ofNat_eq_natCast]; first | done | rfl | omega | (simp; done) | (simp; omega)) | (simp (disch := omega) only [hS.glob, wraps, plain, Int.ofNat_eq_natCast, Vx.toN]; omega))) | (refine blq ?_; (first | rfl | omega | (simp (disch := omega) only [hS.glob, wraps, plain, Int.ofNat_eq_natCast]; first | done | rfl | omega | (simp; done) | (simp; omega)) | (simp (disch := omega) only [hS.glob, wraps, plain, Int.ofNat_eq_natCast, Vx.toN]; omega))))) rfl (by (repeat' first | exact trivial | rfl | exact Nat.le_refl _ | exact (fun _ _ => rfl) | (refine And.intro ?_ ?_) | (simp only [hS.glob, plain]; first | done | omega))) (by rw [hC]; simp)
  refine V.pick [2, 3, 4, 5] (by decide) (by rw [hC]; exact begins_of rfl) (H' := mheap ln K ln e base 0 (fun _ => 0) (fun _ => 0) (fun _ => false) 0 0 0 0 (fun _ => 0) (fun _ => 0)) rfl (s' := [(7, .ptr 0 0 0), (30, .ptr 0 0 0)]) rfl ?_
  refine V.call rfl rfl rfl rfl rfl Try.func26 rfl (by decide) [0, 1, 2, 3] (by decide) (all_lt (by rfl)) (by (first | rfl | ((conv => cbv); (repeat' apply And.intro) <;> first | rfl | trivial | (first | rfl | omega | (simp (disch := omega) only [hS.glob, wraps, plain, Int.ofNat_eq_natCast]; first | done | rfl | omega | (simp; done) | (simp; omega)) | (simp (disch := omega) only [hS.glob, wraps, plain, Int.ofNat_eq_natCast, Vx.toN]; omega))))) (by rfl) (f26_ok ln K ln e base 0 (fun _ => 0) (fun _ => 0) (fun _ => false) 0 0 0 0 (fun _ => 0) (fun _ => 0) (fun _ => base) (fun _ => 13) (fun _ => false) rfl rfl rfl) ?_
  rintro r Hc ⟨rfl, rfl⟩
  clear hVV hVA VV VA hW W
  refine V.pick [0, 4, 5, 6] (by decide) (by rw [hC]; exact begins_of rfl) (H' := mheap ln K ln e base 1 (fun _ => base) (fun _ => 13) (fun _ => false) 0 0 0 0 (fun _ => 0) (fun _ => 0)) rfl rfl ?_
  refine V.go Try.func15 tl_ok mixed hS.ops [] 400 ?_
  intro VV VA W hVV hVA hW
  conv => cbv
  rw [hVV]
  refine V.callMap rfl rfl rfl rfl rfl Try.func27 rfl (by rfl) orders_run fun C' b hC' hmap => ?_
  clear hVV hVA VV VA hW W hC
  refine V.go Try.func15 tl_ok mixed hS.ops [] 400 ?_
  intro VV VA W hVV hVA hW
  conv => cbv
  rw [hVV]
  clear hVV hVA VV VA hW W
  have hlen : C'.H0.length = 4 := by rw [hC']; rfl
  clear hC'
  refine V.to (s' := [(38, .int .i64 (ofN 0)), (37, .int .i64 (ofN ln)), (36, .rows 1 ln (icol .i64 K)), (8, .mp b), (7, .ptr 0 0 0)]) (H' := mheap ln K ln e base 1 (fun _ => base) (fun _ => 13) (fun _ => false) 0 0 0 0 (fun _ => 0) (fun _ => 0)) ?_ (by (repeat' first | exact trivial | rfl | (refine And.intro ?_ ?_) | (refine sti ?_; (first | rfl | omega | (simp (disch := omega) only [hS.glob, wraps, plain, Int.ofNat_eq_natCast]; first | done | rfl | omega | (simp; done) | (simp; omega)) | (simp (disch := omega) only [hS.glob, wraps, plain, Int.ofNat_eq_natCast, Vx.toN]; omega))) | (refine slq ?_ ?_ ?_ <;> (first | rfl | omega | (simp (disch := omega) only [hS.glob, wraps, plain, Int.ofNat_eq_natCast]; first | done | rfl | omega | (simp; done) | (simp; omega)) | (simp (disch := omega) only [hS.glob, wraps, plain, Int.ofNat_eq_natCast, Vx.toN]; omega))) | (refine ptq ?_ ?_ ?_ <;> (first | rfl | omega | (simp (disch := omega) only [hS.glob, wraps, plain, Int.ofNat_eq_natCast]; first | done | rfl | omega | (simp; done) | (simp; omega)) | (simp (disch := omega) only [hS.glob, wraps, plain, Int.ofNat_eq_natCast, Vx.toN]; omega))) | (refine blq ?_; (first | rfl | omega | (simp (disch := omega) only [hS.glob, wraps, plain, Int.ofNat_eq_natCast]; first | done | rfl | omega | (simp; done) | (simp; omega)) | (simp (disch := omega) only [hS.glob, wraps, plain, Int.ofNat_eq_natCast, Vx.toN]; omega))))) rfl (by (repeat' first | exact trivial | rfl | exact Nat.le_refl _ | exact (fun _ _ => rfl) | (refine And.intro ?_ ?_) | (simp only [hS.glob, plain]; first | done | omega))) (by rw [hlen]; exact Nat.le_refl _)
  refine V.mv hlen [1, 2, 3] (by decide) (H' := nheap ln K ln e base 1 (fun _ => base) (fun _ => 13) (fun _ => false) 0 0 0 0 (fun _ => 0) (fun _ => 0)) rfl rfl ?_
  refine V.loop (γ := Mv) (fun p => p.i ≤ ln ∧ absM p.k p.lv p.ov p.is p.iso p.emb p.opn p.q p.xs p.cs = R p.i) (fun p => [(38, .int .i64 (ofN p.i)), (37, .int .i64 (ofN ln)), (36, .rows 1 ln (icol .i64 K)), (8, .mp b), (7, .ptr 0 0 0)]) (fun p => nheap ln K ln e base p.k p.lv p.ov p.is p.iso p.emb p.opn p.q p.xs p.cs) (fun p => ln - p.i) ?_ ⟨0, 1, fun _ => base, fun _ => 13, fun _ => false, 0, 0, 0, 0, fun _ => 0, fun _ => 0⟩ ⟨Nat.zero_le _, by rw [hS0]; rfl⟩
  rintro ⟨i, k, lv, ov, is, iso, emb, opn, q, xs, cs⟩ ⟨hi, hM⟩ hback
  dsimp only at hi hM hback ⊢
  have good := hG i
  rw [← hM] at good
  have hq : q = i := by have := good.xs; simpa only [absM, tab_len] using this
  refine V.go Try.func15 tl_ok mixed hS.ops [] 400 ?_
  intro VV VA W hVV hVA hW
  conv => cbv
  split <;> rename_i h1
  rotate_left
  · conv => cbv
    simp (disch := first | omega | (simp only [hS.glob, wraps, plain, Int.ofNat_eq_natCast]; omega)) only [hS.glob, wraps, plain, Int.ofNat_eq_natCast] at h1
    refine ⟨by rw [hW]; show ordOk _ _ _ = true; kernel_rfl, ?_⟩
    obtain rfl : i = ln := by omega
    subst hq
    exact ⟨xs, cs, rfl, ⟨_, _, _, _, _, rfl⟩, by rw [← hM]; rfl, by rw [← hM]; rfl⟩
  · conv => cbv
    simp (disch := first | omega | (simp only [hS.glob, wraps, plain, Int.ofNat_eq_natCast]; omega)) only [hS.glob, wraps, plain, Int.ofNat_eq_natCast] at h1
    repeat (refine ⟨by first | (rw [hW]; show ordOk _ _ _ = true; kernel_rfl) | (first | trivial | omega | (simp (disch := omega) only [hS.glob, wraps, plain, Int.ofNat_eq_natCast]; first | done | omega | trivial | (simp; done) | (simp; omega) | (constructor <;> omega)) | (simp (disch := omega) only [hS.glob, wraps, plain, Int.ofNat_eq_natCast, Vx.toN]; omega)), ?_⟩)
    simp only [hS.tidy]
    obtain ⟨c, hc⟩ : ∃ c, c = K i := ⟨_, rfl⟩
    rw [← hc]
    have spec := step_ok ln K ln e base k lv ov is iso emb opn q xs cs i (by omega) (ofN i) (by simp (disch := first | omega | (simp only [hS.glob, wraps, plain, Int.ofNat_eq_natCast]; omega)) only [hS.glob, wraps, plain, Int.ofNat_eq_natCast]) rfl hl (fun j hj => by have := hE j; omega) hb good
    rw [hM, ← hSs i, ← hc] at spec
    rw [hVV]
    refine V.lookup (kt := 34) (et := 52) rfl rfl rfl rfl rfl rfl hmap (by kernel_rfl) (by kernel_rfl) zero52 (.nilFunc _ _) mapPs mapPs_ok avF avF_ok (fun v hv => ?_) (fun hv => ?_)
    · rw [seek_map] at hv
      split at hv
      · injection hv with hv
        subst hv
        obtain ⟨fn, f1, f2, f3⟩ := stepG_fn c
        generalize stepG c = g at spec f1
        clear hVV hVA VV VA hW W
        refine V.go Try.func15 tl_ok mixed hS.ops [] 400 ?_
        intro VV VA W hVV hVA hW
        conv => cbv
        rw [hVV]
        refine V.call rfl rfl rfl rfl rfl f1 f2 f3 [0, 4, 5, 6] (by decide) (all_lt (by rfl)) (by (first | rfl | ((conv => cbv); (repeat' apply And.intro) <;> first | rfl | trivial | (first | rfl | omega | (simp (disch := omega) only [hS.glob, wraps, plain, Int.ofNat_eq_natCast]; first | done | rfl | omega | (simp; done) | (simp; omega)) | (simp (disch := omega) only [hS.glob, wraps, plain, Int.ofNat_eq_natCast, Vx.toN]; omega))))) (by rfl) spec ?_
        clear spec
        rintro r Hc ⟨rfl, k2, lv2, ov2, is2, iso2, emb2, opn2, q2, xs2, cs2, rfl, hM2⟩
        clear hVV hVA VV VA hW W
        refine V.pick [0, 1, 2, 3, 7, 8, 9] (by decide) (by rw [hlen]; exact begins_of rfl) rfl rfl ?_
        refine V.go Try.func15 tl_ok mixed hS.ops [] 400 ?_
        intro VV VA W hVV hVA hW
        conv => cbv
        rw [hVV]
        exact V.to (hback ⟨i + 1, k2, lv2, ov2, is2, iso2, emb2, opn2, q2, xs2, cs2⟩ ⟨by simp only; omega, hM2⟩ (by simp only; omega)) (by (repeat' first | exact trivial | rfl | (refine And.intro ?_ ?_) | (refine sti ?_; (first | rfl | omega | (simp (disch := omega) only [hS.glob, wraps, plain, Int.ofNat_eq_natCast]; first | done | rfl | omega | (simp; done) | (simp; omega)) | (simp (disch := omega) only [hS.glob, wraps, plain, Int.ofNat_eq_natCast, Vx.toN]; omega))) | (refine slq ?_ ?_ ?_ <;> (first | rfl | omega | (simp (disch := omega) only [hS.glob, wraps, plain, Int.ofNat_eq_natCast]; first | done | rfl | omega | (simp; done) | (simp; omega)) | (simp (disch := omega) only [hS.glob, wraps, plain, Int.ofNat_eq_natCast, Vx.toN]; omega))) | (refine ptq ?_ ?_ ?_ <;> (first | rfl | omega | (simp (disch := omega) only [hS.glob, wraps, plain, Int.ofNat_eq_natCast]; first | done | rfl | omega | (simp; done) | (simp; omega)) | (simp (disch := omega) only [hS.glob, wraps, plain, Int.ofNat_eq_natCast, Vx.toN]; omega))) | (refine blq ?_; (first | rfl | omega | (simp (disch := omega) only [hS.glob, wraps, plain, Int.ofNat_eq_natCast]; first | done | rfl | omega | (simp; done) | (simp; omega)) | (simp (disch := omega) only [hS.glob, wraps, plain, Int.ofNat_eq_natCast, Vx.toN]; omega))))) rfl (by (repeat' first | exact trivial | rfl | exact Nat.le_refl _ | exact (fun _ _ => rfl) | (refine And.intro ?_ ?_) | (simp only [hS.glob, plain]; first | done | omega))) (by rw [hlen]; exact Nat.le_add_right 4 3)
      · cases hv
    · rw [seek_map] at hv
      split at hv
      · cases hv
      · rename_i hin
        have hin' : inMap c = false := by simpa using hin
        rw [stepG_not hin'] at spec
        clear hVV hVA VV VA hW W
        refine V.go Try.func15 tl_ok mixed hS.ops [] 400 ?_
        intro VV VA W hVV hVA hW
        conv => cbv
        rw [hVV]
        refine V.call rfl rfl rfl rfl rfl Try.func28 rfl (by decide) [0, 4, 5, 6] (by decide) (all_lt (by rfl)) (by (first | rfl | ((conv => cbv); (repeat' apply And.intro) <;> first | rfl | trivial | (first | rfl | omega | (simp (disch := omega) only [hS.glob, wraps, plain, Int.ofNat_eq_natCast]; first | done | rfl | omega | (simp; done) | (simp; omega)) | (simp (disch := omega) only [hS.glob, wraps, plain, Int.ofNat_eq_natCast, Vx.toN]; omega))))) (by rfl) spec ?_
        clear spec
        rintro r Hc ⟨rfl, k2, lv2, ov2, is2, iso2, emb2, opn2, q2, xs2, cs2, rfl, hM2⟩
        clear hVV hVA VV VA hW W
        refine V.pick [0, 1, 2, 3, 7, 8, 9] (by decide) (by rw [hlen]; exact begins_of rfl) rfl rfl ?_
        refine V.go Try.func15 tl_ok mixed hS.ops [] 400 ?_
        intro VV VA W hVV hVA hW
        conv => cbv
        rw [hVV]
        exact V.to (hback ⟨i + 1, k2, lv2, ov2, is2, iso2, emb2, opn2, q2, xs2, cs2⟩ ⟨by simp only; omega, hM2⟩ (by simp only; omega)) (by (repeat' first | exact trivial | rfl | (refine And.intro ?_ ?_) | (refine sti ?_; (first | rfl | omega | (simp (disch := omega) only [hS.glob, wraps, plain, Int.ofNat_eq_natCast]; first | done | rfl | omega | (simp; done) | (simp; omega)) | (simp (disch := omega) only [hS.glob, wraps, plain, Int.ofNat_eq_natCast, Vx.toN]; omega))) | (refine slq ?_ ?_ ?_ <;> (first | rfl | omega | (simp (disch := omega) only [hS.glob, wraps, plain, Int.ofNat_eq_natCast]; first | done | rfl | omega | (simp; done) | (simp; omega)) | (simp (disch := omega) only [hS.glob, wraps, plain, Int.ofNat_eq_natCast, Vx.toN]; omega))) | (refine ptq ?_ ?_ ?_ <;> (first | rfl | omega | (simp (disch := omega) only [hS.glob, wraps, plain, Int.ofNat_eq_natCast]; first | done | rfl | omega | (simp; done) | (simp; omega)) | (simp (disch := omega) only [hS.glob, wraps, plain, Int.ofNat_eq_natCast, Vx.toN]; omega))) | (refine blq ?_; (first | rfl | omega | (simp (disch := omega) only [hS.glob, wraps, plain, Int.ofNat_eq_natCast]; first | done | rfl | omega | (simp; done) | (simp; omega)) | (simp (disch := omega) only [hS.glob, wraps, plain, Int.ofNat_eq_natCast, Vx.toN]; omega))))) rfl (by (repeat' first | exact trivial | rfl | exact Nat.le_refl _ | exact (fun _ _ => rfl) | (refine And.intro ?_ ?_) | (simp only [hS.glob, plain]; first | done | omega))) (by rw [hlen]; exact Nat.le_add_right 4 3)

theorem sgo_01 (l e : Nat → Int) (to : Nat) : ∀ f i, 0 ≤ sgo l e to f i ∧ sgo l e to f i ≤ 1
  | 0, i => by simp [sgo]
  | f + 1, i => by
    have h1 := sgo_01 l e to f (i + 1)
    have h2 := sgo_01 l e to f ((e i).toNat + 1)
    rw [sgo]
    repeat' split
    all_goals omega
/-- What the first strong makes. -/
def strB (ln : Nat) (l : Nat → Int) : Int := sgo l (mrun l ln).2 ln ln 0
theorem f15_none1 (ln : Nat) (l : Nat → Int) (hl : ln ≤ 999999) (base : Int) (hbase : strB ln l = base) : FSpec Try.prog 15 [.rows 1 ln (icol .i64 l), .int .i64 (-1)] []
    (fun r H' => ∃ xs cs : Nat → Int, r = .tup [.sl 5 0 ln, .sl 6 0 ln, .int .i64 0] ∧ (∃ a b c d x, H' = [a, b, c, d, x, some ⟨3, 1, .arr ln (icol .i64 xs)⟩, some ⟨34, 1, .arr ln (icol .i64 cs)⟩]) ∧ tab ln xs = (levM ln l base).xs ∧ tab ln cs = (levM ln l base).cs) := by
  have hb : 0 ≤ base ∧ base ≤ 1 := by rw [← hbase]; exact sgo_01 _ _ _ _ _
  have h13 := f13_ok ln l (by omega) base hbase
  clear hbase
  have hE := mrun_out l ln
  have h10 := f10_ok ln l (by omega)
  have h25 := f25_ok ln l (by omega)
  have hlev : levM ln l base = runM base (oddsOf ln l) (kn l) ln := rfl
  have hG := good_run hb (oddsOf ln l) (kn l) (fun i => oddI_01 _ _ _ _)
  have hS0 : runM base (oddsOf ln l) (kn l) 0 = ⟨[(base, 13, false)], 0, 0, 0, [], []⟩ := rfl
  have hSs : ∀ i, runM base (oddsOf ln l) (kn l) (i + 1) = stepM base (oddI (kn l) (mrun l ln).2 (toI ln (mrun l ln).2 i) i) (kn l i) (runM base (oddsOf ln l) (kn l) i) := fun i => rfl
  rw [hlev]
  clear hlev
  generalize runM base (oddsOf ln l) (kn l) = R at hG hS0 hSs ⊢
  generalize kn l = K at h25 hSs
  generalize (mrun l ln).2 = e at h10 hE hSs
  refine FSpec.of (fn := Try.f15) Try.func15 rfl rfl (by simp) fun C hC => ?_
  obtain ⟨iadd, isub, imul, iquo, irem, iband, ibor, ibxor, ibandn, ishl, ishr, iconv, ieq, ine, ilt, ile, igt, ige, bbeq, bbne, bnot, bband, sseq, ssne, sscat, sssub, sslen, sssz, ssbyte, toN, ofN, addN, subN, eqN, ltB, leN, imx, imn, inb, leb, sslt, ltN, fit, ne0, ge0, ssfit, minN, inR, hS⟩ := names
  refine V.go Try.func15 tl_ok mixed hS.ops [] 400 ?_
  intro VV VA W hVV hVA hW
  conv => cbv
  cases h1 : ilt (-1) (-1)
  rotate_left
  · simp (disch := first | omega | (simp only [hS.glob, wraps, plain, Int.ofNat_eq_natCast]; omega)) only [hS.glob, wraps, plain, Int.ofNat_eq_natCast] at h1; omega
  conv => cbv
  cases h2 : igt (-1) 1
  rotate_left
  · simp (disch := first | omega | (simp only [hS.glob, wraps, plain, Int.ofNat_eq_natCast]; omega)) only [hS.glob, wraps, plain, Int.ofNat_eq_natCast] at h2; omega
  conv => cbv
  cases h3 : ieq (-1) (-1)
  · simp (disch := first | omega | (simp only [hS.glob, wraps, plain, Int.ofNat_eq_natCast]; omega)) only [hS.glob, wraps, plain, Int.ofNat_eq_natCast] at h3; omega
  conv => cbv
  rw [hVV]
  refine V.call rfl rfl rfl rfl rfl Try.func13 rfl (by decide) [] (by simp) (by simp) (by (first | rfl | ((conv => cbv); (repeat' apply And.intro) <;> first | rfl | trivial | (first | rfl | omega | (simp (disch := omega) only [hS.glob, wraps, plain, Int.ofNat_eq_natCast]; first | done | rfl | omega | (simp; done) | (simp; omega)) | (simp (disch := omega) only [hS.glob, wraps, plain, Int.ofNat_eq_natCast, Vx.toN]; omega))))) rfl h13 ?_
  rintro r Hc ⟨rfl, rfl⟩
  clear hVV hVA VV VA hW W
  refine V.pick [] (by decide) (by rw [hC]; exact begins_of rfl) rfl rfl ?_
  refine V.go Try.func15 tl_ok mixed hS.ops [] 400 ?_
  intro VV VA W hVV hVA hW
  conv => cbv
  rw [hVV]
  refine V.call rfl rfl rfl rfl rfl Try.func25 rfl (by decide) [] (by simp) (by simp) (by (first | rfl | ((conv => cbv); (repeat' apply And.intro) <;> first | rfl | trivial | (first | rfl | omega | (simp (disch := omega) only [hS.glob, wraps, plain, Int.ofNat_eq_natCast]; first | done | rfl | omega | (simp; done) | (simp; omega)) | (simp (disch := omega) only [hS.glob, wraps, plain, Int.ofNat_eq_natCast, Vx.toN]; omega))))) rfl h25 ?_
  rintro r Hc ⟨rfl, rfl⟩
  clear hVV hVA VV VA hW W h1 h2 h3
  refine V.freeze0 24 0 ln (by rfl) (by rfl) (by rfl) (by first | decide | omega | exact Nat.zero_lt_one) (by rfl) (by rfl) (by first | exact Nat.le_refl _ | decide | omega | (simp only [Cont.n]; omega)) ?_
  refine V.go Try.func15 tl_ok mixed hS.ops [] 400 ?_
  intro VV VA W hVV hVA hW
  conv => cbv
  rw [hVV]
  refine V.call rfl rfl rfl rfl rfl Try.func10 rfl (by decide) [] (by simp) (by simp) (by (first | rfl | ((conv => cbv); (repeat' apply And.intro) <;> first | rfl | trivial | (first | rfl | omega | (simp (disch := omega) only [hS.glob, wraps, plain, Int.ofNat_eq_natCast]; first | done | rfl | omega | (simp; done) | (simp; omega)) | (simp (disch := omega) only [hS.glob, wraps, plain, Int.ofNat_eq_natCast, Vx.toN]; omega))))) rfl h10 ?_
  rintro r Hc ⟨rfl, rfl⟩
  clear hVV hVA VV VA hW W
  refine V.freeze0 26 1 ln (by rfl) (by rfl) (by rfl) (by first | decide | omega | exact Nat.zero_lt_one) (by rfl) (by rfl) (by first | exact Nat.le_refl _ | decide | omega | (simp only [Cont.n]; omega)) ?_
  refine V.go Try.func15 tl_ok mixed hS.ops [] 400 ?_
  intro VV VA W hVV hVA hW
  conv => cbv
  rw [hVV]
  refine V.phantomOb 2 3 66 3 (srow (fun _ => 0) (fun _ => 0) (fun _ => false)) rfl rfl ?_
  refine V.phantomOb 2 7 3 1 (icol .i64 (fun _ => 0)) rfl rfl ?_
  refine V.phantomOb 2 8 34 1 (icol .i64 (fun _ => 0)) rfl rfl ?_
  refine V.to (s' := [(7, .ptr 2 0 0), (30, .ptr 2 0 0)]) (H' := [none, none, some ⟨49, 9, .lit [mrow 3 4 5 ln K ln e base 0 0 0 0 0]⟩, some ⟨66, 3, .arr 0 (srow (fun _ => 0) (fun _ => 0) (fun _ => false))⟩, some ⟨3, 1, .arr 0 (icol .i64 (fun _ => 0))⟩, some ⟨34, 1, .arr 0 (icol .i64 (fun _ => 0))⟩]) ?_ (by (repeat' first | exact trivial | rfl | (refine And.intro ?_ ?_) | (refine sti ?_; (first | rfl | omega | (simp (disch := omega) only [hS.glob, wraps, plain, Int.ofNat_eq_natCast]; first | done | rfl | omega | (simp; done) | (simp; omega)) | (simp (disch := omega) only [hS.glob, wraps, plain, Int.ofNat_eq_natCast, Vx.toN]; omega))) | (refine slq ?_ ?_ ?_ <;> (first | rfl | omega | (simp (disch := omega) only [hS.glob, wraps, plain, Int.ofNat_eq_natCast]; first | done | rfl | omega | (simp; done) | (simp; omega)) | (simp (disch := omega) only [hS.glob, wraps, plain, Int.ofNat_eq_natCast, Vx.toN]; omega))) | (refine ptq ?_ ?_ ?_ <;> (first | rfl | omega | (simp (disch := omega) only [hS.glob, wraps, plain, Int.ofNat_eq_natCast]; first | done | rfl | omega | (simp; done) | (simp; omega)) | (simp (disch := omega) only [hS.glob, wraps, plain, Int.ofNat_eq_natCast, Vx.toN]; omega))) | (refine blq ?_; (first | rfl | omega | (simp (disch := omega) only [hS.glob, wraps, plain, Int.ofNat_eq_natCast]; first | done | rfl | omega | (simp; done) | (simp; omega)) | (simp (disch := omega) only [hS.glob, wraps, plain, Int.ofNat_eq_natCast, Vx.toN]; omega))))) rfl (by (repeat' first | exact trivial | rfl | exact Nat.le_refl _ | exact (fun _ _ => rfl) | (refine And.intro ?_ ?_) | (simp only [hS.glob, plain]; first | done | omega))) (by rw [hC]; simp)
  refine V.pick [2, 3, 4, 5] (by decide) (by rw [hC]; exact begins_of rfl) (H' := mheap ln K ln e base 0 (fun _ => 0) (fun _ => 0) (fun _ => false) 0 0 0 0 (fun _ => 0) (fun _ => 0)) rfl (s' := [(7, .ptr 0 0 0), (30, .ptr 0 0 0)]) rfl ?_
  refine V.call rfl rfl rfl rfl rfl Try.func26 rfl (by decide) [0, 1, 2, 3] (by decide) (all_lt (by rfl)) (by (first | rfl | ((conv => cbv); (repeat' apply And.intro) <;> first | rfl | trivial | (first | rfl | omega | (simp (disch := omega) only [hS.glob, wraps, plain, Int.ofNat_eq_natCast]; first | done | rfl | omega | (simp; done) | (simp; omega)) | (simp (disch := omega) only [hS.glob, wraps, plain, Int.ofNat_eq_natCast, Vx.toN]; omega))))) (by rfl) (f26_ok ln K ln e base 0 (fun _ => 0) (fun _ => 0) (fun _ => false) 0 0 0 0 (fun _ => 0) (fun _ => 0) (fun _ => base) (fun _ => 13) (fun _ => false) rfl rfl rfl) ?_
  rintro r Hc ⟨rfl, rfl⟩
  clear hVV hVA VV VA hW W
  refine V.pick [0, 4, 5, 6] (by decide) (by rw [hC]; exact begins_of rfl) (H' := mheap ln K ln e base 1 (fun _ => base) (fun _ => 13) (fun _ => false) 0 0 0 0 (fun _ => 0) (fun _ => 0)) rfl rfl ?_
  refine V.go Try.func15 tl_ok mixed hS.ops [] 400 ?_
  intro VV VA W hVV hVA hW
  conv => cbv
  rw [hVV]
  refine V.callMap rfl rfl rfl rfl rfl Try.func27 rfl (by rfl) orders_run fun C' b hC' hmap => ?_
  clear hVV hVA VV VA hW W hC
  refine V.go Try.func15 tl_ok mixed hS.ops [] 400 ?_
  intro VV VA W hVV hVA hW
  conv => cbv
  rw [hVV]
  clear hVV hVA VV VA hW W
  have hlen : C'.H0.length = 4 := by rw [hC']; rfl
  clear hC'
  refine V.to (s' := [(38, .int .i64 (ofN 0)), (37, .int .i64 (ofN ln)), (36, .rows 1 ln (icol .i64 K)), (8, .mp b), (7, .ptr 0 0 0)]) (H' := mheap ln K ln e base 1 (fun _ => base) (fun _ => 13) (fun _ => false) 0 0 0 0 (fun _ => 0) (fun _ => 0)) ?_ (by (repeat' first | exact trivial | rfl | (refine And.intro ?_ ?_) | (refine sti ?_; (first | rfl | omega | (simp (disch := omega) only [hS.glob, wraps, plain, Int.ofNat_eq_natCast]; first | done | rfl | omega | (simp; done) | (simp; omega)) | (simp (disch := omega) only [hS.glob, wraps, plain, Int.ofNat_eq_natCast, Vx.toN]; omega))) | (refine slq ?_ ?_ ?_ <;> (first | rfl | omega | (simp (disch := omega) only [hS.glob, wraps, plain, Int.ofNat_eq_natCast]; first | done | rfl | omega | (simp; done) | (simp; omega)) | (simp (disch := omega) only [hS.glob, wraps, plain, Int.ofNat_eq_natCast, Vx.toN]; omega))) | (refine ptq ?_ ?_ ?_ <;> (first | rfl | omega | (simp (disch := omega) only [hS.glob, wraps, plain, Int.ofNat_eq_natCast]; first | done | rfl | omega | (simp; done) | (simp; omega)) | (simp (disch := omega) only [hS.glob, wraps, plain, Int.ofNat_eq_natCast, Vx.toN]; omega))) | (refine blq ?_; (first | rfl | omega | (simp (disch := omega) only [hS.glob, wraps, plain, Int.ofNat_eq_natCast]; first | done | rfl | omega | (simp; done) | (simp; omega)) | (simp (disch := omega) only [hS.glob, wraps, plain, Int.ofNat_eq_natCast, Vx.toN]; omega))))) rfl (by (repeat' first | exact trivial | rfl | exact Nat.le_refl _ | exact (fun _ _ => rfl) | (refine And.intro ?_ ?_) | (simp only [hS.glob, plain]; first | done | omega))) (by rw [hlen]; exact Nat.le_refl _)
  refine V.mv hlen [1, 2, 3] (by decide) (H' := nheap ln K ln e base 1 (fun _ => base) (fun _ => 13) (fun _ => false) 0 0 0 0 (fun _ => 0) (fun _ => 0)) rfl rfl ?_
  refine V.loop (γ := Mv) (fun p => p.i ≤ ln ∧ absM p.k p.lv p.ov p.is p.iso p.emb p.opn p.q p.xs p.cs = R p.i) (fun p => [(38, .int .i64 (ofN p.i)), (37, .int .i64 (ofN ln)), (36, .rows 1 ln (icol .i64 K)), (8, .mp b), (7, .ptr 0 0 0)]) (fun p => nheap ln K ln e base p.k p.lv p.ov p.is p.iso p.emb p.opn p.q p.xs p.cs) (fun p => ln - p.i) ?_ ⟨0, 1, fun _ => base, fun _ => 13, fun _ => false, 0, 0, 0, 0, fun _ => 0, fun _ => 0⟩ ⟨Nat.zero_le _, by rw [hS0]; rfl⟩
  rintro ⟨i, k, lv, ov, is, iso, emb, opn, q, xs, cs⟩ ⟨hi, hM⟩ hback
  dsimp only at hi hM hback ⊢
  have good := hG i
  rw [← hM] at good
  have hq : q = i := by have := good.xs; simpa only [absM, tab_len] using this
  refine V.go Try.func15 tl_ok mixed hS.ops [] 400 ?_
  intro VV VA W hVV hVA hW
  conv => cbv
  split <;> rename_i h1
  rotate_left
  · conv => cbv
    simp (disch := first | omega | (simp only [hS.glob, wraps, plain, Int.ofNat_eq_natCast]; omega)) only [hS.glob, wraps, plain, Int.ofNat_eq_natCast] at h1
    refine ⟨by rw [hW]; show ordOk _ _ _ = true; kernel_rfl, ?_⟩
    obtain rfl : i = ln := by omega
    subst hq
    exact ⟨xs, cs, rfl, ⟨_, _, _, _, _, rfl⟩, by rw [← hM]; rfl, by rw [← hM]; rfl⟩
  · conv => cbv
    simp (disch := first | omega | (simp only [hS.glob, wraps, plain, Int.ofNat_eq_natCast]; omega)) only [hS.glob, wraps, plain, Int.ofNat_eq_natCast] at h1
    repeat (refine ⟨by first | (rw [hW]; show ordOk _ _ _ = true; kernel_rfl) | (first | trivial | omega | (simp (disch := omega) only [hS.glob, wraps, plain, Int.ofNat_eq_natCast]; first | done | omega | trivial | (simp; done) | (simp; omega) | (constructor <;> omega)) | (simp (disch := omega) only [hS.glob, wraps, plain, Int.ofNat_eq_natCast, Vx.toN]; omega)), ?_⟩)
    simp only [hS.tidy]
    obtain ⟨c, hc⟩ : ∃ c, c = K i := ⟨_, rfl⟩
    rw [← hc]
    have spec := step_ok ln K ln e base k lv ov is iso emb opn q xs cs i (by omega) (ofN i) (by simp (disch := first | omega | (simp only [hS.glob, wraps, plain, Int.ofNat_eq_natCast]; omega)) only [hS.glob, wraps, plain, Int.ofNat_eq_natCast]) rfl hl (fun j hj => by have := hE j; omega) hb good
    rw [hM, ← hSs i, ← hc] at spec
    rw [hVV]
    refine V.lookup (kt := 34) (et := 52) rfl rfl rfl rfl rfl rfl hmap (by kernel_rfl) (by kernel_rfl) zero52 (.nilFunc _ _) mapPs mapPs_ok avF avF_ok (fun v hv => ?_) (fun hv => ?_)
    · rw [seek_map] at hv
      split at hv
      · injection hv with hv
        subst hv
        obtain ⟨fn, f1, f2, f3⟩ := stepG_fn c
        generalize stepG c = g at spec f1
        clear hVV hVA VV VA hW W
        refine V.go Try.func15 tl_ok mixed hS.ops [] 400 ?_
        intro VV VA W hVV hVA hW
        conv => cbv
        rw [hVV]
        refine V.call rfl rfl rfl rfl rfl f1 f2 f3 [0, 4, 5, 6] (by decide) (all_lt (by rfl)) (by (first | rfl | ((conv => cbv); (repeat' apply And.intro) <;> first | rfl | trivial | (first | rfl | omega | (simp (disch := omega) only [hS.glob, wraps, plain, Int.ofNat_eq_natCast]; first | done | rfl | omega | (simp; done) | (simp; omega)) | (simp (disch := omega) only [hS.glob, wraps, plain, Int.ofNat_eq_natCast, Vx.toN]; omega))))) (by rfl) spec ?_
        clear spec
        rintro r Hc ⟨rfl, k2, lv2, ov2, is2, iso2, emb2, opn2, q2, xs2, cs2, rfl, hM2⟩
        clear hVV hVA VV VA hW W
        refine V.pick [0, 1, 2, 3, 7, 8, 9] (by decide) (by rw [hlen]; exact begins_of rfl) rfl rfl ?_
        refine V.go Try.func15 tl_ok mixed hS.ops [] 400 ?_
        intro VV VA W hVV hVA hW
        conv => cbv
        rw [hVV]
        exact V.to (hback ⟨i + 1, k2, lv2, ov2, is2, iso2, emb2, opn2, q2, xs2, cs2⟩ ⟨by simp only; omega, hM2⟩ (by simp only; omega)) (by (repeat' first | exact trivial | rfl | (refine And.intro ?_ ?_) | (refine sti ?_; (first | rfl | omega | (simp (disch := omega) only [hS.glob, wraps, plain, Int.ofNat_eq_natCast]; first | done | rfl | omega | (simp; done) | (simp; omega)) | (simp (disch := omega) only [hS.glob, wraps, plain, Int.ofNat_eq_natCast, Vx.toN]; omega))) | (refine slq ?_ ?_ ?_ <;> (first | rfl | omega | (simp (disch := omega) only [hS.glob, wraps, plain, Int.ofNat_eq_natCast]; first | done | rfl | omega | (simp; done) | (simp; omega)) | (simp (disch := omega) only [hS.glob, wraps, plain, Int.ofNat_eq_natCast, Vx.toN]; omega))) | (refine ptq ?_ ?_ ?_ <;> (first | rfl | omega | (simp (disch := omega) only [hS.glob, wraps, plain, Int.ofNat_eq_natCast]; first | done | rfl | omega | (simp; done) | (simp; omega)) | (simp (disch := omega) only [hS.glob, wraps, plain, Int.ofNat_eq_natCast, Vx.toN]; omega))) | (refine blq ?_; (first | rfl | omega | (simp (disch := omega) only [hS.glob, wraps, plain, Int.ofNat_eq_natCast]; first | done | rfl | omega | (simp; done) | (simp; omega)) | (simp (disch := omega) only [hS.glob, wraps, plain, Int.ofNat_eq_natCast, Vx.toN]; omega))))) rfl (by (repeat' first | exact trivial | rfl | exact Nat.le_refl _ | exact (fun _ _ => rfl) | (refine And.intro ?_ ?_) | (simp only [hS.glob, plain]; first | done | omega))) (by rw [hlen]; exact Nat.le_add_right 4 3)
      · cases hv
    · rw [seek_map] at hv
      split at hv
      · cases hv
      · rename_i hin
        have hin' : inMap c = false := by simpa using hin
        rw [stepG_not hin'] at spec
        clear hVV hVA VV VA hW W
        refine V.go Try.func15 tl_ok mixed hS.ops [] 400 ?_
        intro VV VA W hVV hVA hW
        conv => cbv
        rw [hVV]
        refine V.call rfl rfl rfl rfl rfl Try.func28 rfl (by decide) [0, 4, 5, 6] (by decide) (all_lt (by rfl)) (by (first | rfl | ((conv => cbv); (repeat' apply And.intro) <;> first | rfl | trivial | (first | rfl | omega | (simp (disch := omega) only [hS.glob, wraps, plain, Int.ofNat_eq_natCast]; first | done | rfl | omega | (simp; done) | (simp; omega)) | (simp (disch := omega) only [hS.glob, wraps, plain, Int.ofNat_eq_natCast, Vx.toN]; omega))))) (by rfl) spec ?_
        clear spec
        rintro r Hc ⟨rfl, k2, lv2, ov2, is2, iso2, emb2, opn2, q2, xs2, cs2, rfl, hM2⟩
        clear hVV hVA VV VA hW W
        refine V.pick [0, 1, 2, 3, 7, 8, 9] (by decide) (by rw [hlen]; exact begins_of rfl) rfl rfl ?_
        refine V.go Try.func15 tl_ok mixed hS.ops [] 400 ?_
        intro VV VA W hVV hVA hW
        conv => cbv
        rw [hVV]
        exact V.to (hback ⟨i + 1, k2, lv2, ov2, is2, iso2, emb2, opn2, q2, xs2, cs2⟩ ⟨by simp only; omega, hM2⟩ (by simp only; omega)) (by (repeat' first | exact trivial | rfl | (refine And.intro ?_ ?_) | (refine sti ?_; (first | rfl | omega | (simp (disch := omega) only [hS.glob, wraps, plain, Int.ofNat_eq_natCast]; first | done | rfl | omega | (simp; done) | (simp; omega)) | (simp (disch := omega) only [hS.glob, wraps, plain, Int.ofNat_eq_natCast, Vx.toN]; omega))) | (refine slq ?_ ?_ ?_ <;> (first | rfl | omega | (simp (disch := omega) only [hS.glob, wraps, plain, Int.ofNat_eq_natCast]; first | done | rfl | omega | (simp; done) | (simp; omega)) | (simp (disch := omega) only [hS.glob, wraps, plain, Int.ofNat_eq_natCast, Vx.toN]; omega))) | (refine ptq ?_ ?_ ?_ <;> (first | rfl | omega | (simp (disch := omega) only [hS.glob, wraps, plain, Int.ofNat_eq_natCast]; first | done | rfl | omega | (simp; done) | (simp; omega)) | (simp (disch := omega) only [hS.glob, wraps, plain, Int.ofNat_eq_natCast, Vx.toN]; omega))) | (refine blq ?_; (first | rfl | omega | (simp (disch := omega) only [hS.glob, wraps, plain, Int.ofNat_eq_natCast]; first | done | rfl | omega | (simp; done) | (simp; omega)) | (simp (disch := omega) only [hS.glob, wraps, plain, Int.ofNat_eq_natCast, Vx.toN]; omega))))) rfl (by (repeat' first | exact trivial | rfl | exact Nat.le_refl _ | exact (fun _ _ => rfl) | (refine And.intro ?_ ?_) | (simp only [hS.glob, plain]; first | done | omega))) (by rw [hlen]; exact Nat.le_add_right 4 3)

/-- 'Levels', the base being none, 0 or 1. -/
def baseOf (ln : Nat) (l : Nat → Int) (b : Int) : Int := if b = -1 then strB ln l else b
theorem f15_ok (ln : Nat) (l : Nat → Int) (hl : ln ≤ 999999) (b : Int) (hb : -1 ≤ b ∧ b ≤ 1) : FSpec Try.prog 15 [.rows 1 ln (icol .i64 l), .int .i64 b] [] (LQ ln (levM ln l (baseOf ln l b))) := by
  refine FSpec.repick (Q := fun r H' => ∃ xs cs : Nat → Int, r = .tup [.sl 5 0 ln, .sl 6 0 ln, .int .i64 0] ∧ (∃ a b c d x, H' = [a, b, c, d, x, some ⟨3, 1, .arr ln (icol .i64 xs)⟩, some ⟨34, 1, .arr ln (icol .i64 cs)⟩]) ∧ tab ln xs = (levM ln l (baseOf ln l b)).xs ∧ tab ln cs = (levM ln l (baseOf ln l b)).cs) ?_ ?_
  · unfold baseOf
    by_cases h : b = -1
    · subst h
      rw [if_pos rfl]
      exact f15_none1 ln l hl _ rfl
    · rw [if_neg h]
      exact f15_known1 ln l hl b (by omega)
  · rintro r H' ⟨xs, cs, rfl, ⟨_, _, _, _, _, rfl⟩, hx, hc⟩
    exact ⟨[5, 6], by decide, fun k hk => by simp at hk, xs, cs, rfl, rfl, hx, hc⟩
end Go.Proofs.Ytihmolafajmbjaa

/- The live question. -/
namespace Go.Proofs.Ytihmolafajmbjaa
open Go Vx

def AL : Nat → Int := fun j => [0, 16, 1, 19, 0, 22, 18, 21, 2, 22].getD j 0
def AX : Nat → Int := fun j => [0, -1, 1, 1, 2, 1, -1, 0, 1, 0].getD j 0
theorem al_xs : (levM 10 AL (baseOf 10 AL 0)).xs = tab 10 AX := by kernel_rfl
theorem al_match : (mrun AL 10).2 3 = 5 := by kernel_rfl
theorem al_strong : sgo (fun j => AL (1 + j)) (mrun (fun j => AL (1 + j)) 9).2 9 9 0 = 1 := by kernel_rfl
theorem tab_inj {α : Type} {n : Nat} {f g : Nat → α} (h : tab n f = tab n g) : ∀ j, j < n → f j = g j := by
  intro j hj
  have h1 : (tab n f)[j]? = (tab n g)[j]? := by rw [h]
  simpa [tab, hj] using h1
theorem al_rows : ∀ i, i < 10 → icol .i64 AL i = [[.int .i64 0], [.int .i64 16], [.int .i64 1], [.int .i64 19], [.int .i64 0], [.int .i64 22], [.int .i64 18], [.int .i64 21], [.int .i64 2], [AV.int .i64 22]].getD i [] := by
  intro i hi
  match i, hi with
  | 0, _ => rfl
  | 1, _ => rfl
  | 2, _ => rfl
  | 3, _ => rfl
  | 4, _ => rfl
  | 5, _ => rfl
  | 6, _ => rfl
  | 7, _ => rfl
  | 8, _ => rfl
  | 9, _ => rfl
theorem ax_rows : ∀ i, i < 10 → icol .i64 AX i = [[.int .i64 0], [.int .i64 (-1)], [.int .i64 1], [.int .i64 1], [.int .i64 2], [.int .i64 1], [.int .i64 (-1)], [.int .i64 0], [.int .i64 1], [AV.int .i64 0]].getD i [] := by
  intro i hi
  match i, hi with
  | 0, _ => rfl
  | 1, _ => rfl
  | 2, _ => rfl
  | 3, _ => rfl
  | 4, _ => rfl
  | 5, _ => rfl
  | 6, _ => rfl
  | 7, _ => rfl
  | 8, _ => rfl
  | 9, _ => rfl

theorem f8_ok1 : FSpec Try.prog 8 [] [] (fun r H' => r = .bool true) := by
  have h15 := f15_ok 10 AL (by decide) 0 (by decide)
  have h15b := f15_err 10 AL 2 (by decide)
  have h10 := f10_ok 10 AL (by decide)
  have h13 := f13_ok 9 (fun j => AL (1 + j)) (by decide) 1 al_strong
  have hm := al_match
  have hx := al_xs
  have ha := al_rows
  have hb := ax_rows
  generalize levM 10 AL (baseOf 10 AL 0) = M at h15 hx
  generalize (mrun AL 10).2 = e at h10 hm
  generalize hA : (fun j => AL (1 + j)) = A1 at h13
  generalize AX = X at hb hx
  generalize hAL : AL = A at h15 h15b h10 ha hA
  refine FSpec.of (fn := Try.f8) Try.func8 rfl rfl (by simp) fun C hC => ?_
  obtain ⟨iadd, isub, imul, iquo, irem, iband, ibor, ibxor, ibandn, ishl, ishr, iconv, ieq, ine, ilt, ile, igt, ige, bbeq, bbne, bnot, bband, sseq, ssne, sscat, sssub, sslen, sssz, ssbyte, toN, ofN, addN, subN, eqN, ltB, leN, imx, imn, inb, leb, sslt, ltN, fit, ne0, ge0, ssfit, minN, inR, hS⟩ := names
  refine V.go Try.func8 tl_ok mixed hS.ops [] 8 ?_
  intro VV VA W hVV hVA hW
  conv => cbv
  rw [hVV]
  clear hVV hVA VV VA hW W
  refine V.to (s' := [(1, .sl 0 0 10)]) (H' := [some ⟨34, 1, .arr 10 (icol .i64 A)⟩]) ?_ (by (repeat' first | exact trivial | rfl | (refine And.intro ?_ ?_) | (refine sti ?_; (first | rfl | omega | (simp (disch := omega) only [hS.glob, wraps, plain, Int.ofNat_eq_natCast]; first | done | rfl | omega | (simp; done) | (simp; omega)) | (simp (disch := omega) only [hS.glob, wraps, plain, Int.ofNat_eq_natCast, Vx.toN]; omega))) | (refine slq ?_ ?_ ?_ <;> (first | rfl | omega | (simp (disch := omega) only [hS.glob, wraps, plain, Int.ofNat_eq_natCast]; first | done | rfl | omega | (simp; done) | (simp; omega)) | (simp (disch := omega) only [hS.glob, wraps, plain, Int.ofNat_eq_natCast, Vx.toN]; omega))) | (refine ptq ?_ ?_ ?_ <;> (first | rfl | omega | (simp (disch := omega) only [hS.glob, wraps, plain, Int.ofNat_eq_natCast]; first | done | rfl | omega | (simp; done) | (simp; omega)) | (simp (disch := omega) only [hS.glob, wraps, plain, Int.ofNat_eq_natCast, Vx.toN]; omega))) | (refine blq ?_; (first | rfl | omega | (simp (disch := omega) only [hS.glob, wraps, plain, Int.ofNat_eq_natCast]; first | done | rfl | omega | (simp; done) | (simp; omega)) | (simp (disch := omega) only [hS.glob, wraps, plain, Int.ofNat_eq_natCast, Vx.toN]; omega))))) rfl ⟨⟨rfl, rfl, ⟨Nat.le_refl _, rfl, ha⟩, rfl⟩, trivial⟩ (by rw [hC]; simp)
  refine V.freeze0 1 0 10 (by rfl) (by rfl) (by rfl) (by first | decide | omega | exact Nat.zero_lt_one) (by rfl) (by rfl) (by first | exact Nat.le_refl _ | decide | omega | (simp only [Cont.n]; omega)) ?_
  refine V.go Try.func8 tl_ok mixed hS.ops [] 400 ?_
  intro VV VA W hVV hVA hW
  conv => cbv
  rw [hVV]
  refine V.call rfl rfl rfl rfl rfl Try.func15 rfl (by decide) [] (by simp) (by simp) (by (first | rfl | ((conv => cbv); (repeat' apply And.intro) <;> first | rfl | trivial | (first | rfl | omega | (simp (disch := omega) only [hS.glob, wraps, plain, Int.ofNat_eq_natCast]; first | done | rfl | omega | (simp; done) | (simp; omega)) | (simp (disch := omega) only [hS.glob, wraps, plain, Int.ofNat_eq_natCast, Vx.toN]; omega))))) rfl h15 ?_
  rintro r Hc ⟨xs, cs, rfl, rfl, g1, g2⟩
  rw [hx] at g1
  have g1' := tab_inj g1
  clear hVV hVA VV VA hW W g1 g2 hx
  refine V.go Try.func8 tl_ok mixed hS.ops [] 400 ?_
  intro VV VA W hVV hVA hW
  conv => cbv
  rw [hVV]
  refine V.call rfl rfl rfl rfl rfl Try.func15 rfl (by decide) [] (by simp) (by simp) (by (first | rfl | ((conv => cbv); (repeat' apply And.intro) <;> first | rfl | trivial | (first | rfl | omega | (simp (disch := omega) only [hS.glob, wraps, plain, Int.ofNat_eq_natCast]; first | done | rfl | omega | (simp; done) | (simp; omega)) | (simp (disch := omega) only [hS.glob, wraps, plain, Int.ofNat_eq_natCast, Vx.toN]; omega))))) rfl h15b ?_
  rintro r Hc ⟨rfl, rfl⟩
  clear hVV hVA VV VA hW W
  refine V.go Try.func8 tl_ok mixed hS.ops [] 400 ?_
  intro VV VA W hVV hVA hW
  conv => cbv
  have e1 : ieq 0 0 = true := by simp (disch := first | omega | (simp only [hS.glob, wraps, plain, Int.ofNat_eq_natCast]; omega)) only [hS.glob, wraps, plain, Int.ofNat_eq_natCast]
  have e2 : ieq 81 81 = true := by simp (disch := first | omega | (simp only [hS.glob, wraps, plain, Int.ofNat_eq_natCast]; omega)) only [hS.glob, wraps, plain, Int.ofNat_eq_natCast]
  simp only [e1]
  conv => cbv
  simp only [e2]
  conv => cbv
  rw [hVV]
  clear hVV hVA VV VA hW W e1 e2
  refine V.to (s' := [(29, .sl 3 0 10), (28, .sl 1 0 10), (27, .bool true), (3, .sl 2 0 10), (1, .rows 1 10 (icol .i64 A))]) (H' := [none, some ⟨3, 1, .arr 10 (icol .i64 xs)⟩, some ⟨34, 1, .arr 10 (icol .i64 cs)⟩, some ⟨3, 1, .arr 10 (icol .i64 X)⟩]) ?_ (by (repeat' first | exact trivial | rfl | (refine And.intro ?_ ?_) | (refine sti ?_; (first | rfl | omega | (simp (disch := omega) only [hS.glob, wraps, plain, Int.ofNat_eq_natCast]; first | done | rfl | omega | (simp; done) | (simp; omega)) | (simp (disch := omega) only [hS.glob, wraps, plain, Int.ofNat_eq_natCast, Vx.toN]; omega))) | (refine slq ?_ ?_ ?_ <;> (first | rfl | omega | (simp (disch := omega) only [hS.glob, wraps, plain, Int.ofNat_eq_natCast]; first | done | rfl | omega | (simp; done) | (simp; omega)) | (simp (disch := omega) only [hS.glob, wraps, plain, Int.ofNat_eq_natCast, Vx.toN]; omega))) | (refine ptq ?_ ?_ ?_ <;> (first | rfl | omega | (simp (disch := omega) only [hS.glob, wraps, plain, Int.ofNat_eq_natCast]; first | done | rfl | omega | (simp; done) | (simp; omega)) | (simp (disch := omega) only [hS.glob, wraps, plain, Int.ofNat_eq_natCast, Vx.toN]; omega))) | (refine blq ?_; (first | rfl | omega | (simp (disch := omega) only [hS.glob, wraps, plain, Int.ofNat_eq_natCast]; first | done | rfl | omega | (simp; done) | (simp; omega)) | (simp (disch := omega) only [hS.glob, wraps, plain, Int.ofNat_eq_natCast, Vx.toN]; omega))))) rfl ⟨⟨rfl, rfl, ⟨Nat.le_refl _, fun _ _ => rfl⟩, rfl⟩, ⟨rfl, rfl, ⟨Nat.le_refl _, fun _ _ => rfl⟩, rfl⟩, ⟨rfl, rfl, ⟨Nat.le_refl _, rfl, hb⟩, rfl⟩, trivial⟩ (by rw [hC]; simp)
  refine V.freeze0 28 1 10 (by rfl) (by rfl) (by rfl) (by first | decide | omega | exact Nat.zero_lt_one) (by rfl) (by rfl) (by first | exact Nat.le_refl _ | decide | omega | (simp only [Cont.n]; omega)) ?_
  refine V.freeze0 29 3 10 (by rfl) (by rfl) (by rfl) (by first | decide | omega | exact Nat.zero_lt_one) (by rfl) (by rfl) (by first | exact Nat.le_refl _ | decide | omega | (simp only [Cont.n]; omega)) ?_
  refine V.call rfl rfl rfl rfl rfl Try.func9 rfl (by decide) [] (by simp) (by simp) (by (first | rfl | ((conv => cbv); (repeat' apply And.intro) <;> first | rfl | trivial | (first | rfl | omega | (simp (disch := omega) only [hS.glob, wraps, plain, Int.ofNat_eq_natCast]; first | done | rfl | omega | (simp; done) | (simp; omega)) | (simp (disch := omega) only [hS.glob, wraps, plain, Int.ofNat_eq_natCast, Vx.toN]; omega))))) rfl (f9_ok 10 10 xs X true ⟨fun _ => ⟨rfl, g1'⟩, fun _ => rfl⟩) ?_
  rintro r Hc ⟨rfl, rfl⟩
  refine V.go Try.func8 tl_ok mixed hS.ops [] 400 ?_
  intro VV VA W hVV hVA hW
  conv => cbv
  have e1 : ieq (ofN 10) 10 = true := by simp (disch := first | omega | (simp only [hS.glob, wraps, plain, Int.ofNat_eq_natCast]; omega)) only [hS.glob, wraps, plain, Int.ofNat_eq_natCast]; rfl
  simp only [e1]
  conv => cbv
  rw [hVV]
  clear hVV hVA VV VA hW W e1
  refine V.call rfl rfl rfl rfl rfl Try.func10 rfl (by decide) [] (by simp) (by simp) (by (first | rfl | ((conv => cbv); (repeat' apply And.intro) <;> first | rfl | trivial | (first | rfl | omega | (simp (disch := omega) only [hS.glob, wraps, plain, Int.ofNat_eq_natCast]; first | done | rfl | omega | (simp; done) | (simp; omega)) | (simp (disch := omega) only [hS.glob, wraps, plain, Int.ofNat_eq_natCast, Vx.toN]; omega))))) rfl h10 ?_
  rintro r Hc ⟨rfl, rfl⟩
  refine V.go Try.func8 tl_ok mixed hS.ops [] 400 ?_
  intro VV VA W hVV hVA hW
  conv => cbv
  repeat (refine ⟨by first | (rw [hW]; show ordOk _ _ _ = true; kernel_rfl) | (first | trivial | omega | (simp (disch := omega) only [hS.glob, wraps, plain, Int.ofNat_eq_natCast]; first | done | omega | trivial | (simp; done) | (simp; omega) | (constructor <;> omega)) | (simp (disch := omega) only [hS.glob, wraps, plain, Int.ofNat_eq_natCast, Vx.toN]; omega)), ?_⟩)
  have e1 : e (addN 0 (toN 3)) = 5 := by rw [show addN 0 (toN 3) = 3 by simp (disch := first | omega | (simp only [hS.glob, wraps, plain, Int.ofNat_eq_natCast]; omega)) only [hS.glob, wraps, plain, Int.ofNat_eq_natCast]]; exact hm
  have e2 : ieq 5 5 = true := by simp (disch := first | omega | (simp only [hS.glob, wraps, plain, Int.ofNat_eq_natCast]; omega)) only [hS.glob, wraps, plain, Int.ofNat_eq_natCast]
  simp only [e1, e2]
  conv => cbv
  repeat (refine ⟨by first | (rw [hW]; show ordOk _ _ _ = true; kernel_rfl) | (first | trivial | omega | (simp (disch := omega) only [hS.glob, wraps, plain, Int.ofNat_eq_natCast]; first | done | omega | trivial | (simp; done) | (simp; omega) | (constructor <;> omega)) | (simp (disch := omega) only [hS.glob, wraps, plain, Int.ofNat_eq_natCast, Vx.toN]; omega)), ?_⟩)
  rw [hVV]
  clear hVV hVA VV VA hW W e1 e2
  have e4 : ∀ (n : Nat) (f : Nat → List AV), n = 9 → (∀ j, f j = [.int .i64 (A1 j)]) → AV.rows 1 n f = AV.rows 1 9 (icol .i64 A1) := by
    rintro n f rfl h
    rw [funext h]; rfl
  refine V.to (s' := [(46, .rows 1 9 (icol .i64 A1)), (44, .bool true)]) (H' := []) ?_ ⟨e4 _ _ (by simp (disch := first | omega | (simp only [hS.glob, wraps, plain, Int.ofNat_eq_natCast]; omega)) only [hS.glob, wraps, plain, Int.ofNat_eq_natCast]) (fun j => ?_), rfl, trivial⟩ rfl (by (repeat' first | exact trivial | rfl | exact Nat.le_refl _ | exact (fun _ _ => rfl) | (refine And.intro ?_ ?_) | (simp only [hS.glob, plain]; first | done | omega))) (by rw [hC]; simp)
  rotate_left
  · show [AV.int .i64 (A (addN (toN 1) j))] = _
    rw [← hA]
    have : addN (toN 1) j = 1 + j := by simp (disch := first | omega | (simp only [hS.glob, wraps, plain, Int.ofNat_eq_natCast]; omega)) only [hS.glob, wraps, plain, Int.ofNat_eq_natCast]
    rw [this]
  refine V.call rfl rfl rfl rfl rfl Try.func13 rfl (by decide) [] (by simp) (by simp) (by (first | rfl | ((conv => cbv); (repeat' apply And.intro) <;> first | rfl | trivial | (first | rfl | omega | (simp (disch := omega) only [hS.glob, wraps, plain, Int.ofNat_eq_natCast]; first | done | rfl | omega | (simp; done) | (simp; omega)) | (simp (disch := omega) only [hS.glob, wraps, plain, Int.ofNat_eq_natCast, Vx.toN]; omega))))) rfl h13 ?_
  rintro r Hc ⟨rfl, rfl⟩
  refine V.go Try.func8 tl_ok mixed hS.ops [] 400 ?_
  intro VV VA W hVV hVA hW
  conv => cbv
  have e1 : ieq 1 1 = true := by simp (disch := first | omega | (simp only [hS.glob, wraps, plain, Int.ofNat_eq_natCast]; omega)) only [hS.glob, wraps, plain, Int.ofNat_eq_natCast]
  rw [e1]
theorem f8_ok : FSpec Try.prog 8 [] [] (fun r H' => r = .bool true ∧ H' = []) := by
  refine f8_ok1.weaken ?_
  rintro r H' rfl
  exact ⟨[], by cases H' <;> simp [heapCov], rfl, Nat.le_refl _, rfl, rfl⟩
end Go.Proofs.Ytihmolafajmbjaa

/- Where isolates end: by a stack, and by definition. -/
namespace Go.Proofs.Ytihmolafajmbjaa
open Go Vx

structure MI (ln : Nat) (l : Nat → Int) (k : Nat) : Prop where
  pw : (mrun l k).1.Pairwise (· < ·)
  lt : ∀ x ∈ (mrun l k).1, x < k
  is : ∀ j : Nat, j < k → (∃ a b, (mrun l k).1 = a ++ (j : Int) :: b ∧ (mrun l k).2 j = -1 ∧ begC (l j) = true ∧ escan l (ln - (j + 1)) (j + 1) 1 = escan l (ln - k) k (b.length + 1)) ∨
    ((mrun l k).2 j = endOf ln l j ∧ (j : Int) ∉ (mrun l k).1)

theorem mi_step {ln : Nat} {l : Nat → Int} {k : Nat} (hk : k < ln) (h : MI ln l k) : MI ln l (k + 1) := by
  obtain ⟨pw, lt, is⟩ := h
  have hout := mrun_out l k k
  have hrun : mrun l (k + 1) = mstep (l k) k (mrun l k) := rfl
  obtain ⟨d, hd⟩ : ∃ d, ln - k = d + 1 := ⟨ln - k - 1, by omega⟩
  have hd' : ln - (k + 1) = d := by omega
  have hesc : ∀ o, escan l (ln - k) k o = if l k = 10 then -1 else if begC (l k) then escan l d (k + 1) (o + 1) else if l k = 22 then (if o = 1 then (k : Int) else escan l d (k + 1) (o - 1)) else escan l d (k + 1) o := by
    intro o; rw [hd, escan]
  have h10 : begC 10 = false := rfl
  have h22 : begC 22 = false := rfl
  have hnk : ((k : Nat) : Int) ∉ (mrun l k).1 := fun hm => by have := lt _ hm; omega
  generalize mrun l k = m at pw lt is hout hrun hnk
  obtain ⟨st, out⟩ := m
  simp only at pw lt is hout hnk
  have okk : out k = -1 := by omega
  have endk : begC (l k) = false → endOf ln l k = -1 := fun h => by simp [endOf, h]
  simp only [mstep] at hrun
  by_cases c10 : l k = 10
  · rw [if_pos c10] at hrun
    refine ⟨by rw [hrun]; exact .nil, by rw [hrun]; simp, fun j hj => .inr ⟨?_, by rw [hrun]; simp⟩⟩
    rw [hrun]
    show out j = endOf ln l j
    by_cases hjk : j = k
    · subst hjk
      rw [okk, endk (by rw [c10]; rfl)]
    · rcases is j (by omega) with ⟨a, b, _, h2, h3, h4⟩ | h
      · rw [hesc, if_pos c10] at h4
        rw [h2, endOf, if_pos h3, h4]
      · exact h.1
  rw [if_neg c10] at hrun
  cases cb : begC (l k) with
  | true =>
    rw [cb, if_pos rfl] at hrun
    refine ⟨?_, ?_, fun j hj => ?_⟩
    · rw [hrun]
      exact List.pairwise_append.2 ⟨pw, by simp, fun x hx y hy => by simp at hy; subst hy; exact lt x hx⟩
    · rw [hrun]
      intro x hx
      simp only [List.mem_append, List.mem_singleton] at hx
      rcases hx with hx | rfl
      · have := lt x hx; omega
      · omega
    · rw [hrun, hd']
      by_cases hjk : j = k
      · subst hjk
        exact .inl ⟨st, [], rfl, okk, cb, by rw [hd']; rfl⟩
      · rcases is j (by omega) with ⟨a, b, h1, h2, h3, h4⟩ | h
        · rw [hesc, if_neg c10, cb, if_pos rfl] at h4
          exact .inl ⟨a, b ++ [(k : Int)], by rw [h1]; simp, h2, h3, by rw [h4]; simp⟩
        · refine .inr ⟨h.1, fun hm => ?_⟩
          simp only [List.mem_append, List.mem_singleton] at hm
          rcases hm with hm | hm
          · exact h.2 hm
          · omega
  | false =>
    rw [cb, if_neg (by simp)] at hrun
    by_cases c22 : l k = 22
    · rw [if_pos c22] at hrun
      by_cases hst : st = []
      · rw [if_pos hst] at hrun
        refine ⟨by rw [hrun]; exact pw, by rw [hrun]; intro x hx; have := lt x hx; omega, fun j hj => .inr ?_⟩
        rw [hrun]
        by_cases hjk : j = k
        · subst hjk
          exact ⟨(okk.trans (endk cb).symm), hnk⟩
        · rcases is j (by omega) with ⟨a, b, h1, _⟩ | h
          · rw [hst] at h1; cases a <;> cases h1
          · exact h
      · rw [if_neg hst] at hrun
        obtain ⟨s, x, rfl⟩ := snoc_of hst
        have hx : (s ++ [x]).getD ((s ++ [x]).length - 1) 0 = x := by simp
        rw [hx, List.dropLast_concat] at hrun
        have pw2 := List.pairwise_append.1 pw
        refine ⟨by rw [hrun]; exact pw2.1, by rw [hrun]; intro y hy; have := lt y (by simp [hy]); omega, fun j hj => ?_⟩
        rw [hrun, hd']
        simp only
        by_cases hjk : j = k
        · subst hjk
          refine .inr ⟨?_, fun hm => hnk (by simp [hm])⟩
          rw [if_neg (fun e => hnk (by simp [e])), okk, endk cb]
        · rcases is j (by omega) with ⟨a, b, h1, h2, h3, h4⟩ | h
          · rw [hesc, if_neg c10, cb, if_neg (by simp), if_pos c22] at h4
            rcases List.eq_nil_or_concat b with rfl | ⟨b', y, rfl⟩
            · have e2 : s = a ∧ x = j := by
                have := List.append_inj' h1 rfl
                exact ⟨this.1, by simpa using this.2⟩
              obtain ⟨rfl, rfl⟩ := e2
              refine .inr ⟨?_, fun hm => ?_⟩
              · rw [if_pos rfl, endOf, if_pos h3, h4]; rfl
              · have := pw2.2.2 _ hm (j : Int) (by simp); omega
            · rw [List.concat_eq_append] at h1 h4
              have h1' : s ++ [x] = (a ++ (j : Int) :: b') ++ [y] := by rw [h1]; simp
              have e2 := List.append_inj' h1' rfl
              have hjs : (j : Int) ∈ s := by rw [e2.1]; simp
              have hlt := pw2.2.2 _ hjs x (by simp)
              rw [if_neg (by simp)] at h4
              exact .inl ⟨a, b', e2.1, by rw [if_neg (by omega)]; exact h2, h3, by rw [h4]; simp⟩
          · refine .inr ⟨?_, fun hm => h.2 (by simp [hm])⟩
            rw [if_neg (fun e => h.2 (by simp [e]))]; exact h.1
    · rw [if_neg c22] at hrun
      refine ⟨by rw [hrun]; exact pw, by rw [hrun]; intro x hx; have := lt x hx; omega, fun j hj => ?_⟩
      rw [hrun, hd']
      by_cases hjk : j = k
      · subst hjk
        exact .inr ⟨(okk.trans (endk cb).symm), hnk⟩
      · rcases is j (by omega) with ⟨a, b, h1, h2, h3, h4⟩ | h
        · rw [hesc, if_neg c10, cb, if_neg (by simp), if_neg c22] at h4
          exact .inl ⟨a, b, h1, h2, h3, h4⟩
        · exact .inr h
theorem mi_all (ln : Nat) (l : Nat → Int) : ∀ k, k ≤ ln → MI ln l k
  | 0, _ => ⟨by simp [mrun], by simp [mrun], fun j hj => absurd hj (Nat.not_lt_zero _)⟩
  | k + 1, h => mi_step h (mi_all ln l k (by omega))
/-- Both ways to tell where isolates end are one. -/
theorem match_eq (ln : Nat) (l : Nat → Int) (j : Nat) (hj : j < ln) : (mrun l ln).2 j = endOf ln l j := by
  rcases (mi_all ln l ln (Nat.le_refl _)).is j hj with ⟨a, b, _, h2, h3, h4⟩ | h
  · rw [Nat.sub_self] at h4
    rw [h2, endOf, if_pos h3, h4]; rfl
  · exact h.1
/-- What the first strong makes looks at ends of the list alone. -/
theorem sgo_congr (l e e' : Nat → Int) (to : Nat) (h : ∀ j, j < to → e j = e' j) : ∀ f i, sgo l e to f i = sgo l e' to f i
  | 0, _ => rfl
  | f + 1, i => by
    have h1 := sgo_congr l e e' to h f
    simp only [sgo]
    by_cases hi : i < to
    · simp only [if_pos hi, h i hi, h1]
    · simp only [if_neg hi]
end Go.Proofs.Ytihmolafajmbjaa

/- The law of 'Match' and 'Strong'. -/
namespace Go.Proofs.Ytihmolafajmbjaa
open Go Vx

theorem f3_ok1 (ln : Nat) (l : Nat → Int) : FSpec Try.prog 3 [.rows 1 ln (icol .i64 l)] [] (fun r H' => r = .bool true) := by
  have h8 := f8_ok
  have hM := match_eq ln l
  obtain ⟨R, hR⟩ : ∃ R, sgo l (endOf ln l) ln ln 0 = R := ⟨_, rfl⟩
  have h13 := fun hl => f13_ok ln l hl R (by rw [sgo_congr l _ (endOf ln l) ln hM]; exact hR)
  have h14 := f14_ok ln l R hR
  clear hR
  refine FSpec.of (fn := Try.f3) Try.func3 rfl rfl (by simp) fun C hC => ?_
  obtain ⟨iadd, isub, imul, iquo, irem, iband, ibor, ibxor, ibandn, ishl, ishr, iconv, ieq, ine, ilt, ile, igt, ige, bbeq, bbne, bnot, bband, sseq, ssne, sscat, sssub, sslen, sssz, ssbyte, toN, ofN, addN, subN, eqN, ltB, leN, imx, imn, inb, leb, sslt, ltN, fit, ne0, ge0, ssfit, minN, inR, hS⟩ := names
  refine V.go Try.func3 tl_ok mixed hS.ops [] 400 ?_
  intro VV VA W hVV hVA hW
  conv => cbv
  split <;> rename_i h1
  rotate_left
  · conv => cbv
    simp (disch := first | omega | (simp only [hS.glob, wraps, plain, Int.ofNat_eq_natCast]; omega)) only [hS.glob, wraps, plain, Int.ofNat_eq_natCast] at h1
    repeat (refine ⟨by first | (rw [hW]; show ordOk _ _ _ = true; kernel_rfl) | (first | trivial | omega | (simp (disch := omega) only [hS.glob, wraps, plain, Int.ofNat_eq_natCast]; first | done | omega | trivial | (simp; done) | (simp; omega) | (constructor <;> omega)) | (simp (disch := omega) only [hS.glob, wraps, plain, Int.ofNat_eq_natCast, Vx.toN]; omega)), ?_⟩)
    rw [hVV]
    clear hVV hVA VV VA hW W
    refine V.to (s' := [(13, .rows 1 ln (icol .i64 l)), (3, .sl 1 0 ln), (0, .rows 1 ln (icol .i64 l))]) (H' := [none, some ⟨34, 1, .arr ln (icol .i64 l)⟩]) ?_ (by (repeat' first | exact trivial | rfl | (refine And.intro ?_ ?_) | (refine sti ?_; (first | rfl | omega | (simp (disch := omega) only [hS.glob, wraps, plain, Int.ofNat_eq_natCast]; first | done | rfl | omega | (simp; done) | (simp; omega)) | (simp (disch := omega) only [hS.glob, wraps, plain, Int.ofNat_eq_natCast, Vx.toN]; omega))) | (refine slq ?_ ?_ ?_ <;> (first | rfl | omega | (simp (disch := omega) only [hS.glob, wraps, plain, Int.ofNat_eq_natCast]; first | done | rfl | omega | (simp; done) | (simp; omega)) | (simp (disch := omega) only [hS.glob, wraps, plain, Int.ofNat_eq_natCast, Vx.toN]; omega))) | (refine ptq ?_ ?_ ?_ <;> (first | rfl | omega | (simp (disch := omega) only [hS.glob, wraps, plain, Int.ofNat_eq_natCast]; first | done | rfl | omega | (simp; done) | (simp; omega)) | (simp (disch := omega) only [hS.glob, wraps, plain, Int.ofNat_eq_natCast, Vx.toN]; omega))) | (refine blq ?_; (first | rfl | omega | (simp (disch := omega) only [hS.glob, wraps, plain, Int.ofNat_eq_natCast]; first | done | rfl | omega | (simp; done) | (simp; omega)) | (simp (disch := omega) only [hS.glob, wraps, plain, Int.ofNat_eq_natCast, Vx.toN]; omega))))) rfl ⟨⟨rfl, rfl, ⟨by simp only [hS.tidy]; exact Nat.le_refl _, fun j hj => ?_⟩, rfl⟩, trivial⟩ (by rw [hC]; simp)
    rotate_left
    · show icol .i64 l j = match ltB j 0 with | true => _ | false => icol .i64 l (subN j 0)
      cases hr : ltB j 0
      · simp only [hS.tidy]
      · simp (disch := first | omega | (simp only [hS.glob, wraps, plain, Int.ofNat_eq_natCast]; omega)) only [hS.glob, wraps, plain, Int.ofNat_eq_natCast] at hr; omega
    refine V.freeze0 3 1 ln (by rfl) (by rfl) (by rfl) (by first | decide | omega | exact Nat.zero_lt_one) (by rfl) (by rfl) (by first | exact Nat.le_refl _ | decide | omega | (simp only [Cont.n]; omega)) ?_
    refine V.call rfl rfl rfl rfl rfl Try.func10 rfl (by decide) [] (by simp) (by simp) (by (first | rfl | ((conv => cbv); (repeat' apply And.intro) <;> first | rfl | trivial | (first | rfl | omega | (simp (disch := omega) only [hS.glob, wraps, plain, Int.ofNat_eq_natCast]; first | done | rfl | omega | (simp; done) | (simp; omega)) | (simp (disch := omega) only [hS.glob, wraps, plain, Int.ofNat_eq_natCast, Vx.toN]; omega))))) rfl (f10_ok ln l (by omega)) ?_
    rintro r Hc ⟨rfl, rfl⟩
    refine V.freeze0 14 2 ln (by rfl) (by rfl) (by rfl) (by first | decide | omega | exact Nat.zero_lt_one) (by rfl) (by rfl) (by first | exact Nat.le_refl _ | decide | omega | (simp only [Cont.n]; omega)) ?_
    generalize (mrun l ln).2 = e at hM ⊢
    refine V.go Try.func3 tl_ok mixed hS.ops [] 400 ?_
    intro VV VA W hVV hVA hW
    conv => cbv
    rw [hVV]
    clear hVV hVA VV VA hW W
    refine V.call rfl rfl rfl rfl rfl Try.func11 rfl (by decide) [] (by simp) (by simp) (by (first | rfl | ((conv => cbv); (repeat' apply And.intro) <;> first | rfl | trivial | (first | rfl | omega | (simp (disch := omega) only [hS.glob, wraps, plain, Int.ofNat_eq_natCast]; first | done | rfl | omega | (simp; done) | (simp; omega)) | (simp (disch := omega) only [hS.glob, wraps, plain, Int.ofNat_eq_natCast, Vx.toN]; omega))))) rfl (f11_ok ln l (by omega)) ?_
    rintro r Hc ⟨rfl, rfl⟩
    refine V.freeze0 16 3 ln (by rfl) (by rfl) (by rfl) (by first | decide | omega | exact Nat.zero_lt_one) (by rfl) (by rfl) (by first | exact Nat.le_refl _ | decide | omega | (simp only [Cont.n]; omega)) ?_
    generalize endOf ln l = e' at hM ⊢
    refine V.go Try.func3 tl_ok mixed hS.ops [] 400 ?_
    intro VV VA W hVV hVA hW
    conv => cbv
    rw [hVV]
    clear hVV hVA VV VA hW W
    refine V.call rfl rfl rfl rfl rfl Try.func9 rfl (by decide) [] (by simp) (by simp) (by (first | rfl | ((conv => cbv); (repeat' apply And.intro) <;> first | rfl | trivial | (first | rfl | omega | (simp (disch := omega) only [hS.glob, wraps, plain, Int.ofNat_eq_natCast]; first | done | rfl | omega | (simp; done) | (simp; omega)) | (simp (disch := omega) only [hS.glob, wraps, plain, Int.ofNat_eq_natCast, Vx.toN]; omega))))) rfl (f9_ok ln ln e e' true ⟨fun _ => ⟨rfl, hM⟩, fun _ => rfl⟩) ?_
    rintro r Hc ⟨rfl, rfl⟩
    refine V.go Try.func3 tl_ok mixed hS.ops [] 400 ?_
    intro VV VA W hVV hVA hW
    conv => cbv
    rw [hVV]
    clear hVV hVA VV VA hW W
    refine V.call rfl rfl rfl rfl rfl Try.func12 rfl (by decide) [] (by simp) (by simp) (by (first | rfl | ((conv => cbv); (repeat' apply And.intro) <;> first | rfl | trivial | (first | rfl | omega | (simp (disch := omega) only [hS.glob, wraps, plain, Int.ofNat_eq_natCast]; first | done | rfl | omega | (simp; done) | (simp; omega)) | (simp (disch := omega) only [hS.glob, wraps, plain, Int.ofNat_eq_natCast, Vx.toN]; omega))))) rfl (f12_ok ln ln l l true ⟨fun _ => ⟨rfl, fun _ _ => rfl⟩, fun _ => rfl⟩) ?_
    rintro r Hc ⟨rfl, rfl⟩
    refine V.go Try.func3 tl_ok mixed hS.ops [] 400 ?_
    intro VV VA W hVV hVA hW
    conv => cbv
    rw [hVV]
    clear hVV hVA VV VA hW W
    refine V.call rfl rfl rfl rfl rfl Try.func8 rfl (by decide) [] (by simp) (by simp) (by (first | rfl | ((conv => cbv); (repeat' apply And.intro) <;> first | rfl | trivial | (first | rfl | omega | (simp (disch := omega) only [hS.glob, wraps, plain, Int.ofNat_eq_natCast]; first | done | rfl | omega | (simp; done) | (simp; omega)) | (simp (disch := omega) only [hS.glob, wraps, plain, Int.ofNat_eq_natCast, Vx.toN]; omega))))) rfl h8 ?_
    rintro r Hc ⟨rfl, rfl⟩
    refine V.go Try.func3 tl_ok mixed hS.ops [] 400 ?_
    intro VV VA W hVV hVA hW
    conv => cbv
    rw [hVV]
    clear hVV hVA VV VA hW W
    refine V.call rfl rfl rfl rfl rfl Try.func13 rfl (by decide) [] (by simp) (by simp) (by (first | rfl | ((conv => cbv); (repeat' apply And.intro) <;> first | rfl | trivial | (first | rfl | omega | (simp (disch := omega) only [hS.glob, wraps, plain, Int.ofNat_eq_natCast]; first | done | rfl | omega | (simp; done) | (simp; omega)) | (simp (disch := omega) only [hS.glob, wraps, plain, Int.ofNat_eq_natCast, Vx.toN]; omega))))) rfl (h13 (by omega)) ?_
    rintro r Hc ⟨rfl, rfl⟩
    refine V.go Try.func3 tl_ok mixed hS.ops [] 400 ?_
    intro VV VA W hVV hVA hW
    conv => cbv
    rw [hVV]
    clear hVV hVA VV VA hW W
    refine V.call rfl rfl rfl rfl rfl Try.func14 rfl (by decide) [] (by simp) (by simp) (by (first | rfl | ((conv => cbv); (repeat' apply And.intro) <;> first | rfl | trivial | (first | rfl | omega | (simp (disch := omega) only [hS.glob, wraps, plain, Int.ofNat_eq_natCast]; first | done | rfl | omega | (simp; done) | (simp; omega)) | (simp (disch := omega) only [hS.glob, wraps, plain, Int.ofNat_eq_natCast, Vx.toN]; omega))))) rfl h14 ?_
    rintro r Hc ⟨rfl, rfl⟩
    refine V.go Try.func3 tl_ok mixed hS.ops [] 400 ?_
    intro VV VA W hVV hVA hW
    conv => cbv
    have e1 : ieq R R = true := by simp (disch := first | omega | (simp only [hS.glob, wraps, plain, Int.ofNat_eq_natCast]; omega)) only [hS.glob, wraps, plain, Int.ofNat_eq_natCast]
    rw [e1]
  · conv => cbv
    rw [hVV]
    refine V.call rfl rfl rfl rfl rfl Try.func8 rfl (by decide) [] (by simp) (by simp) (by (first | rfl | ((conv => cbv); (repeat' apply And.intro) <;> first | rfl | trivial | (first | rfl | omega | (simp (disch := omega) only [hS.glob, wraps, plain, Int.ofNat_eq_natCast]; first | done | rfl | omega | (simp; done) | (simp; omega)) | (simp (disch := omega) only [hS.glob, wraps, plain, Int.ofNat_eq_natCast, Vx.toN]; omega))))) rfl h8 ?_
    rintro r Hc ⟨rfl, rfl⟩
    refine V.go Try.func3 tl_ok mixed hS.ops [] 400 ?_
    intro VV VA W hVV hVA hW
    conv => cbv
    trivial
theorem f3_ok (ln : Nat) (l : Nat → Int) : FSpec Try.prog 3 [.rows 1 ln (icol .i64 l)] [] (fun r H' => r = .bool true ∧ H' = []) := by
  refine (f3_ok1 ln l).weaken ?_
  rintro r H' rfl
  exact ⟨[], by cases H' <;> simp [heapCov], rfl, Nat.le_refl _, rfl, rfl⟩
end Go.Proofs.Ytihmolafajmbjaa
