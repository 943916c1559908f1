/- Contracts of functions by an evaluator of the model: its part T4. -/
import Derived.Test.YtihmolafajmbjaaT2
import Derived.Test.YtihmolafajmbjaaT1
import Derived.Test.YtihmolafajmbjaaT3
set_option linter.all false
/- The document's machine: its top, the next level. -/
namespace Go.Proofs.Ytihmolafajmbjaa
open Go Vx

/-- The document's machine: its fields; a: where the stack lies. -/
def rrow (a k : Nat) (o e v : Int) : List AV := [.sl a 0 k, .int .i64 o, .int .i64 e, .int .i64 v]
def rheap (k : Nat) (lv ov : Nat → Int) (is : Nat → Bool) (o e v : Int) : Hp := [some ⟨71, 4, .lit [rrow 1 k o e v]⟩, some ⟨60, 3, .arr k (srow lv ov is)⟩]
/-- Behind a call. -/
def rnheap (k : Nat) (lv ov : Nat → Int) (is : Nat → Bool) (o e v : Int) : Hp := [some ⟨71, 4, .lit [rrow 2 k o e v]⟩, none, some ⟨60, 3, .arr k (srow lv ov is)⟩]
/-- The same in plain words: nothing is told of levels. -/
def absR (k : Nat) (lv ov : Nat → Int) (is : Nat → Bool) (o e v : Int) : Ms := ⟨tab k fun j => (lv j, ov j, is j), o, e, v, [], []⟩
def RX (m : Ms) : AV → Hp → Prop := fun r H' => r = .tup [] ∧ ∃ (k : Nat) (lv ov : Nat → Int) (is : Nat → Bool) (o e v : Int), H' = rnheap k lv ov is o e v ∧ absR k lv ov is o e v = m
theorem topR_abs (k : Nat) (lv ov : Nat → Int) (is : Nat → Bool) (o e v : Int) (h : 0 < k) : topM (absR k lv ov is o e v) = (lv (k - 1), ov (k - 1), is (k - 1)) := tab_last _ _ h

theorem f33_ok1 (k : Nat) (lv ov : Nat → Int) (is : Nat → Bool) (o e v : Int) (hk : 0 < k) (LV OV : Int) (IS : Bool) (hLV : LV = lv (k - 1)) (hOV : OV = ov (k - 1)) (hIS : IS = is (k - 1)) :
    FSpec Try.prog 33 [.ptr 0 0 0] (rheap k lv ov is o e v) (fun r H' => ∃ x, r = .agg [.int .i64 LV, .int .i64 OV, .bool IS] ∧ H' = rheap k lv ov is o e v ++ [x]) := by
  refine FSpec.of (fn := Try.f33) Try.func33 rfl rfl (by simp) fun C hC => ?_
  obtain ⟨iadd, isub, imul, iquo, irem, iband, ibor, ibxor, ibandn, ishl, ishr, iconv, ieq, ine, ilt, ile, igt, ige, bbeq, bbne, bnot, bband, sseq, ssne, sscat, sssub, sslen, sssz, ssbyte, toN, ofN, addN, subN, eqN, ltB, leN, imx, imn, inb, leb, sslt, ltN, fit, ne0, ge0, ssfit, minN, inR, hS⟩ := names
  refine V.objLen 1 (by rfl) fun hk2 => ?_
  replace hk2 : k ≤ maxLen := hk2
  simp (disch := first | omega | (simp only [hS.glob, wraps, plain, Int.ofNat_eq_natCast]; omega)) only [hS.glob, wraps, plain, Int.ofNat_eq_natCast] at hk2
  refine V.go Try.func33 tl_ok mixed hS.ops [] 400 ?_
  intro VV VA W hVV hVA hW
  conv => cbv
  repeat (refine ⟨by first | (rw [hW]; show ordOk _ _ _ = true; kernel_rfl) | (first | trivial | omega | (simp (disch := omega) only [hS.glob, wraps, plain, Int.ofNat_eq_natCast]; first | done | omega | trivial | (simp; done) | (simp; omega) | (constructor <;> omega)) | (simp (disch := omega) only [hS.glob, wraps, plain, Int.ofNat_eq_natCast, Vx.toN]; omega)), ?_⟩)
  refine ⟨_, ?_, rfl⟩
  have e0 : addN 0 (toN (isub .i64 (ofN k) 1)) = k - 1 := by simp (disch := first | omega | (simp only [hS.glob, wraps, plain, Int.ofNat_eq_natCast]; omega)) only [hS.glob, wraps, plain, Int.ofNat_eq_natCast]; omega
  rw [e0, hLV, hOV, hIS]
theorem f33_ok (k : Nat) (lv ov : Nat → Int) (is : Nat → Bool) (o e v : Int) (hk : 0 < k) (LV OV : Int) (IS : Bool) (hLV : LV = lv (k - 1)) (hOV : OV = ov (k - 1)) (hIS : IS = is (k - 1)) :
    FSpec Try.prog 33 [.ptr 0 0 0] (rheap k lv ov is o e v) (fun r H' => r = .agg [.int .i64 LV, .int .i64 OV, .bool IS] ∧ H' = rheap k lv ov is o e v) := by
  refine (f33_ok1 k lv ov is o e v hk LV OV IS hLV hOV hIS).weaken ?_
  rintro r H' ⟨x, rfl, rfl⟩
  exact ⟨rheap k lv ov is o e v, ⟨⟨rfl, rfl, rfl, rfl⟩, ⟨rfl, rfl, ⟨Nat.le_refl _, fun _ _ => rfl⟩, rfl⟩, trivial⟩, rfl, Nat.le_refl _, rfl, rfl⟩

theorem f48_ok (k : Nat) (lv ov : Nat → Int) (is : Nat → Bool) (o e v : Int) (hk : 0 < k) (odd : Int) (hodd : 0 ≤ odd ∧ odd ≤ 1) (hlv : 0 ≤ lv (k - 1) ∧ lv (k - 1) ≤ 1000) (nl : Int) (hnl : nl = nextLv (lv (k - 1)) odd) :
    FSpec Try.prog 48 [.ptr 0 0 0, .int .i64 odd] (rheap k lv ov is o e v) (fun r H' => r = .int .i64 nl ∧ H' = rheap k lv ov is o e v) := by
  have ht := fun LV OV IS a b c => f33_ok k lv ov is o e v hk LV OV IS a b c
  generalize lv (k - 1) = LV at hlv hnl ht
  have ht := ht LV _ _ rfl rfl rfl
  generalize ov (k - 1) = OV at ht
  generalize is (k - 1) = IS at ht
  refine FSpec.of (fn := Try.f48) Try.func48 rfl rfl (by simp) fun C hC => ?_
  obtain ⟨iadd, isub, imul, iquo, irem, iband, ibor, ibxor, ibandn, ishl, ishr, iconv, ieq, ine, ilt, ile, igt, ige, bbeq, bbne, bnot, bband, sseq, ssne, sscat, sssub, sslen, sssz, ssbyte, toN, ofN, addN, subN, eqN, ltB, leN, imx, imn, inb, leb, sslt, ltN, fit, ne0, ge0, ssfit, minN, inR, hS⟩ := names
  refine V.go Try.func48 tl_ok mixed hS.ops [] 400 ?_
  intro VV VA W hVV hVA hW
  conv => cbv
  rw [hVV]
  refine V.call rfl rfl rfl rfl rfl Try.func33 rfl (by decide) [0, 1] (by decide) (all_lt (by rfl)) (by (first | rfl | ((conv => cbv); (repeat' apply And.intro) <;> first | rfl | trivial | (first | rfl | omega | (simp (disch := omega) only [hS.glob, wraps, plain, Int.ofNat_eq_natCast]; first | done | rfl | omega | (simp; done) | (simp; omega)) | (simp (disch := omega) only [hS.glob, wraps, plain, Int.ofNat_eq_natCast, Vx.toN]; omega))))) (by rfl) ht ?_
  rintro r Hc ⟨rfl, rfl⟩
  clear hVV hVA VV VA hW W
  refine V.go Try.func48 tl_ok mixed hS.ops [] 400 ?_
  intro VV VA W hVV hVA hW
  conv => cbv
  repeat (refine ⟨by first | (rw [hW]; show ordOk _ _ _ = true; kernel_rfl) | (first | trivial | omega | (simp (disch := omega) only [hS.glob, wraps, plain, Int.ofNat_eq_natCast]; first | done | omega | trivial | (simp; done) | (simp; omega) | (constructor <;> omega)) | (simp (disch := omega) only [hS.glob, wraps, plain, Int.ofNat_eq_natCast, Vx.toN]; omega)), ?_⟩)
  cases h1 : ine (irem (iadd .i64 LV 1) 2) odd
  · conv => cbv
    simp (disch := first | omega | (simp only [hS.glob, wraps, plain, Int.ofNat_eq_natCast]; omega)) only [hS.glob, wraps, plain, Int.ofNat_eq_natCast] at h1
    refine ⟨sti ?_, trivial⟩
    simp (disch := first | omega | (simp only [hS.glob, wraps, plain, Int.ofNat_eq_natCast]; omega)) only [hS.glob, wraps, plain, Int.ofNat_eq_natCast]
    unfold nextLv at hnl
    omega
  · conv => cbv
    simp (disch := first | omega | (simp only [hS.glob, wraps, plain, Int.ofNat_eq_natCast]; omega)) only [hS.glob, wraps, plain, Int.ofNat_eq_natCast] at h1
    refine ⟨sti ?_, trivial⟩
    simp (disch := first | omega | (simp only [hS.glob, wraps, plain, Int.ofNat_eq_natCast]; omega)) only [hS.glob, wraps, plain, Int.ofNat_eq_natCast]
    unfold nextLv at hnl
    omega
end Go.Proofs.Ytihmolafajmbjaa

/- The document's machine: one more on its stack. -/
namespace Go.Proofs.Ytihmolafajmbjaa
open Go Vx

def R0 (m : Ms) : AV → Hp → Prop := fun r H' => r = .tup [] ∧ ∃ (k : Nat) (lv ov : Nat → Int) (is : Nat → Bool) (o e v : Int) (y : Option Ob) (g : Nat → List AV), absR k lv ov is o e v = m ∧
  ((∃ kk, k ≤ kk ∧ H' = [some ⟨71, 4, .lit [rrow 1 k o e v]⟩, some ⟨60, 3, .arr kk (srow lv ov is)⟩]) ∨ (H' = [some ⟨71, 4, .lit [rrow 3 k o e v]⟩, none, y, some ⟨60, 3, .arr k g⟩] ∧ ∀ j, j < k → g j = srow lv ov is j) ∨ H' = rnheap k lv ov is o e v)
theorem R0.rx {g : FuncId} {args : List AV} (k : Nat) (lv ov : Nat → Int) (is : Nat → Bool) (o e v : Int) {m : Ms} (h : FSpec Try.prog g args (rheap k lv ov is o e v) (R0 m)) : FSpec Try.prog g args (rheap k lv ov is o e v) (RX m) := by
  refine FSpec.mv (FSpec.weaken h (Q' := fun r H' => r = .tup [] ∧ ∃ (k : Nat) (lv ov : Nat → Int) (is : Nat → Bool) (o e v : Int), absR k lv ov is o e v = m ∧ (H' = rheap k lv ov is o e v ∨ H' = [some ⟨71, 4, .lit [rrow 3 k o e v]⟩, none, none, some ⟨60, 3, .arr k (srow lv ov is)⟩] ∨ H' = rnheap k lv ov is o e v)) ?_) ?_
  · rintro r H' ⟨rfl, k, lv, ov, is, o, e, v, y, g, hm, ⟨kk, hkk, rfl⟩ | ⟨rfl, hg⟩ | rfl⟩
    · exact ⟨rheap k lv ov is o e v, ⟨⟨rfl, rfl, rfl, rfl⟩, ⟨rfl, rfl, ⟨hkk, fun _ _ => rfl⟩, rfl⟩, trivial⟩, rfl, Nat.le_refl _, rfl, k, lv, ov, is, o, e, v, hm, .inl rfl⟩
    · refine ⟨[some ⟨71, 4, .lit [rrow 3 k o e v]⟩, none, none, some ⟨60, 3, .arr k (srow lv ov is)⟩], ?_, rfl, Nat.le_add_right 2 2, rfl, k, lv, ov, is, o, e, v, hm, .inr (.inl rfl)⟩
      exact ⟨⟨rfl, rfl, rfl, rfl⟩, ⟨rfl, rfl, ⟨Nat.le_refl _, fun j hj => (hg j hj).symm⟩, rfl⟩, trivial⟩
    · exact ⟨rnheap k lv ov is o e v, ⟨⟨rfl, rfl, rfl, rfl⟩, ⟨rfl, rfl, ⟨Nat.le_refl _, fun _ _ => rfl⟩, rfl⟩, trivial⟩, rfl, Nat.le_add_right 2 1, rfl, k, lv, ov, is, o, e, v, hm, .inr (.inr rfl)⟩
  · rintro r H' ⟨rfl, k, lv, ov, is, o, e, v, hm, rfl | rfl | rfl⟩
    · exact ⟨[1], by decide, rfl, k, lv, ov, is, o, e, v, rfl, hm⟩
    · exact ⟨[3], by decide, rfl, k, lv, ov, is, o, e, v, rfl, hm⟩
    · exact ⟨[2], by decide, rfl, k, lv, ov, is, o, e, v, rfl, hm⟩

def embR (odd ov : Int) (m : Ms) : Ms := if canP odd m then pushM odd ov false m else if m.iso = 0 then { m with emb := m.emb + 1 } else m
def isoR (odd : Int) (m : Ms) : Ms := if canP odd m then { pushM odd 13 true m with opn := m.opn + 1 } else { m with iso := m.iso + 1 }

theorem push_leaf {addN subN : Nat → Nat → Nat} {ltB : Nat → Nat → Bool} (hl : ltB = Vx.ltB) (hs : subN = Vx.subN) (a b : Int) (c : Bool) (lv lv' ov ov' : Nat → Int) (is is' : Nat → Bool) (k : Nat) (h1 : ∀ j, j < k → lv' j = lv j) (h2 : ∀ j, j < k → ov' j = ov j) (h3 : ∀ j, j < k → is' j = is j)
    (g1 : lv' k = a) (g2 : ov' k = b) (g3 : is' k = c) : ∀ j, j < k + 1 → (match ltB j k with | true => srow lv ov is j | false => [[AV.int .i64 a, .int .i64 b, .bool c]].getD (subN j k) []) = srow lv' ov' is' j := by
  intro j hj
  subst hl hs
  simp only [srow]
  cases hr : Vx.ltB j k
  · simp only [plain] at hr
    obtain rfl : j = k := by omega
    simp [Vx.subN, g1, g2, g3]
  · simp only [plain] at hr
    rw [h1 j hr, h2 j hr, h3 j hr]

theorem f46_ok (k : Nat) (lv ov : Nat → Int) (is : Nat → Bool) (o e v : Int) (hk : 0 < k) (hk2 : k ≤ 1000000) (hlv : 0 ≤ lv (k - 1) ∧ lv (k - 1) ≤ 1000) (ho : 0 ≤ o ∧ o ≤ 1000000) (he : 0 ≤ e ∧ e ≤ 1000000) (hv : 0 ≤ v ∧ v ≤ 1000000) (odd : Int) (hodd : 0 ≤ odd ∧ odd ≤ 1) (ovr : Int) : FSpec Try.prog 46 [.ptr 0 0 0, .int .i64 odd, .int .i64 ovr] (rheap k lv ov is o e v) (RX (embR odd ovr (absR k lv ov is o e v))) := by
  refine R0.rx k lv ov is o e v ?_
  obtain ⟨nl, hnl⟩ : ∃ nl, nl = nextLv (lv (k - 1)) odd := ⟨_, rfl⟩
  have hn := f48_ok k lv ov is o e v hk odd hodd hlv nl hnl
  have tt := topR_abs k lv ov is o e v hk
  obtain ⟨lv', p1, p4⟩ := snocF lv k nl
  obtain ⟨ov', p2, p5⟩ := snocF ov k ovr
  obtain ⟨is', p3, p6⟩ := snocF is k false
  have hcan : canP odd (absR k lv ov is o e v) = true ↔ (nl ≤ 125 ∧ o ≤ 0 ∧ e ≤ 0) := by
    simp only [canP, tt, Bool.and_eq_true, decide_eq_true_eq, ← hnl]
    simp only [absR, and_assoc]
  have d1 : nl ≤ 125 ∧ o ≤ 0 ∧ e ≤ 0 → absR (k + 1) lv' ov' is' o e v = embR odd ovr (absR k lv ov is o e v) := by
    intro h
    unfold embR
    rw [if_pos (hcan.2 h)]
    simp only [pushM, tt, ← hnl]
    simp only [absR]
    rw [tab_snoc (f := fun j => (lv j, ov j, is j)) rfl (fun j hj => by rw [p1 j hj, p2 j hj, p3 j hj]) (by rw [p4, p5, p6])]
  have d2 : ¬ (nl ≤ 125 ∧ o ≤ 0 ∧ e ≤ 0) → o = 0 → absR k lv ov is o (e + 1) v = embR odd ovr (absR k lv ov is o e v) := by
    intro h h2
    unfold embR
    rw [if_neg (fun hh => h (hcan.1 hh)), if_pos (show (absR k lv ov is o e v).iso = 0 from h2)]
    rfl
  have d3 : o ≠ 0 → absR k lv ov is o e v = embR odd ovr (absR k lv ov is o e v) := by
    intro h2
    unfold embR
    rw [if_neg (fun hh => by have := hcan.1 hh; omega), if_neg (show ¬ (absR k lv ov is o e v).iso = 0 from h2)]
  generalize embR odd ovr (absR k lv ov is o e v) = M at d1 d2 d3 ⊢
  obtain ⟨e1, he1⟩ : ∃ e1, e1 = e + 1 := ⟨_, rfl⟩
  rw [← he1] at d2
  obtain ⟨k1, hk1⟩ : ∃ k1, k1 = k + 1 := ⟨_, rfl⟩
  rw [← hk1] at d1
  clear hcan tt hnl
  obtain ⟨Q, hQ⟩ : ∃ Q, Q = R0 M := ⟨_, rfl⟩
  rw [← hQ]
  refine FSpec.of (fn := Try.f46) Try.func46 rfl rfl (by simp) fun C hC => ?_
  obtain ⟨iadd, isub, imul, iquo, irem, iband, ibor, ibxor, ibandn, ishl, ishr, iconv, ieq, ine, ilt, ile, igt, ige, bbeq, bbne, bnot, bband, sseq, ssne, sscat, sssub, sslen, sssz, ssbyte, toN, ofN, addN, subN, eqN, ltB, leN, imx, imn, inb, leb, sslt, ltN, fit, ne0, ge0, ssfit, minN, inR, hS⟩ := names
  refine V.go Try.func46 tl_ok mixed hS.ops [] 400 ?_
  intro VV VA W hVV hVA hW
  conv => cbv
  rw [hVV]
  refine V.call rfl rfl rfl rfl rfl Try.func48 rfl (by decide) [0, 1] (by decide) (all_lt (by rfl)) (by (first | rfl | ((conv => cbv); (repeat' apply And.intro) <;> first | rfl | trivial | (first | rfl | omega | (simp (disch := omega) only [hS.glob, wraps, plain, Int.ofNat_eq_natCast]; first | done | rfl | omega | (simp; done) | (simp; omega)) | (simp (disch := omega) only [hS.glob, wraps, plain, Int.ofNat_eq_natCast, Vx.toN]; omega))))) (by rfl) hn ?_
  rintro r Hc ⟨rfl, rfl⟩
  clear hVV hVA VV VA hW W
  refine V.go Try.func46 tl_ok mixed hS.ops [] 400 ?_
  intro VV VA W hVV hVA hW
  conv => cbv
  have ee : iadd .i64 e 1 = e1 := by simp (disch := first | omega | (simp only [hS.glob, wraps, plain, Int.ofNat_eq_natCast]; omega)) only [hS.glob, wraps, plain, Int.ofNat_eq_natCast]; omega
  have last : ¬ (nl ≤ 125 ∧ o ≤ 0 ∧ e ≤ 0) → ieq o 0 = true → Q (.tup []) (rheap k lv ov is o e1 v) := fun h h2 => by
    simp (disch := first | omega | (simp only [hS.glob, wraps, plain, Int.ofNat_eq_natCast]; omega)) only [hS.glob, wraps, plain, Int.ofNat_eq_natCast] at h2
    rw [hQ]
    exact ⟨rfl, k, lv, ov, is, o, e1, v, none, fun _ => [], d2 h h2, .inl ⟨k, Nat.le_refl _, rfl⟩⟩
  have last2 : ieq o 0 = false → Q (.tup []) (rheap k lv ov is o e v) := fun h2 => by
    simp (disch := first | omega | (simp only [hS.glob, wraps, plain, Int.ofNat_eq_natCast]; omega)) only [hS.glob, wraps, plain, Int.ofNat_eq_natCast] at h2
    rw [hQ]
    exact ⟨rfl, k, lv, ov, is, o, e, v, none, fun _ => [], d3 h2, .inl ⟨k, Nat.le_refl _, rfl⟩⟩
  cases h1 : ile nl 125
  · conv => cbv
    simp (disch := first | omega | (simp only [hS.glob, wraps, plain, Int.ofNat_eq_natCast]; omega)) only [hS.glob, wraps, plain, Int.ofNat_eq_natCast] at h1
    cases h2 : ieq o 0
    · exact last2 h2
    · conv => cbv
      rw [ee]
      exact last (by omega) h2
  · conv => cbv
    simp (disch := first | omega | (simp only [hS.glob, wraps, plain, Int.ofNat_eq_natCast]; omega)) only [hS.glob, wraps, plain, Int.ofNat_eq_natCast] at h1
    cases h2 : ieq o 0
    · conv => cbv
      simp only [h2]
      conv => cbv
      exact last2 h2
    · conv => cbv
      cases h3 : ieq e 0
      · conv => cbv
        simp only [h2]
        conv => cbv
        rw [ee]
        simp (disch := first | omega | (simp only [hS.glob, wraps, plain, Int.ofNat_eq_natCast]; omega)) only [hS.glob, wraps, plain, Int.ofNat_eq_natCast] at h3
        exact last (by omega) h2
      · conv => cbv
        repeat (refine ⟨by first | (rw [hW]; show ordOk _ _ _ = true; kernel_rfl) | (first | trivial | omega | (simp (disch := omega) only [hS.glob, wraps, plain, Int.ofNat_eq_natCast]; first | done | omega | trivial | (simp; done) | (simp; omega) | (constructor <;> omega)) | (simp (disch := omega) only [hS.glob, wraps, plain, Int.ofNat_eq_natCast, Vx.toN]; omega)), ?_⟩)
        simp (disch := first | omega | (simp only [hS.glob, wraps, plain, Int.ofNat_eq_natCast]; omega)) only [hS.glob, wraps, plain, Int.ofNat_eq_natCast] at h2 h3
        have e2 : addN k 1 = k1 := by simp (disch := first | omega | (simp only [hS.glob, wraps, plain, Int.ofNat_eq_natCast]; omega)) only [hS.glob, wraps, plain, Int.ofNat_eq_natCast]; omega
        rw [e2, hQ]
        refine ⟨rfl, k1, lv', ov', is', o, e, v, _, _, d1 ⟨h1, by omega, by omega⟩, .inr (.inl ⟨rfl, ?_⟩)⟩
        rw [hk1]
        exact push_leaf (addN := Vx.addN) (by simp [hS.glob]) (by simp [hS.glob]) nl ovr false lv lv' ov ov' is is' k p1 p2 p3 p4 p5 p6
end Go.Proofs.Ytihmolafajmbjaa

/- The document's machine: isolates, PDF, PDI, and what is removed. -/
namespace Go.Proofs.Ytihmolafajmbjaa
open Go Vx

theorem f35_ok (k : Nat) (lv ov : Nat → Int) (is : Nat → Bool) (o e v : Int) (hk : 0 < k) (hk2 : k ≤ 1000000) (hlv : 0 ≤ lv (k - 1) ∧ lv (k - 1) ≤ 1000) (ho : 0 ≤ o ∧ o ≤ 1000000) (he : 0 ≤ e ∧ e ≤ 1000000) (hv : 0 ≤ v ∧ v ≤ 1000000) (odd : Int) (hodd : 0 ≤ odd ∧ odd ≤ 1) : FSpec Try.prog 35 [.ptr 0 0 0, .int .i64 odd] (rheap k lv ov is o e v) (RX (isoR odd (absR k lv ov is o e v))) := by
  refine R0.rx k lv ov is o e v ?_
  obtain ⟨nl, hnl⟩ : ∃ nl, nl = nextLv (lv (k - 1)) odd := ⟨_, rfl⟩
  have hn := f48_ok k lv ov is o e v hk odd hodd hlv nl hnl
  have tt := topR_abs k lv ov is o e v hk
  obtain ⟨lv', p1, p4⟩ := snocF lv k nl
  obtain ⟨ov', p2, p5⟩ := snocF ov k 13
  obtain ⟨is', p3, p6⟩ := snocF is k true
  have hcan : canP odd (absR k lv ov is o e v) = true ↔ (nl ≤ 125 ∧ o ≤ 0 ∧ e ≤ 0) := by
    simp only [canP, tt, Bool.and_eq_true, decide_eq_true_eq, ← hnl]
    simp only [absR, and_assoc]
  have d1 : nl ≤ 125 ∧ o ≤ 0 ∧ e ≤ 0 → absR (k + 1) lv' ov' is' o e (v + 1) = isoR odd (absR k lv ov is o e v) := by
    intro h
    unfold isoR
    rw [if_pos (hcan.2 h)]
    simp only [pushM, tt, ← hnl]
    simp only [absR]
    rw [tab_snoc (f := fun j => (lv j, ov j, is j)) rfl (fun j hj => by rw [p1 j hj, p2 j hj, p3 j hj]) (by rw [p4, p5, p6])]
  have d2 : ¬ (nl ≤ 125 ∧ o ≤ 0 ∧ e ≤ 0) → absR k lv ov is (o + 1) e v = isoR odd (absR k lv ov is o e v) := by
    intro h
    unfold isoR
    rw [if_neg (fun hh => h (hcan.1 hh))]
    rfl
  generalize isoR odd (absR k lv ov is o e v) = M at d1 d2 ⊢
  obtain ⟨o1, ho1⟩ : ∃ o1, o1 = o + 1 := ⟨_, rfl⟩
  rw [← ho1] at d2
  obtain ⟨v1, hv1⟩ : ∃ v1, v1 = v + 1 := ⟨_, rfl⟩
  obtain ⟨k1, hk1⟩ : ∃ k1, k1 = k + 1 := ⟨_, rfl⟩
  rw [← hk1, ← hv1] at d1
  clear hcan tt hnl
  obtain ⟨Q, hQ⟩ : ∃ Q, Q = R0 M := ⟨_, rfl⟩
  rw [← hQ]
  refine FSpec.of (fn := Try.f35) Try.func35 rfl rfl (by simp) fun C hC => ?_
  obtain ⟨iadd, isub, imul, iquo, irem, iband, ibor, ibxor, ibandn, ishl, ishr, iconv, ieq, ine, ilt, ile, igt, ige, bbeq, bbne, bnot, bband, sseq, ssne, sscat, sssub, sslen, sssz, ssbyte, toN, ofN, addN, subN, eqN, ltB, leN, imx, imn, inb, leb, sslt, ltN, fit, ne0, ge0, ssfit, minN, inR, hS⟩ := names
  refine V.go Try.func35 tl_ok mixed hS.ops [] 400 ?_
  intro VV VA W hVV hVA hW
  conv => cbv
  rw [hVV]
  refine V.call rfl rfl rfl rfl rfl Try.func48 rfl (by decide) [0, 1] (by decide) (all_lt (by rfl)) (by (first | rfl | ((conv => cbv); (repeat' apply And.intro) <;> first | rfl | trivial | (first | rfl | omega | (simp (disch := omega) only [hS.glob, wraps, plain, Int.ofNat_eq_natCast]; first | done | rfl | omega | (simp; done) | (simp; omega)) | (simp (disch := omega) only [hS.glob, wraps, plain, Int.ofNat_eq_natCast, Vx.toN]; omega))))) (by rfl) hn ?_
  rintro r Hc ⟨rfl, rfl⟩
  clear hVV hVA VV VA hW W
  refine V.go Try.func35 tl_ok mixed hS.ops [] 400 ?_
  intro VV VA W hVV hVA hW
  conv => cbv
  have eo : iadd .i64 o 1 = o1 := by simp (disch := first | omega | (simp only [hS.glob, wraps, plain, Int.ofNat_eq_natCast]; omega)) only [hS.glob, wraps, plain, Int.ofNat_eq_natCast]; omega
  have ev1 : iadd .i64 v 1 = v1 := by simp (disch := first | omega | (simp only [hS.glob, wraps, plain, Int.ofNat_eq_natCast]; omega)) only [hS.glob, wraps, plain, Int.ofNat_eq_natCast]; omega
  have last : ¬ (nl ≤ 125 ∧ o ≤ 0 ∧ e ≤ 0) → Q (.tup []) (rheap k lv ov is o1 e v) := fun h => by
    rw [hQ]
    exact ⟨rfl, k, lv, ov, is, o1, e, v, none, fun _ => [], d2 h, .inl ⟨k, Nat.le_refl _, rfl⟩⟩
  cases h1 : ile nl 125
  · conv => cbv
    simp (disch := first | omega | (simp only [hS.glob, wraps, plain, Int.ofNat_eq_natCast]; omega)) only [hS.glob, wraps, plain, Int.ofNat_eq_natCast] at h1
    rw [eo]
    exact last (by omega)
  · conv => cbv
    simp (disch := first | omega | (simp only [hS.glob, wraps, plain, Int.ofNat_eq_natCast]; omega)) only [hS.glob, wraps, plain, Int.ofNat_eq_natCast] at h1
    cases h2 : ieq o 0
    · conv => cbv
      rw [eo]
      simp (disch := first | omega | (simp only [hS.glob, wraps, plain, Int.ofNat_eq_natCast]; omega)) only [hS.glob, wraps, plain, Int.ofNat_eq_natCast] at h2
      exact last (by omega)
    · conv => cbv
      cases h3 : ieq e 0
      · conv => cbv
        rw [eo]
        simp (disch := first | omega | (simp only [hS.glob, wraps, plain, Int.ofNat_eq_natCast]; omega)) only [hS.glob, wraps, plain, Int.ofNat_eq_natCast] at h3
        exact last (by omega)
      · conv => cbv
        repeat (refine ⟨by first | (rw [hW]; show ordOk _ _ _ = true; kernel_rfl) | (first | trivial | omega | (simp (disch := omega) only [hS.glob, wraps, plain, Int.ofNat_eq_natCast]; first | done | omega | trivial | (simp; done) | (simp; omega) | (constructor <;> omega)) | (simp (disch := omega) only [hS.glob, wraps, plain, Int.ofNat_eq_natCast, Vx.toN]; omega)), ?_⟩)
        simp (disch := first | omega | (simp only [hS.glob, wraps, plain, Int.ofNat_eq_natCast]; omega)) only [hS.glob, wraps, plain, Int.ofNat_eq_natCast] at h2 h3
        have e2 : addN k 1 = k1 := by simp (disch := first | omega | (simp only [hS.glob, wraps, plain, Int.ofNat_eq_natCast]; omega)) only [hS.glob, wraps, plain, Int.ofNat_eq_natCast]; omega
        rw [e2, ev1, hQ]
        refine ⟨rfl, k1, lv', ov', is', o, e, v1, _, _, d1 ⟨h1, by omega, by omega⟩, .inr (.inl ⟨rfl, ?_⟩)⟩
        rw [hk1]
        exact push_leaf (addN := Vx.addN) (by simp [hS.glob]) (by simp [hS.glob]) nl 13 true lv lv' ov ov' is is' k p1 p2 p3 p4 p5 p6

def popR (m : Ms) : Ms := if 0 < m.iso then m else if 0 < m.emb then { m with emb := m.emb - 1 } else if 1 < m.st.length ∧ (topM m).2.2 = false then { m with st := m.st.dropLast } else m
theorem f47_ok (k : Nat) (lv ov : Nat → Int) (is : Nat → Bool) (o e v : Int) (hk : 0 < k) (hk2 : k ≤ 1000000) (hlv : 0 ≤ lv (k - 1) ∧ lv (k - 1) ≤ 1000) (ho : 0 ≤ o ∧ o ≤ 1000000) (he : 0 ≤ e ∧ e ≤ 1000000) (hv : 0 ≤ v ∧ v ≤ 1000000) : FSpec Try.prog 47 [.ptr 0 0 0] (rheap k lv ov is o e v) (RX (popR (absR k lv ov is o e v))) := by
  refine R0.rx k lv ov is o e v ?_
  have tt := topR_abs k lv ov is o e v hk
  have ht := fun LV OV IS a b c => f33_ok k lv ov is o e v hk LV OV IS a b c
  generalize hLV : lv (k - 1) = LV at tt ht hlv
  generalize hOV : ov (k - 1) = OV at tt ht
  generalize hIS : is (k - 1) = IS at tt ht
  have ht := ht LV OV IS rfl rfl rfl
  have d1 : 0 < o ∨ (o ≤ 0 ∧ e ≤ 0 ∧ (k ≤ 1 ∨ IS = true)) → absR k lv ov is o e v = popR (absR k lv ov is o e v) := by
    intro h
    unfold popR
    rw [tt]
    rcases h with h | ⟨h, h2, h3⟩
    · rw [if_pos (by simpa [absR] using h)]
    · rw [if_neg (by simpa [absR] using h), if_neg (by simpa [absR] using h2), if_neg (by rcases h3 with h3 | h3 <;> simp [absR, tab_len, h3]; omega)]
  have d2 : o ≤ 0 → 0 < e → absR k lv ov is o (e - 1) v = popR (absR k lv ov is o e v) := by
    intro h h2
    unfold popR
    rw [if_neg (by simpa [absR] using h), if_pos (by simpa [absR] using h2)]; rfl
  have d3 : o ≤ 0 → e ≤ 0 → 1 < k → IS = false → absR (k - 1) lv ov is o e v = popR (absR k lv ov is o e v) := by
    intro h h2 h3 h4
    unfold popR
    rw [tt, if_neg (by simpa [absR] using h), if_neg (by simpa [absR] using h2), if_pos (by simpa [absR, tab_len, h4] using h3)]
    simp only [absR, tab_pop]
  generalize popR (absR k lv ov is o e v) = M at d1 d2 d3 ⊢
  obtain ⟨k1, hk1⟩ : ∃ k1, k1 = k - 1 := ⟨_, rfl⟩
  obtain ⟨e1, he1⟩ : ∃ e1, e1 = e - 1 := ⟨_, rfl⟩
  rw [← he1] at d2
  rw [← hk1] at d3
  clear tt
  obtain ⟨Q, hQ⟩ : ∃ Q, Q = R0 M := ⟨_, rfl⟩
  rw [← hQ]
  refine FSpec.of (fn := Try.f47) Try.func47 rfl rfl (by simp) fun C hC => ?_
  obtain ⟨iadd, isub, imul, iquo, irem, iband, ibor, ibxor, ibandn, ishl, ishr, iconv, ieq, ine, ilt, ile, igt, ige, bbeq, bbne, bnot, bband, sseq, ssne, sscat, sssub, sslen, sssz, ssbyte, toN, ofN, addN, subN, eqN, ltB, leN, imx, imn, inb, leb, sslt, ltN, fit, ne0, ge0, ssfit, minN, inR, hS⟩ := names
  refine V.objLen 1 (by rfl) fun hk3 => ?_
  replace hk3 : k ≤ maxLen := hk3
  simp (disch := first | omega | (simp only [hS.glob, wraps, plain, Int.ofNat_eq_natCast]; omega)) only [hS.glob, wraps, plain, Int.ofNat_eq_natCast] at hk3
  refine V.go Try.func47 tl_ok mixed hS.ops [] 400 ?_
  intro VV VA W hVV hVA hW
  conv => cbv
  cases h1 : igt o 0
  · conv => cbv
    simp (disch := first | omega | (simp only [hS.glob, wraps, plain, Int.ofNat_eq_natCast]; omega)) only [hS.glob, wraps, plain, Int.ofNat_eq_natCast] at h1
    cases h2 : igt e 0
    · conv => cbv
      simp (disch := first | omega | (simp only [hS.glob, wraps, plain, Int.ofNat_eq_natCast]; omega)) only [hS.glob, wraps, plain, Int.ofNat_eq_natCast] at h2
      cases h3 : igt (ofN k) 1
      · conv => cbv
        simp (disch := first | omega | (simp only [hS.glob, wraps, plain, Int.ofNat_eq_natCast]; omega)) only [hS.glob, wraps, plain, Int.ofNat_eq_natCast] at h3
        rw [hQ]
        exact ⟨rfl, k, lv, ov, is, o, e, v, none, fun _ => [], d1 (.inr ⟨h1, h2, .inl (by omega)⟩), .inl ⟨k, Nat.le_refl _, rfl⟩⟩
      · conv => cbv
        simp (disch := first | omega | (simp only [hS.glob, wraps, plain, Int.ofNat_eq_natCast]; omega)) only [hS.glob, wraps, plain, Int.ofNat_eq_natCast] at h3
        rw [hVV]
        refine V.call rfl rfl rfl rfl rfl Try.func33 rfl (by decide) [0, 1] (by decide) (all_lt (by rfl)) (by (first | rfl | ((conv => cbv); (repeat' apply And.intro) <;> first | rfl | trivial | (first | rfl | omega | (simp (disch := omega) only [hS.glob, wraps, plain, Int.ofNat_eq_natCast]; first | done | rfl | omega | (simp; done) | (simp; omega)) | (simp (disch := omega) only [hS.glob, wraps, plain, Int.ofNat_eq_natCast, Vx.toN]; omega))))) (by rfl) ht ?_
        rintro r Hc ⟨rfl, rfl⟩
        clear hVV hVA VV VA hW W
        refine V.go Try.func47 tl_ok mixed hS.ops [] 400 ?_
        intro VV VA W hVV hVA hW
        conv => cbv
        cases IS
        · conv => cbv
          repeat (refine ⟨by first | (rw [hW]; show ordOk _ _ _ = true; kernel_rfl) | (first | trivial | omega | (simp (disch := omega) only [hS.glob, wraps, plain, Int.ofNat_eq_natCast]; first | done | omega | trivial | (simp; done) | (simp; omega) | (constructor <;> omega)) | (simp (disch := omega) only [hS.glob, wraps, plain, Int.ofNat_eq_natCast, Vx.toN]; omega)), ?_⟩)
          have ek : toN (isub .i64 (ofN k) 1) = k1 := by simp (disch := first | omega | (simp only [hS.glob, wraps, plain, Int.ofNat_eq_natCast]; omega)) only [hS.glob, wraps, plain, Int.ofNat_eq_natCast]; omega
          simp only [ek]
          rw [hQ]
          exact ⟨rfl, k1, lv, ov, is, o, e, v, none, fun _ => [], d3 h1 h2 (by omega) rfl, .inl ⟨k, by omega, rfl⟩⟩
        · conv => cbv
          rw [hQ]
          exact ⟨rfl, k, lv, ov, is, o, e, v, none, fun _ => [], d1 (.inr ⟨h1, h2, .inr rfl⟩), .inl ⟨k, Nat.le_refl _, rfl⟩⟩
    · conv => cbv
      simp (disch := first | omega | (simp only [hS.glob, wraps, plain, Int.ofNat_eq_natCast]; omega)) only [hS.glob, wraps, plain, Int.ofNat_eq_natCast] at h2
      have ee : isub .i64 e 1 = e1 := by simp (disch := first | omega | (simp only [hS.glob, wraps, plain, Int.ofNat_eq_natCast]; omega)) only [hS.glob, wraps, plain, Int.ofNat_eq_natCast]; omega
      rw [ee, hQ]
      exact ⟨rfl, k, lv, ov, is, o, e1, v, none, fun _ => [], d2 h1 h2, .inl ⟨k, Nat.le_refl _, rfl⟩⟩
  · conv => cbv
    simp (disch := first | omega | (simp only [hS.glob, wraps, plain, Int.ofNat_eq_natCast]; omega)) only [hS.glob, wraps, plain, Int.ofNat_eq_natCast] at h1
    rw [hQ]
    exact ⟨rfl, k, lv, ov, is, o, e, v, none, fun _ => [], d1 (.inl h1), .inl ⟨k, Nat.le_refl _, rfl⟩⟩
end Go.Proofs.Ytihmolafajmbjaa

/- The document's machine: PDI, what is removed, at first. -/
namespace Go.Proofs.Ytihmolafajmbjaa
open Go Vx

theorem f32_ok (k : Nat) (lv ov : Nat → Int) (is : Nat → Bool) (o e v : Int) (hk : 0 < k) (hk2 : k ≤ 1000000) (hlv : 0 ≤ lv (k - 1) ∧ lv (k - 1) ≤ 1000) (ho : 0 ≤ o ∧ o ≤ 1000000) (he : 0 ≤ e ∧ e ≤ 1000000) (hv : 0 ≤ v ∧ v ≤ 1000000) (hop : 0 < v → ∃ j, 0 < j ∧ j < k ∧ is j = true) : FSpec Try.prog 32 [.ptr 0 0 0] (rheap k lv ov is o e v) (RX (closeM (absR k lv ov is o e v))) := by
  refine R0.rx k lv ov is o e v ?_
  obtain ⟨M, hM⟩ : ∃ M, M = closeM (absR k lv ov is o e v) := ⟨_, rfl⟩
  rw [← hM]
  obtain ⟨Q, hQ⟩ : ∃ Q, Q = R0 M := ⟨_, rfl⟩
  rw [← hQ]
  refine FSpec.of (fn := Try.f32) Try.func32 rfl rfl (by simp) fun C hC => ?_
  obtain ⟨iadd, isub, imul, iquo, irem, iband, ibor, ibxor, ibandn, ishl, ishr, iconv, ieq, ine, ilt, ile, igt, ige, bbeq, bbne, bnot, bband, sseq, ssne, sscat, sssub, sslen, sssz, ssbyte, toN, ofN, addN, subN, eqN, ltB, leN, imx, imn, inb, leb, sslt, ltN, fit, ne0, ge0, ssfit, minN, inR, hS⟩ := names
  refine V.go Try.func32 tl_ok mixed hS.ops [] 400 ?_
  intro VV VA W hVV hVA hW
  conv => cbv
  cases h1 : igt o 0
  · conv => cbv
    simp (disch := first | omega | (simp only [hS.glob, wraps, plain, Int.ofNat_eq_natCast]; omega)) only [hS.glob, wraps, plain, Int.ofNat_eq_natCast] at h1
    cases h2 : ieq v 0
    · conv => cbv
      simp (disch := first | omega | (simp only [hS.glob, wraps, plain, Int.ofNat_eq_natCast]; omega)) only [hS.glob, wraps, plain, Int.ofNat_eq_natCast] at h2
      rw [hVV]
      clear hVV hVA VV VA hW W
      refine V.to (s' := [(0, .ptr 0 0 0)]) (H' := rheap k lv ov is o 0 v) ?_ (by (repeat' first | exact trivial | rfl | (refine And.intro ?_ ?_) | (refine sti ?_; (first | rfl | omega | (simp (disch := omega) only [hS.glob, wraps, plain, Int.ofNat_eq_natCast]; first | done | rfl | omega | (simp; done) | (simp; omega)) | (simp (disch := omega) only [hS.glob, wraps, plain, Int.ofNat_eq_natCast, Vx.toN]; omega))) | (refine slq ?_ ?_ ?_ <;> (first | rfl | omega | (simp (disch := omega) only [hS.glob, wraps, plain, Int.ofNat_eq_natCast]; first | done | rfl | omega | (simp; done) | (simp; omega)) | (simp (disch := omega) only [hS.glob, wraps, plain, Int.ofNat_eq_natCast, Vx.toN]; omega))) | (refine ptq ?_ ?_ ?_ <;> (first | rfl | omega | (simp (disch := omega) only [hS.glob, wraps, plain, Int.ofNat_eq_natCast]; first | done | rfl | omega | (simp; done) | (simp; omega)) | (simp (disch := omega) only [hS.glob, wraps, plain, Int.ofNat_eq_natCast, Vx.toN]; omega))) | (refine blq ?_; (first | rfl | omega | (simp (disch := omega) only [hS.glob, wraps, plain, Int.ofNat_eq_natCast]; first | done | rfl | omega | (simp; done) | (simp; omega)) | (simp (disch := omega) only [hS.glob, wraps, plain, Int.ofNat_eq_natCast, Vx.toN]; omega))))) rfl ⟨⟨rfl, rfl, rfl, rfl⟩, ⟨rfl, rfl, ⟨Nat.le_refl _, fun _ _ => rfl⟩, rfl⟩, trivial⟩ (by rw [hC]; exact Nat.le_refl 2)
      refine V.loop (γ := Nat) (fun k1 => k1 ≤ k ∧ (∃ j, 0 < j ∧ j < k1 ∧ is j = true) ∧ cutI k1 (tab k1 fun j => (lv j, ov j, is j)) = cutI k (tab k fun j => (lv j, ov j, is j)))
        (fun _ => [(0, .ptr 0 0 0)]) (fun k1 => rheap k1 lv ov is o 0 v) (fun k1 => k1) ?_ k ⟨Nat.le_refl _, hop (by omega), rfl⟩
      rintro k1 ⟨hk1, ⟨j, j0, j1, j2⟩, hcut⟩ hback
      have ht := f33_ok k1 lv ov is o 0 v (by omega) _ _ _ rfl rfl rfl
      rw [cutI_step lv ov is k1 (by omega)] at hcut
      generalize lv (k1 - 1) = LV at ht
      generalize ov (k1 - 1) = OV at ht
      generalize hIS : is (k1 - 1) = IS at ht hcut
      obtain ⟨k2, hk2'⟩ : ∃ k2, k2 = k1 - 1 := ⟨_, rfl⟩
      rw [← hk2'] at hcut hIS
      obtain ⟨v1, hv1⟩ : ∃ v1, v1 = v - 1 := ⟨_, rfl⟩
      refine V.go Try.func32 tl_ok mixed hS.ops [] 400 ?_
      intro VV VA W hVV hVA hW
      conv => cbv
      rw [hVV]
      refine V.call rfl rfl rfl rfl rfl Try.func33 rfl (by decide) [0, 1] (by decide) (all_lt (by rfl)) (by (first | rfl | ((conv => cbv); (repeat' apply And.intro) <;> first | rfl | trivial | (first | rfl | omega | (simp (disch := omega) only [hS.glob, wraps, plain, Int.ofNat_eq_natCast]; first | done | rfl | omega | (simp; done) | (simp; omega)) | (simp (disch := omega) only [hS.glob, wraps, plain, Int.ofNat_eq_natCast, Vx.toN]; omega))))) (by rfl) ht ?_
      rintro r Hc ⟨rfl, rfl⟩
      clear hVV hVA VV VA hW W
      refine V.go Try.func32 tl_ok mixed hS.ops [] 400 ?_
      intro VV VA W hVV hVA hW
      conv => cbv
      have ek : toN (isub .i64 (ofN k1) 1) = k2 := by simp (disch := first | omega | (simp only [hS.glob, wraps, plain, Int.ofNat_eq_natCast]; omega)) only [hS.glob, wraps, plain, Int.ofNat_eq_natCast]; omega
      have ek2 : leb (isub .i64 (ofN k1) 1) (ofN k1) := by (first | trivial | omega | (simp (disch := omega) only [hS.glob, wraps, plain, Int.ofNat_eq_natCast]; first | done | omega | trivial | (simp; done) | (simp; omega) | (constructor <;> omega)) | (simp (disch := omega) only [hS.glob, wraps, plain, Int.ofNat_eq_natCast, Vx.toN]; omega))
      cases IS
      · conv => cbv
        repeat (refine ⟨by first | (rw [hW]; show ordOk _ _ _ = true; kernel_rfl) | (first | trivial | omega | (simp (disch := omega) only [hS.glob, wraps, plain, Int.ofNat_eq_natCast]; first | done | omega | trivial | (simp; done) | (simp; omega) | (constructor <;> omega)) | (simp (disch := omega) only [hS.glob, wraps, plain, Int.ofNat_eq_natCast, Vx.toN]; omega)), ?_⟩)
        simp only [ek]
        rw [hVV]
        have hjk : j < k2 := by
          rcases Nat.lt_or_ge j k2 with h | h
          · exact h
          · have : j = k2 := by omega
            subst this
            rw [j2] at hIS; cases hIS
        refine V.to (hback k2 ⟨by omega, ⟨j, j0, hjk, j2⟩, by simpa using hcut⟩ (by omega)) (by (repeat' first | exact trivial | rfl | (refine And.intro ?_ ?_) | (refine sti ?_; (first | rfl | omega | (simp (disch := omega) only [hS.glob, wraps, plain, Int.ofNat_eq_natCast]; first | done | rfl | omega | (simp; done) | (simp; omega)) | (simp (disch := omega) only [hS.glob, wraps, plain, Int.ofNat_eq_natCast, Vx.toN]; omega))) | (refine slq ?_ ?_ ?_ <;> (first | rfl | omega | (simp (disch := omega) only [hS.glob, wraps, plain, Int.ofNat_eq_natCast]; first | done | rfl | omega | (simp; done) | (simp; omega)) | (simp (disch := omega) only [hS.glob, wraps, plain, Int.ofNat_eq_natCast, Vx.toN]; omega))) | (refine ptq ?_ ?_ ?_ <;> (first | rfl | omega | (simp (disch := omega) only [hS.glob, wraps, plain, Int.ofNat_eq_natCast]; first | done | rfl | omega | (simp; done) | (simp; omega)) | (simp (disch := omega) only [hS.glob, wraps, plain, Int.ofNat_eq_natCast, Vx.toN]; omega))) | (refine blq ?_; (first | rfl | omega | (simp (disch := omega) only [hS.glob, wraps, plain, Int.ofNat_eq_natCast]; first | done | rfl | omega | (simp; done) | (simp; omega)) | (simp (disch := omega) only [hS.glob, wraps, plain, Int.ofNat_eq_natCast, Vx.toN]; omega))))) rfl ⟨⟨rfl, rfl, rfl, rfl⟩, ⟨rfl, rfl, ⟨by show k2 ≤ k1; omega, fun _ _ => rfl⟩, rfl⟩, trivial⟩ (by rw [hC]; exact Nat.le_refl 2)
      · conv => cbv
        repeat (refine ⟨by first | (rw [hW]; show ordOk _ _ _ = true; kernel_rfl) | (first | trivial | omega | (simp (disch := omega) only [hS.glob, wraps, plain, Int.ofNat_eq_natCast]; first | done | omega | trivial | (simp; done) | (simp; omega) | (constructor <;> omega)) | (simp (disch := omega) only [hS.glob, wraps, plain, Int.ofNat_eq_natCast, Vx.toN]; omega)), ?_⟩)
        simp only [ek]
        have eo : isub .i64 v 1 = v1 := by simp (disch := first | omega | (simp only [hS.glob, wraps, plain, Int.ofNat_eq_natCast]; omega)) only [hS.glob, wraps, plain, Int.ofNat_eq_natCast]; omega
        simp only [eo]
        rw [hQ]
        refine ⟨rfl, k2, lv, ov, is, o, 0, v1, none, fun _ => [], ?_, .inl ⟨k1, by omega, rfl⟩⟩
        rw [hM]
        unfold closeM
        rw [if_neg (by simp [absR]; omega), if_pos (by simp [absR]; omega)]
        simp only [absR, tab_len]
        rw [← hcut, hv1]
        simp
    · conv => cbv
      simp (disch := first | omega | (simp only [hS.glob, wraps, plain, Int.ofNat_eq_natCast]; omega)) only [hS.glob, wraps, plain, Int.ofNat_eq_natCast] at h2
      rw [hQ]
      exact ⟨rfl, k, lv, ov, is, o, e, v, none, fun _ => [], by rw [hM]; unfold closeM; rw [if_neg (by simp [absR]; omega), if_neg (by simp [absR]; omega)], .inl ⟨k, Nat.le_refl _, rfl⟩⟩
  · conv => cbv
    simp (disch := first | omega | (simp only [hS.glob, wraps, plain, Int.ofNat_eq_natCast]; omega)) only [hS.glob, wraps, plain, Int.ofNat_eq_natCast] at h1
    obtain ⟨i1, hi1⟩ : ∃ i1, i1 = o - 1 := ⟨_, rfl⟩
    have ei : isub .i64 o 1 = i1 := by simp (disch := first | omega | (simp only [hS.glob, wraps, plain, Int.ofNat_eq_natCast]; omega)) only [hS.glob, wraps, plain, Int.ofNat_eq_natCast]; omega
    rw [ei, hQ]
    exact ⟨rfl, k, lv, ov, is, i1, e, v, none, fun _ => [], by rw [hM]; unfold closeM; rw [if_pos (by simp [absR]; omega)]; simp [absR, hi1], .inl ⟨k, Nat.le_refl _, rfl⟩⟩

def doesR (c : Int) (m : Ms) : Ms := if c = 16 ∨ c = 14 ∨ c = 17 ∨ c = 15 then embR (oddM c) (ovM c) m else if c = 18 then popR m else m
theorem f31_ok (k : Nat) (lv ov : Nat → Int) (is : Nat → Bool) (o e v : Int) (hk : 0 < k) (hk2 : k ≤ 1000000) (hlv : 0 ≤ lv (k - 1) ∧ lv (k - 1) ≤ 1000) (ho : 0 ≤ o ∧ o ≤ 1000000) (he : 0 ≤ e ∧ e ≤ 1000000) (hv : 0 ≤ v ∧ v ≤ 1000000) (c : Int) : FSpec Try.prog 31 [.ptr 0 0 0, .int .i64 c] (rheap k lv ov is o e v) (RX (doesR c (absR k lv ov is o e v))) := by
  refine R0.rx k lv ov is o e v ?_
  obtain ⟨M, hM⟩ : ∃ M, M = doesR c (absR k lv ov is o e v) := ⟨_, rfl⟩
  rw [← hM]
  have hE := fun odd ovr h => f46_ok k lv ov is o e v hk hk2 hlv ho he hv odd h ovr
  have hP := f47_ok k lv ov is o e v hk hk2 hlv ho he hv
  obtain ⟨Q, hQ⟩ : ∃ Q, Q = R0 M := ⟨_, rfl⟩
  rw [← hQ]
  refine FSpec.of (fn := Try.f31) Try.func31 rfl rfl (by simp) fun C hC => ?_
  obtain ⟨iadd, isub, imul, iquo, irem, iband, ibor, ibxor, ibandn, ishl, ishr, iconv, ieq, ine, ilt, ile, igt, ige, bbeq, bbne, bnot, bband, sseq, ssne, sscat, sssub, sslen, sssz, ssbyte, toN, ofN, addN, subN, eqN, ltB, leN, imx, imn, inb, leb, sslt, ltN, fit, ne0, ge0, ssfit, minN, inR, hS⟩ := names
  refine V.go Try.func31 tl_ok mixed hS.ops [] 400 ?_
  intro VV VA W hVV hVA hW
  conv => cbv
  cases h1 : ieq c 16
  rotate_left
  · conv => cbv
    simp (disch := first | omega | (simp only [hS.glob, wraps, plain, Int.ofNat_eq_natCast]; omega)) only [hS.glob, wraps, plain, Int.ofNat_eq_natCast] at h1
    rw [hVV]
    refine V.call rfl rfl rfl rfl rfl Try.func46 rfl (by decide) [0, 1] (by decide) (all_lt (by rfl)) (by (first | rfl | ((conv => cbv); (repeat' apply And.intro) <;> first | rfl | trivial | (first | rfl | omega | (simp (disch := omega) only [hS.glob, wraps, plain, Int.ofNat_eq_natCast]; first | done | rfl | omega | (simp; done) | (simp; omega)) | (simp (disch := omega) only [hS.glob, wraps, plain, Int.ofNat_eq_natCast, Vx.toN]; omega))))) (by rfl) (hE 1 13 (by decide)) ?_
    rintro r Hc ⟨rfl, k', lv', ov', is', o', e', v', rfl, hR⟩
    clear hVV hVA VV VA hW W
    refine V.go Try.func31 tl_ok mixed hS.ops [] 400 ?_
    intro VV VA W hVV hVA hW
    conv => cbv
    rw [hQ]
    exact ⟨rfl, k', lv', ov', is', o', e', v', none, fun _ => [], by rw [hR, hM]; subst h1; rfl, .inr (.inr rfl)⟩
  conv => cbv
  cases h2 : ieq c 14
  rotate_left
  · conv => cbv
    simp (disch := first | omega | (simp only [hS.glob, wraps, plain, Int.ofNat_eq_natCast]; omega)) only [hS.glob, wraps, plain, Int.ofNat_eq_natCast] at h2
    replace h1 := h2
    clear h2
    rw [hVV]
    refine V.call rfl rfl rfl rfl rfl Try.func46 rfl (by decide) [0, 1] (by decide) (all_lt (by rfl)) (by (first | rfl | ((conv => cbv); (repeat' apply And.intro) <;> first | rfl | trivial | (first | rfl | omega | (simp (disch := omega) only [hS.glob, wraps, plain, Int.ofNat_eq_natCast]; first | done | rfl | omega | (simp; done) | (simp; omega)) | (simp (disch := omega) only [hS.glob, wraps, plain, Int.ofNat_eq_natCast, Vx.toN]; omega))))) (by rfl) (hE 0 13 (by decide)) ?_
    rintro r Hc ⟨rfl, k', lv', ov', is', o', e', v', rfl, hR⟩
    clear hVV hVA VV VA hW W
    refine V.go Try.func31 tl_ok mixed hS.ops [] 400 ?_
    intro VV VA W hVV hVA hW
    conv => cbv
    rw [hQ]
    exact ⟨rfl, k', lv', ov', is', o', e', v', none, fun _ => [], by rw [hR, hM]; subst h1; rfl, .inr (.inr rfl)⟩
  conv => cbv
  cases h3 : ieq c 17
  rotate_left
  · conv => cbv
    simp (disch := first | omega | (simp only [hS.glob, wraps, plain, Int.ofNat_eq_natCast]; omega)) only [hS.glob, wraps, plain, Int.ofNat_eq_natCast] at h3
    clear h1 h2
    have h1 := h3
    clear h3
    rw [hVV]
    refine V.call rfl rfl rfl rfl rfl Try.func46 rfl (by decide) [0, 1] (by decide) (all_lt (by rfl)) (by (first | rfl | ((conv => cbv); (repeat' apply And.intro) <;> first | rfl | trivial | (first | rfl | omega | (simp (disch := omega) only [hS.glob, wraps, plain, Int.ofNat_eq_natCast]; first | done | rfl | omega | (simp; done) | (simp; omega)) | (simp (disch := omega) only [hS.glob, wraps, plain, Int.ofNat_eq_natCast, Vx.toN]; omega))))) (by rfl) (hE 1 1 (by decide)) ?_
    rintro r Hc ⟨rfl, k', lv', ov', is', o', e', v', rfl, hR⟩
    clear hVV hVA VV VA hW W
    refine V.go Try.func31 tl_ok mixed hS.ops [] 400 ?_
    intro VV VA W hVV hVA hW
    conv => cbv
    rw [hQ]
    exact ⟨rfl, k', lv', ov', is', o', e', v', none, fun _ => [], by rw [hR, hM]; subst h1; rfl, .inr (.inr rfl)⟩
  conv => cbv
  cases h4 : ieq c 15
  rotate_left
  · conv => cbv
    simp (disch := first | omega | (simp only [hS.glob, wraps, plain, Int.ofNat_eq_natCast]; omega)) only [hS.glob, wraps, plain, Int.ofNat_eq_natCast] at h4
    clear h1 h2 h3
    have h1 := h4
    clear h4
    rw [hVV]
    refine V.call rfl rfl rfl rfl rfl Try.func46 rfl (by decide) [0, 1] (by decide) (all_lt (by rfl)) (by (first | rfl | ((conv => cbv); (repeat' apply And.intro) <;> first | rfl | trivial | (first | rfl | omega | (simp (disch := omega) only [hS.glob, wraps, plain, Int.ofNat_eq_natCast]; first | done | rfl | omega | (simp; done) | (simp; omega)) | (simp (disch := omega) only [hS.glob, wraps, plain, Int.ofNat_eq_natCast, Vx.toN]; omega))))) (by rfl) (hE 0 0 (by decide)) ?_
    rintro r Hc ⟨rfl, k', lv', ov', is', o', e', v', rfl, hR⟩
    clear hVV hVA VV VA hW W
    refine V.go Try.func31 tl_ok mixed hS.ops [] 400 ?_
    intro VV VA W hVV hVA hW
    conv => cbv
    rw [hQ]
    exact ⟨rfl, k', lv', ov', is', o', e', v', none, fun _ => [], by rw [hR, hM]; subst h1; rfl, .inr (.inr rfl)⟩
  conv => cbv
  cases h5 : ieq c 18
  rotate_left
  · conv => cbv
    simp (disch := first | omega | (simp only [hS.glob, wraps, plain, Int.ofNat_eq_natCast]; omega)) only [hS.glob, wraps, plain, Int.ofNat_eq_natCast] at h5
    clear h1 h2 h3 h4
    have h1 := h5
    clear h5
    rw [hVV]
    refine V.call rfl rfl rfl rfl rfl Try.func47 rfl (by decide) [0, 1] (by decide) (all_lt (by rfl)) (by (first | rfl | ((conv => cbv); (repeat' apply And.intro) <;> first | rfl | trivial | (first | rfl | omega | (simp (disch := omega) only [hS.glob, wraps, plain, Int.ofNat_eq_natCast]; first | done | rfl | omega | (simp; done) | (simp; omega)) | (simp (disch := omega) only [hS.glob, wraps, plain, Int.ofNat_eq_natCast, Vx.toN]; omega))))) (by rfl) hP ?_
    rintro r Hc ⟨rfl, k', lv', ov', is', o', e', v', rfl, hR⟩
    clear hVV hVA VV VA hW W
    refine V.go Try.func31 tl_ok mixed hS.ops [] 400 ?_
    intro VV VA W hVV hVA hW
    conv => cbv
    rw [hQ]
    exact ⟨rfl, k', lv', ov', is', o', e', v', none, fun _ => [], by rw [hR, hM]; subst h1; rfl, .inr (.inr rfl)⟩
  conv => cbv
  simp (disch := first | omega | (simp only [hS.glob, wraps, plain, Int.ofNat_eq_natCast]; omega)) only [hS.glob, wraps, plain, Int.ofNat_eq_natCast] at h1 h2 h3 h4 h5
  rw [hQ]
  exact ⟨rfl, k, lv, ov, is, o, e, v, none, fun _ => [], by rw [hM]; unfold doesR; rw [if_neg (by omega), if_neg (by omega)], .inl ⟨k, Nat.le_refl _, rfl⟩⟩

theorem f29_ok (base : Int) (lv ov : Nat → Int) (is : Nat → Bool) (h1 : lv 0 = base) (h2 : ov 0 = 13) (h3 : is 0 = false) : FSpec Try.prog 29 [.int .i64 base] [] (fun r H' => r = .ptr 0 0 0 ∧ H' = rheap 1 lv ov is 0 0 0) := by
  refine FSpec.repick (Q := fun r H' => r = .ptr 1 0 0 ∧ H' = [some ⟨60, 3, .arr 1 (srow lv ov is)⟩, some ⟨71, 4, .lit [rrow 0 1 0 0 0]⟩]) ?_ ?_
  · refine FSpec.weaken (Q := fun r H' => r = .ptr 1 0 0 ∧ H' = [some ⟨60, 3, .lit [[.int .i64 base, .int .i64 13, .bool false]]⟩, some ⟨71, 4, .lit [rrow 0 1 0 0 0]⟩]) ?_ ?_
    · refine FSpec.of (fn := Try.f29) Try.func29 rfl rfl (by simp) fun C hC => ?_
      obtain ⟨iadd, isub, imul, iquo, irem, iband, ibor, ibxor, ibandn, ishl, ishr, iconv, ieq, ine, ilt, ile, igt, ige, bbeq, bbne, bnot, bband, sseq, ssne, sscat, sssub, sslen, sssz, ssbyte, toN, ofN, addN, subN, eqN, ltB, leN, imx, imn, inb, leb, sslt, ltN, fit, ne0, ge0, ssfit, minN, inR, hS⟩ := names
      refine V.go Try.func29 tl_ok mixed hS.ops [] 400 ?_
      intro VV VA W hVV hVA hW
      conv => cbv
      trivial
    · rintro r H' ⟨rfl, rfl⟩
      refine ⟨[some ⟨60, 3, .arr 1 (srow lv ov is)⟩, some ⟨71, 4, .lit [rrow 0 1 0 0 0]⟩], ⟨⟨rfl, rfl, ⟨Nat.le_refl _, rfl, fun i hi => ?_⟩, rfl⟩, ⟨rfl, rfl, rfl, rfl⟩, trivial⟩, rfl, by simp, rfl, rfl⟩
      obtain rfl : i = 0 := by omega
      simp only [srow, h1, h2, h3]
      rfl
  · rintro r H' ⟨rfl, rfl⟩
    exact ⟨[1, 0], by decide, fun k hk => by simp at hk, rfl, rfl⟩
end Go.Proofs.Ytihmolafajmbjaa

/- The document: what stands in an isolate. -/
namespace Go.Proofs.Ytihmolafajmbjaa
open Go Vx

def shJ (i : Nat) (x : Int) : Int := if x = -1 then -1 else x + i
theorem rows_eq {n m : Nat} {f : Nat → List AV} {A : Nat → Int} (h1 : n = m) (h2 : ∀ j, f j = [.int .i64 (A j)]) : AV.rows 1 n f = AV.rows 1 m (icol .i64 A) := by
  subst h1
  rw [funext h2]; rfl
theorem f34_ok (ln : Nat) (l : Nat → Int) (hl : ln ≤ 1000000) (at' : Nat) (hat : at' < ln) (z : Int) (hz : z = at') (to : Nat) (hto : (to : Int) = if endOf ln l at' = -1 then (ln : Int) else endOf ln l at') (n : Nat) (hn : n = to - (at' + 1)) (A : Nat → Int) (hA : ∀ j, A j = l (at' + 1 + j)) :
    FSpec Try.prog 34 [.rows 1 ln (icol .i64 l), .int .i64 z] [] (fun r H' => r = .rows 1 n (icol .i64 A) ∧ H' = []) := by
  have hr := endOf_range ln l at' hat
  obtain ⟨E, hE⟩ : ∃ E, E = endOf ln l at' := ⟨_, rfl⟩
  have h22 := f22_ok ln l at' z hz hat E hE
  rw [← hE] at hto hr
  clear hE
  obtain ⟨R, hR⟩ : ∃ R, R = AV.rows 1 n (icol .i64 A) := ⟨_, rfl⟩
  rw [← hR]
  refine FSpec.of (fn := Try.f34) Try.func34 rfl rfl (by simp) fun C hC => ?_
  obtain ⟨iadd, isub, imul, iquo, irem, iband, ibor, ibxor, ibandn, ishl, ishr, iconv, ieq, ine, ilt, ile, igt, ige, bbeq, bbne, bnot, bband, sseq, ssne, sscat, sssub, sslen, sssz, ssbyte, toN, ofN, addN, subN, eqN, ltB, leN, imx, imn, inb, leb, sslt, ltN, fit, ne0, ge0, ssfit, minN, inR, hS⟩ := names
  obtain rfl : z = ofN at' := by simp (disch := first | omega | (simp only [hS.glob, wraps, plain, Int.ofNat_eq_natCast]; omega)) only [hS.glob, wraps, plain, Int.ofNat_eq_natCast]; exact hz
  refine V.go Try.func34 tl_ok mixed hS.ops [] 400 ?_
  intro VV VA W hVV hVA hW
  conv => cbv
  rw [hVV]
  refine V.call rfl rfl rfl rfl rfl Try.func22 rfl (by decide) [] (by simp) (by simp) (by (first | rfl | ((conv => cbv); (repeat' apply And.intro) <;> first | rfl | trivial | (first | rfl | omega | (simp (disch := omega) only [hS.glob, wraps, plain, Int.ofNat_eq_natCast]; first | done | rfl | omega | (simp; done) | (simp; omega)) | (simp (disch := omega) only [hS.glob, wraps, plain, Int.ofNat_eq_natCast, Vx.toN]; omega))))) rfl h22 ?_
  rintro r Hc ⟨rfl, rfl⟩
  clear hVV hVA VV VA hW W
  refine V.go Try.func34 tl_ok mixed hS.ops [] 400 ?_
  intro VV VA W hVV hVA hW
  conv => cbv
  cases h1 : ige E 0
  · conv => cbv
    simp (disch := first | omega | (simp only [hS.glob, wraps, plain, Int.ofNat_eq_natCast]; omega)) only [hS.glob, wraps, plain, Int.ofNat_eq_natCast] at h1
    repeat (refine ⟨by first | (rw [hW]; show ordOk _ _ _ = true; kernel_rfl) | (first | trivial | omega | (simp (disch := omega) only [hS.glob, wraps, plain, Int.ofNat_eq_natCast]; first | done | omega | trivial | (simp; done) | (simp; omega) | (constructor <;> omega)) | (simp (disch := omega) only [hS.glob, wraps, plain, Int.ofNat_eq_natCast, Vx.toN]; omega)), ?_⟩)
    refine ⟨?_, trivial⟩
    rw [hR]
    refine rows_eq ?_ fun j => ?_
    · simp (disch := first | omega | (simp only [hS.glob, wraps, plain, Int.ofNat_eq_natCast]; omega)) only [hS.glob, wraps, plain, Int.ofNat_eq_natCast]
      first | done | omega | (simp only [Vx.toN]; omega)
    · show [AV.int .i64 (l (addN (toN (iadd .i64 (ofN at') 1)) j))] = _
      rw [hA]
      have : addN (toN (iadd .i64 (ofN at') 1)) j = at' + 1 + j := by simp (disch := first | omega | (simp only [hS.glob, wraps, plain, Int.ofNat_eq_natCast]; omega)) only [hS.glob, wraps, plain, Int.ofNat_eq_natCast]; first | done | omega
      rw [this]
  · conv => cbv
    simp (disch := first | omega | (simp only [hS.glob, wraps, plain, Int.ofNat_eq_natCast]; omega)) only [hS.glob, wraps, plain, Int.ofNat_eq_natCast] at h1
    repeat (refine ⟨by first | (rw [hW]; show ordOk _ _ _ = true; kernel_rfl) | (first | trivial | omega | (simp (disch := omega) only [hS.glob, wraps, plain, Int.ofNat_eq_natCast]; first | done | omega | trivial | (simp; done) | (simp; omega) | (constructor <;> omega)) | (simp (disch := omega) only [hS.glob, wraps, plain, Int.ofNat_eq_natCast, Vx.toN]; omega)), ?_⟩)
    refine ⟨?_, trivial⟩
    rw [hR]
    refine rows_eq ?_ fun j => ?_
    · simp (disch := first | omega | (simp only [hS.glob, wraps, plain, Int.ofNat_eq_natCast]; omega)) only [hS.glob, wraps, plain, Int.ofNat_eq_natCast]
      first | done | omega | (simp only [Vx.toN]; omega)
    · show [AV.int .i64 (l (addN (toN (iadd .i64 (ofN at') 1)) j))] = _
      rw [hA]
      have : addN (toN (iadd .i64 (ofN at') 1)) j = at' + 1 + j := by simp (disch := first | omega | (simp only [hS.glob, wraps, plain, Int.ofNat_eq_natCast]; omega)) only [hS.glob, wraps, plain, Int.ofNat_eq_natCast]; first | done | omega
      rw [this]

/-! ### What the first strong makes in a stretch -/
theorem escan_cut (l : Nat → Int) : ∀ (f f' i o : Nat), f' ≤ f → escan l f' i o = (if escan l f i o = -1 ∨ ((i + f' : Nat) : Int) ≤ escan l f i o then -1 else escan l f i o)
  | f, 0, i, o, h => by
    have hr : ∀ f i o, escan l f i o = -1 ∨ (i : Int) ≤ escan l f i o := by
      intro f
      induction f with
      | zero => intro i o; simp [escan]
      | succ f ih =>
        intro i o
        rw [escan]
        have a := ih (i + 1) (o + 1)
        have b := ih (i + 1) (o - 1)
        have c := ih (i + 1) o
        repeat' split
        all_goals omega
    have := hr f i o
    rw [if_pos (by rw [Nat.add_zero]; exact this)]
    rfl
  | 0, f' + 1, i, o, h => by omega
  | f + 1, f' + 1, i, o, h => by
    have a := escan_cut l f f' (i + 1) (o + 1) (by omega)
    have b := escan_cut l f f' (i + 1) (o - 1) (by omega)
    have c := escan_cut l f f' (i + 1) o (by omega)
    rw [show i + 1 + f' = i + (f' + 1) by omega] at a b c
    rw [escan, escan]
    by_cases h1 : l i = 10
    · rw [if_pos h1, if_pos h1, if_pos (.inl rfl)]
    rw [if_neg h1, if_neg h1]
    by_cases h2 : begC (l i) = true
    · rw [if_pos h2, if_pos h2]; exact a
    rw [if_neg h2, if_neg h2]
    by_cases h3 : l i = 22
    · rw [if_pos h3, if_pos h3]
      by_cases h4 : o = 1
      · rw [if_pos h4, if_pos h4, if_neg (by omega)]
      · rw [if_neg h4, if_neg h4]; exact b
    · rw [if_neg h3, if_neg h3]; exact c
theorem escan_shift (l l' : Nat → Int) (d : Nat) (h : ∀ j, l' j = l (d + j)) : ∀ f i o, escan l f (d + i) o = shJ d (escan l' f i o)
  | 0, i, o => rfl
  | f + 1, i, o => by
    have a := escan_shift l l' d h f (i + 1)
    rw [escan, escan, h]
    by_cases h1 : l (d + i) = 10
    · rw [if_pos h1, if_pos h1]; rfl
    rw [if_neg h1, if_neg h1]
    by_cases h2 : begC (l (d + i)) = true
    · rw [if_pos h2, if_pos h2]; exact a _
    rw [if_neg h2, if_neg h2]
    by_cases h3 : l (d + i) = 22
    · rw [if_pos h3, if_pos h3]
      by_cases h4 : o = 1
      · rw [if_pos h4, if_pos h4]
        unfold shJ
        rw [if_neg (by omega)]; omega
      · rw [if_neg h4, if_neg h4]; exact a _
    · rw [if_neg h3, if_neg h3]; exact a _
theorem sgo_known (l e : Nat → Int) (to : Nat) : ∀ f i, sgo (kn l) e to f i = sgo l e to f i
  | 0, i => rfl
  | f + 1, i => by
    have ih := sgo_known l e to f
    have k1 : (kn l i = 10 ∨ kn l i = 0) ↔ (l i = 10 ∨ l i = 0) := by unfold kn knownC; split <;> omega
    have k2 : (kn l i = 1 ∨ kn l i = 2) ↔ (l i = 1 ∨ l i = 2) := by unfold kn knownC; split <;> omega
    have k3 : begC (kn l i) = begC (l i) := by
      unfold kn knownC
      split
      · have : begC (l i) = false := by simp only [begC, Bool.or_eq_false_iff, beq_eq_false_iff_ne, ne_eq]; omega
        rw [this]; rfl
      · rfl
    simp only [sgo, k1, k2, k3, ih]
theorem sgo_equiv (l e e2 : Nat → Int) (to : Nat) (h : ∀ p, p < to → ((e p = -1 ∨ (to : Int) ≤ e p) ↔ (e2 p = -1 ∨ (to : Int) ≤ e2 p)) ∧ (¬ (e p = -1 ∨ (to : Int) ≤ e p) → e p = e2 p)) : ∀ f i, sgo l e to f i = sgo l e2 to f i
  | 0, _ => rfl
  | f + 1, i => by
    have ih := sgo_equiv l e e2 to h f
    simp only [sgo]
    by_cases hi : i < to
    · simp only [if_pos hi]
      obtain ⟨h1, h2⟩ := h i hi
      by_cases h3 : e i = -1 ∨ (to : Int) ≤ e i
      · simp only [if_pos h3, if_pos (h1.1 h3), ih]
      · simp only [if_neg h3, if_neg (fun x => h3 (h1.2 x)), h2 h3, ih]
    · simp only [if_neg hi]
/-- What the first strong makes of what stands in an isolate. -/
theorem strong_between (ln : Nat) (l : Nat → Int) (at' : Nat) (hat : at' < ln) (n : Nat) (hn : n = toI ln (mrun l ln).2 at' - (at' + 1)) (A : Nat → Int) (hA : ∀ j, A j = l (at' + 1 + j)) :
    sgo A (endOf n A) n n 0 = sgo (kn l) (mrun l ln).2 (toI ln (mrun l ln).2 at') (toI ln (mrun l ln).2 at' - (at' + 1)) (at' + 1) := by
  have ho := mrun_out l ln
  have hm := match_eq ln l
  generalize (mrun l ln).2 = e at hn ho hm ⊢
  have hto : toI ln e at' = at' + 1 + n ∧ at' + 1 + n ≤ ln := by
    rw [hn]
    have := ho at'
    unfold toI
    split <;> omega
  obtain ⟨e', he'⟩ : ∃ e' : Nat → Int, ∀ q, e' q = if e (at' + 1 + q) = -1 then -1 else e (at' + 1 + q) - (at' + 1) := ⟨_, fun _ => rfl⟩
  rw [hto.1, show at' + 1 + n - (at' + 1) = n by omega]
  have hs := sgo_shift (kn l) e (kn A) e' (at' + 1) n (fun q => by unfold kn; rw [hA]) (fun q => by
    have := ho (at' + 1 + q)
    rw [he']; unfold shI
    by_cases h4 : e (at' + 1 + q) = -1
    · rw [if_pos h4, if_pos rfl, h4]
    · rw [if_neg h4, if_neg (by omega)]; omega) (fun q => by
    have := ho (at' + 1 + q)
    rw [he']
    by_cases h4 : e (at' + 1 + q) = -1
    · rw [if_pos h4]; exact .inl rfl
    · rw [if_neg h4]; exact .inr (by omega)) n 0
  rw [Nat.add_zero] at hs
  rw [hs, sgo_known]
  refine sgo_equiv A (endOf n A) e' n (fun p hp => ?_) n 0
  have h1 := hm (at' + 1 + p) (by omega)
  have h2 := ho (at' + 1 + p)
  have h3 := he' p
  have key : shJ (at' + 1) (endOf n A p) = if e (at' + 1 + p) = -1 ∨ ((at' + 1 + n : Nat) : Int) ≤ e (at' + 1 + p) then -1 else e (at' + 1 + p) := by
    rw [h1]
    unfold endOf
    rw [hA]
    by_cases hb : begC (l (at' + 1 + p)) = true
    · rw [if_pos hb, if_pos hb, ← escan_shift l A (at' + 1) hA, ← Nat.add_assoc (at' + 1) p 1,
        escan_cut l (ln - (at' + 1 + p + 1)) (n - (p + 1)) (at' + 1 + p + 1) 1 (by omega), show at' + 1 + p + 1 + (n - (p + 1)) = at' + 1 + n by omega]
    · rw [if_neg hb, if_neg hb, if_pos (.inl rfl)]; rfl
  have h5 := endOf_range n A p hp
  generalize endOf n A p = x at key h5
  unfold shJ at key
  split at key <;> split at key <;> split at h3 <;> omega
end Go.Proofs.Ytihmolafajmbjaa

/- The document's machine, and the machine: one step. -/
namespace Go.Proofs.Ytihmolafajmbjaa
open Go Vx

def strip (m : Ms) : Ms := { m with xs := [], cs := [] }
theorem can_strip (odd : Int) (m : Ms) : canP odd (strip m) = canP odd m := rfl
theorem top_strip (m : Ms) : topM (strip m) = topM m := rfl
theorem emb_strip (odd ov : Int) (m : Ms) : embR odd ov (strip m) = strip (embR odd ov m) := by
  unfold embR
  rw [can_strip]
  by_cases h : canP odd m = true
  · rw [if_pos h, if_pos h]; rfl
  · rw [if_neg h, if_neg h]
    by_cases h2 : m.iso = 0
    · rw [if_pos h2, if_pos (show (strip m).iso = 0 from h2)]; rfl
    · rw [if_neg h2, if_neg (show ¬ (strip m).iso = 0 from h2)]
theorem pop_strip (m : Ms) : popR (strip m) = strip (popR m) := by
  unfold popR
  rw [top_strip]
  by_cases h : 0 < m.iso
  · rw [if_pos h, if_pos (show 0 < (strip m).iso from h)]
  · rw [if_neg h, if_neg (show ¬ 0 < (strip m).iso from h)]
    by_cases h5 : 0 < m.emb
    · rw [if_pos h5, if_pos (show 0 < (strip m).emb from h5)]; rfl
    · rw [if_neg h5, if_neg (show ¬ 0 < (strip m).emb from h5)]
      by_cases h6 : 1 < m.st.length ∧ (topM m).2.2 = false
      · rw [if_pos h6, if_pos (show 1 < (strip m).st.length ∧ (topM m).2.2 = false from h6)]; rfl
      · rw [if_neg h6, if_neg (show ¬ (1 < (strip m).st.length ∧ (topM m).2.2 = false) from h6)]
theorem close_strip (m : Ms) : closeM (strip m) = strip (closeM m) := by
  unfold closeM
  by_cases h : 0 < m.iso
  · rw [if_pos h, if_pos (show 0 < (strip m).iso from h)]; rfl
  · rw [if_neg h, if_neg (show ¬ 0 < (strip m).iso from h)]
    by_cases h3 : 0 < m.opn
    · rw [if_pos h3, if_pos (show 0 < (strip m).opn from h3)]; rfl
    · rw [if_neg h3, if_neg (show ¬ 0 < (strip m).opn from h3)]
/-- What is told of a step. -/
structure Told (m m' : Ms) (st : Ms) (x c : Int) : Prop where
  st : strip m' = st
  xs : m'.xs = m.xs ++ [x]
  cs : m'.cs = m.cs ++ [c]
theorem emb_xs (odd ov : Int) (m : Ms) : (embR odd ov m).xs = m.xs ∧ (embR odd ov m).cs = m.cs := by unfold embR; split <;> (try split) <;> exact ⟨rfl, rfl⟩
theorem pop_xs (m : Ms) : (popR m).xs = m.xs ∧ (popR m).cs = m.cs := by unfold popR; split <;> (try split) <;> (try split) <;> exact ⟨rfl, rfl⟩
theorem close_xs (m : Ms) : (closeM m).xs = m.xs ∧ (closeM m).cs = m.cs := by unfold closeM; split <;> (try split) <;> exact ⟨rfl, rfl⟩
theorem told_rem (base odd c : Int) (m : Ms) (h : remC c = true) : Told m (stepM base odd c m) (doesR c (strip m)) (-1) c := by
  unfold stepM doesR
  by_cases h1 : c = 16 ∨ c = 14 ∨ c = 17 ∨ c = 15
  · rw [if_pos h1, if_pos h1, emb_strip]
    obtain ⟨a, b⟩ := emb_xs (oddM c) (ovM c) m
    exact ⟨rfl, by show (embR (oddM c) (ovM c) m).xs ++ _ = _; rw [a], by show (embR (oddM c) (ovM c) m).cs ++ _ = _; rw [b]⟩
  rw [if_neg h1, if_neg h1]
  simp only [remC, Bool.or_eq_true, beq_iff_eq] at h
  rw [if_neg (by omega), if_neg (by omega)]
  by_cases h2 : c = 18
  · rw [if_pos h2, if_pos h2, pop_strip]
    obtain ⟨a, b⟩ := pop_xs m
    exact ⟨rfl, by show (popR m).xs ++ _ = _; rw [a], by show (popR m).cs ++ _ = _; rw [b]⟩
  · rw [if_neg h2, if_neg h2, if_neg (by omega), if_pos (by omega)]
    exact ⟨rfl, rfl, rfl⟩
theorem told_B (base odd : Int) (m : Ms) : Told m (stepM base odd 10 m) ⟨[(base, 13, false)], 0, 0, 0, [], []⟩ base 10 := ⟨rfl, rfl, rfl⟩
def topC (c : Int) (m : Ms) : Int := if (topM m).2.1 = 13 then c else (topM m).2.1
theorem told_close (base odd : Int) (m : Ms) : Told m (stepM base odd 22 m) (closeM (strip m)) (topM (closeM (strip m))).1 (topC 22 (closeM (strip m))) := by
  obtain ⟨a, b⟩ := close_xs m
  rw [close_strip, top_strip]
  exact ⟨rfl, by show (closeM m).xs ++ _ = _; rw [a], by show (closeM m).cs ++ _ = _; rw [b]; rfl⟩
theorem told_iso (base odd c : Int) (m : Ms) (h : begC c = true) : Told m (stepM base odd c m) (isoR odd (strip m)) (topM (strip m)).1 (topC c (strip m)) := by
  unfold stepM
  simp only [begC, Bool.or_eq_true, beq_iff_eq] at h
  rw [if_neg (by omega), if_pos (by omega)]
  unfold isoM isoR
  dsimp only
  have h1 : canP odd (plainM c m) = canP odd m := rfl
  rw [can_strip, h1]
  by_cases h : canP odd m = true
  · rw [if_pos h, if_pos h]; exact ⟨rfl, rfl, rfl⟩
  · rw [if_neg h, if_neg h]; exact ⟨rfl, rfl, rfl⟩
theorem told_plain (base odd c : Int) (m : Ms) (h1 : remC c = false) (h2 : begC c = false) (h3 : c ≠ 10) (h4 : c ≠ 22) : Told m (stepM base odd c m) (strip m) (topM (strip m)).1 (topC c (strip m)) := by
  unfold stepM
  simp only [begC, remC, Bool.or_eq_false_iff, beq_eq_false_iff_ne, ne_eq] at h1 h2
  rw [if_neg (by omega), if_neg (by omega), if_neg (by omega), if_neg (by omega), if_neg (by omega), if_neg (by omega)]
  exact ⟨rfl, rfl, rfl⟩

/-- The numbers that a machine's step wants. -/
theorem good_nums {base : Int} (hb : 0 ≤ base ∧ base ≤ 1) {i : Nat} (hi : i ≤ 999999) {m : Ms} (g : Good base i m) (k : Nat) (lv ov : Nat → Int) (is : Nat → Bool) (o e v : Int) (h : absR k lv ov is o e v = strip m) :
    0 < k ∧ k ≤ 1000000 ∧ (0 ≤ lv (k - 1) ∧ lv (k - 1) ≤ 1000) ∧ (0 ≤ o ∧ o ≤ 1000000) ∧ (0 ≤ e ∧ e ≤ 1000000) ∧ (0 ≤ v ∧ v ≤ 1000000) ∧ (0 < v → ∃ j, 0 < j ∧ j < k ∧ is j = true) := by
  have e1 : m.st = tab k fun j => (lv j, ov j, is j) := by have := congrArg Ms.st h; exact this.symm
  have e2 : m.iso = o := by have := congrArg Ms.iso h; exact this.symm
  have e3 : m.emb = e := by have := congrArg Ms.emb h; exact this.symm
  have e4 : m.opn = v := by have := congrArg Ms.opn h; exact this.symm
  have hk : 0 < k := by
    have := g.ne
    rcases Nat.eq_zero_or_pos k with h | h
    · subst h; exact absurd e1 this
    · exact h
  have hco := g.opn
  have hl := g.len
  have h1 := List.countP_le_length (p := fun p : Int × Int × Bool => p.2.2) (l := tab k fun j => (lv j, ov j, is j))
  rw [e1] at hl hco
  rw [tab_len] at hl h1
  rw [e4] at hco
  have hiso := g.iso
  have hemb := g.emb
  rw [e2] at hiso
  rw [e3] at hemb
  refine ⟨hk, by omega, ?_, by omega, by omega, by omega, fun hv => ?_⟩
  · have := g.lev _ (by rw [e1]; exact tab_mem (fun j => (lv j, ov j, is j)) (show k - 1 < k by omega))
    simp only at this; omega
  · obtain ⟨j, hj, hp⟩ := tab_count (fun j => (lv j, ov j, is j)) (fun p => p.2.2) (show 0 < (tab k fun j => (lv j, ov j, is j)).countP (fun p => p.2.2) by omega)
    refine ⟨j, ?_, hj, hp⟩
    rcases Nat.eq_zero_or_pos j with h0 | h0
    · subst h0
      have hd := g.hd
      rw [e1] at hd
      obtain ⟨k', rfl⟩ : ∃ k', k = k' + 1 := ⟨k - 1, by omega⟩
      simp only [tab, List.range_succ_eq_map, List.map_cons, List.headD_cons] at hd
      simp only at hp
      rw [hd] at hp; cases hp
    · exact h0
end Go.Proofs.Ytihmolafajmbjaa

/- The document's Levels. -/
namespace Go.Proofs.Ytihmolafajmbjaa
open Go Vx

/-- The machine, levels and classes. -/
def lheap (k : Nat) (lv ov : Nat → Int) (is : Nat → Bool) (o e v : Int) (q : Nat) (xs cs : Nat → Int) : Hp := [some ⟨71, 4, .lit [rrow 1 k o e v]⟩, some ⟨60, 3, .arr k (srow lv ov is)⟩, some ⟨3, 1, .arr q (icol .i64 xs)⟩, some ⟨34, 1, .arr q (icol .i64 cs)⟩]

theorem close_ne {base : Int} {i : Nat} {m : Ms} (h : Good base i m) : (closeM m).st ≠ [] := by
  unfold closeM
  split
  · exact h.ne
  · split
    · rename_i h1 h2
      have hc : 0 < m.st.countP (fun p => p.2.2) := by have := h.opn; omega
      obtain ⟨c1, c2, c3, c4⟩ := good_cut m.st.length m.st (Nat.le_refl _) h.lev h.hd hc
      exact hd_ne c3
    · exact h.ne
structure Rv where
  i : Nat
  k : Nat
  lv : Nat → Int
  ov : Nat → Int
  is : Nat → Bool
  o : Int
  e : Int
  v : Int
  xs : Nat → Int
  cs : Nat → Int
theorem f16_err (ln : Nat) (l : Nat → Int) (b0 : Int) (hb : b0 < -1 ∨ 1 < b0) : FSpec Try.prog 16 [.rows 1 ln (icol .i64 l), .int .i64 b0] [] (fun r H' => r = .tup [.nil .slice, .nil .slice, .int .i64 81] ∧ H' = []) := by
  refine FSpec.of (fn := Try.f16) Try.func16 rfl rfl (by simp) fun C hC => ?_
  obtain ⟨iadd, isub, imul, iquo, irem, iband, ibor, ibxor, ibandn, ishl, ishr, iconv, ieq, ine, ilt, ile, igt, ige, bbeq, bbne, bnot, bband, sseq, ssne, sscat, sssub, sslen, sssz, ssbyte, toN, ofN, addN, subN, eqN, ltB, leN, imx, imn, inb, leb, sslt, ltN, fit, ne0, ge0, ssfit, minN, inR, hS⟩ := names
  refine V.go Try.func16 tl_ok mixed hS.ops [] 400 ?_
  intro VV VA W hVV hVA hW
  conv => cbv
  cases h1 : ilt b0 (-1)
  · conv => cbv
    cases h2 : igt b0 1
    · simp (disch := first | omega | (simp only [hS.glob, wraps, plain, Int.ofNat_eq_natCast]; omega)) only [hS.glob, wraps, plain, Int.ofNat_eq_natCast] at h1 h2; omega
    · conv => cbv
      simp
  · conv => cbv
    simp

theorem f16_known1 (ln : Nat) (l : Nat → Int) (hl : ln ≤ 999999) (base : Int) (hb : 0 ≤ base ∧ base ≤ 1) : FSpec Try.prog 16 [.rows 1 ln (icol .i64 l), .int .i64 base] []
    (fun r H' => ∃ (xs cs : Nat → Int) (a b : Option Ob), r = .tup [.sl 2 0 ln, .sl 3 0 ln, .int .i64 0] ∧ H' = [a, b, some ⟨3, 1, .arr ln (icol .i64 xs)⟩, some ⟨34, 1, .arr ln (icol .i64 cs)⟩] ∧ tab ln xs = (levM ln l base).xs ∧ tab ln cs = (levM ln l base).cs) := by
  have hG := good_run hb (oddsOf ln l) (kn l) (fun i => oddI_01 _ _ _ _)
  have hS0 : runM base (oddsOf ln l) (kn l) 0 = ⟨[(base, 13, false)], 0, 0, 0, [], []⟩ := rfl
  have hSs : ∀ i, runM base (oddsOf ln l) (kn l) (i + 1) = stepM base (oddsOf ln l i) (knownC (l i)) (runM base (oddsOf ln l) (kn l) i) := fun i => rfl
  have hlev : levM ln l base = runM base (oddsOf ln l) (kn l) ln := rfl
  rw [hlev]
  clear hlev
  generalize runM base (oddsOf ln l) (kn l) = R at hG hS0 hSs ⊢
  obtain ⟨Q, hQ⟩ : ∃ Q : AV → Hp → Prop, Q = (fun r H' => ∃ (xs cs : Nat → Int) (a b : Option Ob), r = .tup [.sl 2 0 ln, .sl 3 0 ln, .int .i64 0] ∧ H' = [a, b, some ⟨3, 1, .arr ln (icol .i64 xs)⟩, some ⟨34, 1, .arr ln (icol .i64 cs)⟩] ∧ tab ln xs = (R ln).xs ∧ tab ln cs = (R ln).cs) := ⟨_, rfl⟩
  rw [← hQ]
  have h29 := f29_ok base (fun _ => base) (fun _ => 13) (fun _ => false) rfl rfl rfl
  refine FSpec.of (fn := Try.f16) Try.func16 rfl rfl (by simp) fun C hC => ?_
  obtain ⟨iadd, isub, imul, iquo, irem, iband, ibor, ibxor, ibandn, ishl, ishr, iconv, ieq, ine, ilt, ile, igt, ige, bbeq, bbne, bnot, bband, sseq, ssne, sscat, sssub, sslen, sssz, ssbyte, toN, ofN, addN, subN, eqN, ltB, leN, imx, imn, inb, leb, sslt, ltN, fit, ne0, ge0, ssfit, minN, inR, hS⟩ := names
  refine V.go Try.func16 tl_ok mixed hS.ops [] 400 ?_
  intro VV VA W hVV hVA hW
  conv => cbv
  cases h1 : ilt base (-1)
  rotate_left
  · simp (disch := first | omega | (simp only [hS.glob, wraps, plain, Int.ofNat_eq_natCast]; omega)) only [hS.glob, wraps, plain, Int.ofNat_eq_natCast] at h1; omega
  conv => cbv
  cases h2 : igt base 1
  rotate_left
  · simp (disch := first | omega | (simp only [hS.glob, wraps, plain, Int.ofNat_eq_natCast]; omega)) only [hS.glob, wraps, plain, Int.ofNat_eq_natCast] at h2; omega
  conv => cbv
  cases h3 : ilt base 0
  rotate_left
  · simp (disch := first | omega | (simp only [hS.glob, wraps, plain, Int.ofNat_eq_natCast]; omega)) only [hS.glob, wraps, plain, Int.ofNat_eq_natCast] at h3; omega
  conv => cbv
  rw [hVV]
  clear hVV hVA VV VA hW W h1 h2 h3
  refine V.phantom 7 3 1 (icol .i64 (fun _ => 0)) rfl ?_
  refine V.phantom 8 34 1 (icol .i64 (fun _ => 0)) rfl ?_
  refine V.call rfl rfl rfl rfl rfl Try.func29 rfl (by decide) [] (by simp) (by simp) (by (first | rfl | ((conv => cbv); (repeat' apply And.intro) <;> first | rfl | trivial | (first | rfl | omega | (simp (disch := omega) only [hS.glob, wraps, plain, Int.ofNat_eq_natCast]; first | done | rfl | omega | (simp; done) | (simp; omega)) | (simp (disch := omega) only [hS.glob, wraps, plain, Int.ofNat_eq_natCast, Vx.toN]; omega))))) rfl h29 ?_
  rintro r Hc ⟨rfl, rfl⟩
  refine V.go Try.func16 tl_ok mixed hS.ops [] 400 ?_
  intro VV VA W hVV hVA hW
  conv => cbv
  rw [hVV]
  clear hVV hVA VV VA hW W
  refine V.to (s' := [(10, .int .i64 (ofN 0)), (7, .sl 0 0 0), (8, .sl 1 0 0), (9, .ptr 2 0 0), (0, .rows 1 ln (icol .i64 l)), (1, .int .i64 base)]) (H' := [some ⟨3, 1, .arr 0 (icol .i64 (fun _ => 0))⟩, some ⟨34, 1, .arr 0 (icol .i64 (fun _ => 0))⟩, some ⟨71, 4, .lit [rrow 3 1 0 0 0]⟩, some ⟨60, 3, .arr 1 (srow (fun _ => base) (fun _ => 13) (fun _ => false))⟩]) ?_ (by (repeat' first | exact trivial | rfl | (refine And.intro ?_ ?_) | (refine sti ?_; (first | rfl | omega | (simp (disch := omega) only [hS.glob, wraps, plain, Int.ofNat_eq_natCast]; first | done | rfl | omega | (simp; done) | (simp; omega)) | (simp (disch := omega) only [hS.glob, wraps, plain, Int.ofNat_eq_natCast, Vx.toN]; omega))) | (refine slq ?_ ?_ ?_ <;> (first | rfl | omega | (simp (disch := omega) only [hS.glob, wraps, plain, Int.ofNat_eq_natCast]; first | done | rfl | omega | (simp; done) | (simp; omega)) | (simp (disch := omega) only [hS.glob, wraps, plain, Int.ofNat_eq_natCast, Vx.toN]; omega))) | (refine ptq ?_ ?_ ?_ <;> (first | rfl | omega | (simp (disch := omega) only [hS.glob, wraps, plain, Int.ofNat_eq_natCast]; first | done | rfl | omega | (simp; done) | (simp; omega)) | (simp (disch := omega) only [hS.glob, wraps, plain, Int.ofNat_eq_natCast, Vx.toN]; omega))) | (refine blq ?_; (first | rfl | omega | (simp (disch := omega) only [hS.glob, wraps, plain, Int.ofNat_eq_natCast]; first | done | rfl | omega | (simp; done) | (simp; omega)) | (simp (disch := omega) only [hS.glob, wraps, plain, Int.ofNat_eq_natCast, Vx.toN]; omega))))) rfl (by (repeat' first | exact trivial | rfl | exact Nat.le_refl _ | exact (fun _ _ => rfl) | (refine And.intro ?_ ?_) | (simp only [hS.glob, plain]; first | done | omega))) (by rw [hC]; simp)
  refine V.pick [2, 3, 0, 1] (by decide) (by rw [hC]; exact begins_of rfl) (H' := lheap 1 (fun _ => base) (fun _ => 13) (fun _ => false) 0 0 0 0 (fun _ => 0) (fun _ => 0)) rfl (s' := [(10, .int .i64 (ofN 0)), (7, .sl 2 0 0), (8, .sl 3 0 0), (9, .ptr 0 0 0), (0, .rows 1 ln (icol .i64 l)), (1, .int .i64 base)]) rfl ?_
  refine V.loop (γ := Rv) (fun p => p.i ≤ ln ∧ absR p.k p.lv p.ov p.is p.o p.e p.v = strip (R p.i) ∧ tab p.i p.xs = (R p.i).xs ∧ tab p.i p.cs = (R p.i).cs) (fun p => [(10, .int .i64 (ofN p.i)), (7, .sl 2 0 p.i), (8, .sl 3 0 p.i), (9, .ptr 0 0 0), (0, .rows 1 ln (icol .i64 l)), (1, .int .i64 base)]) (fun p => lheap p.k p.lv p.ov p.is p.o p.e p.v p.i p.xs p.cs) (fun p => ln - p.i) ?_ ⟨0, 1, fun _ => base, fun _ => 13, fun _ => false, 0, 0, 0, fun _ => 0, fun _ => 0⟩ ⟨Nat.zero_le _, by rw [hS0]; rfl, by rw [hS0]; rfl, by rw [hS0]; rfl⟩
  rintro ⟨i, k, lv, ov, is, o, e, v, xs, cs⟩ ⟨hi, hM, hX, hY⟩ hback
  dsimp only at hi hM hX hY hback ⊢
  refine V.go Try.func16 tl_ok mixed hS.ops [] 400 ?_
  intro VV VA W hVV hVA hW
  conv => cbv
  split <;> rename_i h1
  rotate_left
  · conv => cbv
    simp (disch := first | omega | (simp only [hS.glob, wraps, plain, Int.ofNat_eq_natCast]; omega)) only [hS.glob, wraps, plain, Int.ofNat_eq_natCast] at h1
    obtain rfl : i = ln := by omega
    rw [hQ]
    exact ⟨xs, cs, _, _, rfl, rfl, hX, hY⟩
  · conv => cbv
    simp (disch := first | omega | (simp only [hS.glob, wraps, plain, Int.ofNat_eq_natCast]; omega)) only [hS.glob, wraps, plain, Int.ofNat_eq_natCast] at h1
    repeat (refine ⟨by first | (rw [hW]; show ordOk _ _ _ = true; kernel_rfl) | (first | trivial | omega | (simp (disch := omega) only [hS.glob, wraps, plain, Int.ofNat_eq_natCast]; first | done | omega | trivial | (simp; done) | (simp; omega) | (constructor <;> omega)) | (simp (disch := omega) only [hS.glob, wraps, plain, Int.ofNat_eq_natCast, Vx.toN]; omega)), ?_⟩)
    simp only [hS.tidy]
    obtain ⟨n1, n2, n3, n4, n5, n6, n7⟩ := good_nums hb (by omega) (hG i) k lv ov is o e v hM
    obtain ⟨c, hc⟩ : ∃ c, c = knownC (l i) := ⟨_, rfl⟩
    have hS1 := hSs i
    rw [← hc] at hS1
    obtain ⟨rem, hrem⟩ : ∃ b, b = remC c := ⟨_, rfl⟩
    obtain ⟨beg, hbeg⟩ : ∃ b, b = begC c := ⟨_, rfl⟩
    rw [hVV]
    clear hVV hVA VV VA hW W
    refine V.call rfl rfl rfl rfl rfl Try.func30 rfl (by decide) [] (by simp) (by simp) (by (first | rfl | ((conv => cbv); (repeat' apply And.intro) <;> first | rfl | trivial | (first | rfl | omega | (simp (disch := omega) only [hS.glob, wraps, plain, Int.ofNat_eq_natCast]; first | done | rfl | omega | (simp; done) | (simp; omega)) | (simp (disch := omega) only [hS.glob, wraps, plain, Int.ofNat_eq_natCast, Vx.toN]; omega))))) rfl (f30_ok (l i) c hc) ?_
    rintro r Hc ⟨rfl, rfl⟩
    refine V.go Try.func16 tl_ok mixed hS.ops [] 400 ?_
    intro VV VA W hVV hVA hW
    conv => cbv
    rw [hVV]
    clear hVV hVA VV VA hW W
    refine V.call rfl rfl rfl rfl rfl Try.func17 rfl (by decide) [] (by simp) (by simp) (by (first | rfl | ((conv => cbv); (repeat' apply And.intro) <;> first | rfl | trivial | (first | rfl | omega | (simp (disch := omega) only [hS.glob, wraps, plain, Int.ofNat_eq_natCast]; first | done | rfl | omega | (simp; done) | (simp; omega)) | (simp (disch := omega) only [hS.glob, wraps, plain, Int.ofNat_eq_natCast, Vx.toN]; omega))))) rfl (f17_ok c rem hrem) ?_
    rintro r Hc ⟨rfl, rfl⟩
    refine V.go Try.func16 tl_ok mixed hS.ops [] 400 ?_
    intro VV VA W hVV hVA hW
    conv => cbv
    rw [hVV]
    clear hVV hVA VV VA hW W
    refine V.call rfl rfl rfl rfl rfl Try.func24 rfl (by decide) [] (by simp) (by simp) (by (first | rfl | ((conv => cbv); (repeat' apply And.intro) <;> first | rfl | trivial | (first | rfl | omega | (simp (disch := omega) only [hS.glob, wraps, plain, Int.ofNat_eq_natCast]; first | done | rfl | omega | (simp; done) | (simp; omega)) | (simp (disch := omega) only [hS.glob, wraps, plain, Int.ofNat_eq_natCast, Vx.toN]; omega))))) rfl (f24_ok c beg hbeg) ?_
    rintro r Hc ⟨rfl, rfl⟩
    cases rem
    rotate_left
    · refine V.go Try.func16 tl_ok mixed hS.ops [] 400 ?_
      intro VV VA W hVV hVA hW
      conv => cbv
      rw [hVV]
      clear hVV hVA VV VA hW W
      have hT := told_rem base (oddsOf ln l i) c (R i) hrem.symm
      rw [← hS1, ← hM] at hT
      refine V.call rfl rfl rfl rfl rfl Try.func31 rfl (by decide) [0, 1] (by decide) (all_lt (by rfl)) (by (first | rfl | ((conv => cbv); (repeat' apply And.intro) <;> first | rfl | trivial | (first | rfl | omega | (simp (disch := omega) only [hS.glob, wraps, plain, Int.ofNat_eq_natCast]; first | done | rfl | omega | (simp; done) | (simp; omega)) | (simp (disch := omega) only [hS.glob, wraps, plain, Int.ofNat_eq_natCast, Vx.toN]; omega))))) (by rfl) (f31_ok k lv ov is o e v n1 n2 n3 n4 n5 n6 c) ?_
      rintro r Hc ⟨rfl, k', lv', ov', is', o', e', v', rfl, hR⟩
      refine V.go Try.func16 tl_ok mixed hS.ops [] 400 ?_
      intro VV VA W hVV hVA hW
      conv => cbv
      repeat (refine ⟨by first | (rw [hW]; show ordOk _ _ _ = true; kernel_rfl) | (first | trivial | omega | (simp (disch := omega) only [hS.glob, wraps, plain, Int.ofNat_eq_natCast]; first | done | omega | trivial | (simp; done) | (simp; omega) | (constructor <;> omega)) | (simp (disch := omega) only [hS.glob, wraps, plain, Int.ofNat_eq_natCast, Vx.toN]; omega)), ?_⟩)
      rw [hVV]
      clear hVV hVA VV VA hW W
      obtain ⟨xs', x1, x2⟩ := snocF xs i (-1)
      obtain ⟨cs', y1, y2⟩ := snocF cs i c
      have hS' := hR.trans hT.st.symm
      refine V.pick [0, 4, 6, 8] (by decide) (by rw [hC]; exact begins_of rfl) (by rfl) (by rfl) ?_
      exact V.to (hback ⟨i + 1, k', lv', ov', is', o', e', v', xs', cs'⟩ ⟨by simp only; omega, hS', by rw [hT.xs, ← hX]; exact tab_snoc rfl x1 x2, by rw [hT.cs, ← hY]; exact tab_snoc rfl y1 y2⟩ (by simp only; omega)) (by (repeat' first | exact trivial | rfl | (refine And.intro ?_ ?_) | (refine sti ?_; (first | rfl | omega | (simp (disch := omega) only [hS.glob, wraps, plain, Int.ofNat_eq_natCast]; first | done | rfl | omega | (simp; done) | (simp; omega)) | (simp (disch := omega) only [hS.glob, wraps, plain, Int.ofNat_eq_natCast, Vx.toN]; omega))) | (refine slq ?_ ?_ ?_ <;> (first | rfl | omega | (simp (disch := omega) only [hS.glob, wraps, plain, Int.ofNat_eq_natCast]; first | done | rfl | omega | (simp; done) | (simp; omega)) | (simp (disch := omega) only [hS.glob, wraps, plain, Int.ofNat_eq_natCast, Vx.toN]; omega))) | (refine ptq ?_ ?_ ?_ <;> (first | rfl | omega | (simp (disch := omega) only [hS.glob, wraps, plain, Int.ofNat_eq_natCast]; first | done | rfl | omega | (simp; done) | (simp; omega)) | (simp (disch := omega) only [hS.glob, wraps, plain, Int.ofNat_eq_natCast, Vx.toN]; omega))) | (refine blq ?_; (first | rfl | omega | (simp (disch := omega) only [hS.glob, wraps, plain, Int.ofNat_eq_natCast]; first | done | rfl | omega | (simp; done) | (simp; omega)) | (simp (disch := omega) only [hS.glob, wraps, plain, Int.ofNat_eq_natCast, Vx.toN]; omega))))) rfl ⟨⟨rfl, rfl, rfl, rfl⟩, ⟨rfl, rfl, ⟨Nat.le_refl _, fun _ _ => rfl⟩, rfl⟩, ⟨rfl, rfl, ⟨by show i + 1 ≤ addN i 1; (first | trivial | omega | (simp (disch := omega) only [hS.glob, wraps, plain, Int.ofNat_eq_natCast]; first | done | omega | trivial | (simp; done) | (simp; omega) | (constructor <;> omega)) | (simp (disch := omega) only [hS.glob, wraps, plain, Int.ofNat_eq_natCast, Vx.toN]; omega)), fun j hj => leaf (addN := Vx.addN) (by simp [hS.glob]) (by simp [hS.glob]) _ xs xs' i x1 x2 j hj⟩, rfl⟩, ⟨rfl, rfl, ⟨by show i + 1 ≤ addN i 1; (first | trivial | omega | (simp (disch := omega) only [hS.glob, wraps, plain, Int.ofNat_eq_natCast]; first | done | omega | trivial | (simp; done) | (simp; omega) | (constructor <;> omega)) | (simp (disch := omega) only [hS.glob, wraps, plain, Int.ofNat_eq_natCast, Vx.toN]; omega)), fun j hj => leaf (addN := Vx.addN) (by simp [hS.glob]) (by simp [hS.glob]) _ cs cs' i y1 y2 j hj⟩, rfl⟩, trivial⟩ (by rw [hC]; exact Nat.zero_le _)
    · refine V.go Try.func16 tl_ok mixed hS.ops [] 400 ?_
      intro VV VA W hVV hVA hW
      conv => cbv
      cases hB : ieq c 10
      rotate_left
      · conv => cbv
        simp (disch := first | omega | (simp only [hS.glob, wraps, plain, Int.ofNat_eq_natCast]; omega)) only [hS.glob, wraps, plain, Int.ofNat_eq_natCast] at hB
        repeat (refine ⟨by first | (rw [hW]; show ordOk _ _ _ = true; kernel_rfl) | (first | trivial | omega | (simp (disch := omega) only [hS.glob, wraps, plain, Int.ofNat_eq_natCast]; first | done | omega | trivial | (simp; done) | (simp; omega) | (constructor <;> omega)) | (simp (disch := omega) only [hS.glob, wraps, plain, Int.ofNat_eq_natCast, Vx.toN]; omega)), ?_⟩)
        rw [hVV]
        clear hVV hVA VV VA hW W
        subst hB
        have hT := told_B base (oddsOf ln l i) (R i)
        rw [← hS1] at hT
        obtain ⟨xs', x1, x2⟩ := snocF xs i base
        obtain ⟨cs', y1, y2⟩ := snocF cs i 10
        refine V.call rfl rfl rfl rfl rfl Try.func29 rfl (by decide) [] (by simp) (by simp) (by (first | rfl | ((conv => cbv); (repeat' apply And.intro) <;> first | rfl | trivial | (first | rfl | omega | (simp (disch := omega) only [hS.glob, wraps, plain, Int.ofNat_eq_natCast]; first | done | rfl | omega | (simp; done) | (simp; omega)) | (simp (disch := omega) only [hS.glob, wraps, plain, Int.ofNat_eq_natCast, Vx.toN]; omega))))) rfl h29 ?_
        rintro r Hc ⟨rfl, rfl⟩
        refine V.go Try.func16 tl_ok mixed hS.ops [] 400 ?_
        intro VV VA W hVV hVA hW
        conv => cbv
        rw [hVV]
        clear hVV hVA VV VA hW W
        have hS' : absR 1 (fun _ => base) (fun _ => 13) (fun _ => false) 0 0 0 = strip (R (i + 1)) := by rw [hT.st]; rfl
        refine V.pick [8, 9, 5, 7] (by decide) (by rw [hC]; exact begins_of rfl) (by rfl) (by rfl) ?_
        exact V.to (hback ⟨i + 1, 1, fun _ => base, fun _ => 13, fun _ => false, 0, 0, 0, xs', cs'⟩ ⟨by simp only; omega, hS', by rw [hT.xs, ← hX]; exact tab_snoc rfl x1 x2, by rw [hT.cs, ← hY]; exact tab_snoc rfl y1 y2⟩ (by simp only; omega)) (by (repeat' first | exact trivial | rfl | (refine And.intro ?_ ?_) | (refine sti ?_; (first | rfl | omega | (simp (disch := omega) only [hS.glob, wraps, plain, Int.ofNat_eq_natCast]; first | done | rfl | omega | (simp; done) | (simp; omega)) | (simp (disch := omega) only [hS.glob, wraps, plain, Int.ofNat_eq_natCast, Vx.toN]; omega))) | (refine slq ?_ ?_ ?_ <;> (first | rfl | omega | (simp (disch := omega) only [hS.glob, wraps, plain, Int.ofNat_eq_natCast]; first | done | rfl | omega | (simp; done) | (simp; omega)) | (simp (disch := omega) only [hS.glob, wraps, plain, Int.ofNat_eq_natCast, Vx.toN]; omega))) | (refine ptq ?_ ?_ ?_ <;> (first | rfl | omega | (simp (disch := omega) only [hS.glob, wraps, plain, Int.ofNat_eq_natCast]; first | done | rfl | omega | (simp; done) | (simp; omega)) | (simp (disch := omega) only [hS.glob, wraps, plain, Int.ofNat_eq_natCast, Vx.toN]; omega))) | (refine blq ?_; (first | rfl | omega | (simp (disch := omega) only [hS.glob, wraps, plain, Int.ofNat_eq_natCast]; first | done | rfl | omega | (simp; done) | (simp; omega)) | (simp (disch := omega) only [hS.glob, wraps, plain, Int.ofNat_eq_natCast, Vx.toN]; omega))))) rfl ⟨⟨rfl, rfl, rfl, rfl⟩, ⟨rfl, rfl, ⟨Nat.le_refl _, fun _ _ => rfl⟩, rfl⟩, ⟨rfl, rfl, ⟨by show i + 1 ≤ addN i 1; (first | trivial | omega | (simp (disch := omega) only [hS.glob, wraps, plain, Int.ofNat_eq_natCast]; first | done | omega | trivial | (simp; done) | (simp; omega) | (constructor <;> omega)) | (simp (disch := omega) only [hS.glob, wraps, plain, Int.ofNat_eq_natCast, Vx.toN]; omega)), fun j hj => leaf (addN := Vx.addN) (by simp [hS.glob]) (by simp [hS.glob]) _ xs xs' i x1 x2 j hj⟩, rfl⟩, ⟨rfl, rfl, ⟨by show i + 1 ≤ addN i 1; (first | trivial | omega | (simp (disch := omega) only [hS.glob, wraps, plain, Int.ofNat_eq_natCast]; first | done | omega | trivial | (simp; done) | (simp; omega) | (constructor <;> omega)) | (simp (disch := omega) only [hS.glob, wraps, plain, Int.ofNat_eq_natCast, Vx.toN]; omega)), fun j hj => leaf (addN := Vx.addN) (by simp [hS.glob]) (by simp [hS.glob]) _ cs cs' i y1 y2 j hj⟩, rfl⟩, trivial⟩ (by rw [hC]; exact Nat.zero_le _)
      conv => cbv
      cases hP : ieq c 22
      rotate_left
      · conv => cbv
        simp (disch := first | omega | (simp only [hS.glob, wraps, plain, Int.ofNat_eq_natCast]; omega)) only [hS.glob, wraps, plain, Int.ofNat_eq_natCast] at hP
        rw [hVV]
        clear hVV hVA VV VA hW W hB
        subst hP
        have hT := told_close base (oddsOf ln l i) (R i)
        have hne := close_ne (hG i)
        rw [← hS1, ← hM] at hT
        obtain rfl : beg = false := hbeg
        refine V.call rfl rfl rfl rfl rfl Try.func32 rfl (by decide) [0, 1] (by decide) (all_lt (by rfl)) (by (first | rfl | ((conv => cbv); (repeat' apply And.intro) <;> first | rfl | trivial | (first | rfl | omega | (simp (disch := omega) only [hS.glob, wraps, plain, Int.ofNat_eq_natCast]; first | done | rfl | omega | (simp; done) | (simp; omega)) | (simp (disch := omega) only [hS.glob, wraps, plain, Int.ofNat_eq_natCast, Vx.toN]; omega))))) (by rfl) (f32_ok k lv ov is o e v n1 n2 n3 n4 n5 n6 n7) ?_
        rintro r Hc ⟨rfl, k', lv', ov', is', o', e', v', rfl, hR⟩
        rw [← hR] at hT
        have nk : 0 < k' := by
          rcases Nat.eq_zero_or_pos k' with h | h
          · subst h
            rw [hM, close_strip] at hR
            have := congrArg Ms.st hR
            exact absurd this.symm hne
          · exact h
        have tt := topR_abs k' lv' ov' is' o' e' v' nk
        have ht := f33_ok k' lv' ov' is' o' e' v' nk _ _ _ rfl rfl rfl
        unfold topC at hT
        rw [tt] at hT
        simp only at hT
        generalize lv' (k' - 1) = LV at ht hT
        generalize ov' (k' - 1) = OV at ht hT
        generalize is' (k' - 1) = IS at ht
        refine V.pick [0, 4, 2, 3] (by decide) (by rw [hC]; exact begins_of rfl) (H' := lheap k' lv' ov' is' o' e' v' i xs cs) rfl rfl ?_
        refine V.go Try.func16 tl_ok mixed hS.ops [] 400 ?_
        intro VV VA W hVV hVA hW
        conv => cbv
        rw [hVV]
        clear hVV hVA VV VA hW W
        refine V.call rfl rfl rfl rfl rfl Try.func33 rfl (by decide) [0, 1] (by decide) (all_lt (by rfl)) (by (first | rfl | ((conv => cbv); (repeat' apply And.intro) <;> first | rfl | trivial | (first | rfl | omega | (simp (disch := omega) only [hS.glob, wraps, plain, Int.ofNat_eq_natCast]; first | done | rfl | omega | (simp; done) | (simp; omega)) | (simp (disch := omega) only [hS.glob, wraps, plain, Int.ofNat_eq_natCast, Vx.toN]; omega))))) (by rfl) ht ?_
        rintro r Hc ⟨rfl, rfl⟩
        refine V.go Try.func16 tl_ok mixed hS.ops [] 400 ?_
        intro VV VA W hVV hVA hW
        conv => cbv
        repeat (refine ⟨by first | (rw [hW]; show ordOk _ _ _ = true; kernel_rfl) | (first | trivial | omega | (simp (disch := omega) only [hS.glob, wraps, plain, Int.ofNat_eq_natCast]; first | done | omega | trivial | (simp; done) | (simp; omega) | (constructor <;> omega)) | (simp (disch := omega) only [hS.glob, wraps, plain, Int.ofNat_eq_natCast, Vx.toN]; omega)), ?_⟩)
        obtain ⟨xs', x1, x2⟩ := snocF xs i LV
        cases h5 : ine OV 13
        · conv => cbv
          simp (disch := first | omega | (simp only [hS.glob, wraps, plain, Int.ofNat_eq_natCast]; omega)) only [hS.glob, wraps, plain, Int.ofNat_eq_natCast] at h5
          rw [if_pos h5] at hT
          obtain ⟨cs', y1, y2⟩ := snocF cs i 22
          repeat (refine ⟨by first | (rw [hW]; show ordOk _ _ _ = true; kernel_rfl) | (first | trivial | omega | (simp (disch := omega) only [hS.glob, wraps, plain, Int.ofNat_eq_natCast]; first | done | omega | trivial | (simp; done) | (simp; omega) | (constructor <;> omega)) | (simp (disch := omega) only [hS.glob, wraps, plain, Int.ofNat_eq_natCast, Vx.toN]; omega)), ?_⟩)
          have hS' := hT.st.symm
          rw [hVV]
          clear hVV hVA VV VA hW W
          refine V.pick [0, 1, 6, 8] (by decide) (by rw [hC]; exact begins_of rfl) (by rfl) (by rfl) ?_
          exact V.to (hback ⟨i + 1, k', lv', ov', is', o', e', v', xs', cs'⟩ ⟨by simp only; omega, hS', by rw [hT.xs, ← hX]; exact tab_snoc rfl x1 x2, by rw [hT.cs, ← hY]; exact tab_snoc rfl y1 y2⟩ (by simp only; omega)) (by (repeat' first | exact trivial | rfl | (refine And.intro ?_ ?_) | (refine sti ?_; (first | rfl | omega | (simp (disch := omega) only [hS.glob, wraps, plain, Int.ofNat_eq_natCast]; first | done | rfl | omega | (simp; done) | (simp; omega)) | (simp (disch := omega) only [hS.glob, wraps, plain, Int.ofNat_eq_natCast, Vx.toN]; omega))) | (refine slq ?_ ?_ ?_ <;> (first | rfl | omega | (simp (disch := omega) only [hS.glob, wraps, plain, Int.ofNat_eq_natCast]; first | done | rfl | omega | (simp; done) | (simp; omega)) | (simp (disch := omega) only [hS.glob, wraps, plain, Int.ofNat_eq_natCast, Vx.toN]; omega))) | (refine ptq ?_ ?_ ?_ <;> (first | rfl | omega | (simp (disch := omega) only [hS.glob, wraps, plain, Int.ofNat_eq_natCast]; first | done | rfl | omega | (simp; done) | (simp; omega)) | (simp (disch := omega) only [hS.glob, wraps, plain, Int.ofNat_eq_natCast, Vx.toN]; omega))) | (refine blq ?_; (first | rfl | omega | (simp (disch := omega) only [hS.glob, wraps, plain, Int.ofNat_eq_natCast]; first | done | rfl | omega | (simp; done) | (simp; omega)) | (simp (disch := omega) only [hS.glob, wraps, plain, Int.ofNat_eq_natCast, Vx.toN]; omega))))) rfl ⟨⟨rfl, rfl, rfl, rfl⟩, ⟨rfl, rfl, ⟨Nat.le_refl _, fun _ _ => rfl⟩, rfl⟩, ⟨rfl, rfl, ⟨by show i + 1 ≤ addN i 1; (first | trivial | omega | (simp (disch := omega) only [hS.glob, wraps, plain, Int.ofNat_eq_natCast]; first | done | omega | trivial | (simp; done) | (simp; omega) | (constructor <;> omega)) | (simp (disch := omega) only [hS.glob, wraps, plain, Int.ofNat_eq_natCast, Vx.toN]; omega)), fun j hj => leaf (addN := Vx.addN) (by simp [hS.glob]) (by simp [hS.glob]) _ xs xs' i x1 x2 j hj⟩, rfl⟩, ⟨rfl, rfl, ⟨by show i + 1 ≤ addN i 1; (first | trivial | omega | (simp (disch := omega) only [hS.glob, wraps, plain, Int.ofNat_eq_natCast]; first | done | omega | trivial | (simp; done) | (simp; omega) | (constructor <;> omega)) | (simp (disch := omega) only [hS.glob, wraps, plain, Int.ofNat_eq_natCast, Vx.toN]; omega)), fun j hj => leaf (addN := Vx.addN) (by simp [hS.glob]) (by simp [hS.glob]) _ cs cs' i y1 y2 j hj⟩, rfl⟩, trivial⟩ (by rw [hC]; exact Nat.zero_le _)
        · conv => cbv
          simp (disch := first | omega | (simp only [hS.glob, wraps, plain, Int.ofNat_eq_natCast]; omega)) only [hS.glob, wraps, plain, Int.ofNat_eq_natCast] at h5
          rw [if_neg h5] at hT
          obtain ⟨cs', y1, y2⟩ := snocF cs i OV
          repeat (refine ⟨by first | (rw [hW]; show ordOk _ _ _ = true; kernel_rfl) | (first | trivial | omega | (simp (disch := omega) only [hS.glob, wraps, plain, Int.ofNat_eq_natCast]; first | done | omega | trivial | (simp; done) | (simp; omega) | (constructor <;> omega)) | (simp (disch := omega) only [hS.glob, wraps, plain, Int.ofNat_eq_natCast, Vx.toN]; omega)), ?_⟩)
          have hS' := hT.st.symm
          rw [hVV]
          clear hVV hVA VV VA hW W
          refine V.pick [0, 1, 6, 8] (by decide) (by rw [hC]; exact begins_of rfl) (by rfl) (by rfl) ?_
          exact V.to (hback ⟨i + 1, k', lv', ov', is', o', e', v', xs', cs'⟩ ⟨by simp only; omega, hS', by rw [hT.xs, ← hX]; exact tab_snoc rfl x1 x2, by rw [hT.cs, ← hY]; exact tab_snoc rfl y1 y2⟩ (by simp only; omega)) (by (repeat' first | exact trivial | rfl | (refine And.intro ?_ ?_) | (refine sti ?_; (first | rfl | omega | (simp (disch := omega) only [hS.glob, wraps, plain, Int.ofNat_eq_natCast]; first | done | rfl | omega | (simp; done) | (simp; omega)) | (simp (disch := omega) only [hS.glob, wraps, plain, Int.ofNat_eq_natCast, Vx.toN]; omega))) | (refine slq ?_ ?_ ?_ <;> (first | rfl | omega | (simp (disch := omega) only [hS.glob, wraps, plain, Int.ofNat_eq_natCast]; first | done | rfl | omega | (simp; done) | (simp; omega)) | (simp (disch := omega) only [hS.glob, wraps, plain, Int.ofNat_eq_natCast, Vx.toN]; omega))) | (refine ptq ?_ ?_ ?_ <;> (first | rfl | omega | (simp (disch := omega) only [hS.glob, wraps, plain, Int.ofNat_eq_natCast]; first | done | rfl | omega | (simp; done) | (simp; omega)) | (simp (disch := omega) only [hS.glob, wraps, plain, Int.ofNat_eq_natCast, Vx.toN]; omega))) | (refine blq ?_; (first | rfl | omega | (simp (disch := omega) only [hS.glob, wraps, plain, Int.ofNat_eq_natCast]; first | done | rfl | omega | (simp; done) | (simp; omega)) | (simp (disch := omega) only [hS.glob, wraps, plain, Int.ofNat_eq_natCast, Vx.toN]; omega))))) rfl ⟨⟨rfl, rfl, rfl, rfl⟩, ⟨rfl, rfl, ⟨Nat.le_refl _, fun _ _ => rfl⟩, rfl⟩, ⟨rfl, rfl, ⟨by show i + 1 ≤ addN i 1; (first | trivial | omega | (simp (disch := omega) only [hS.glob, wraps, plain, Int.ofNat_eq_natCast]; first | done | omega | trivial | (simp; done) | (simp; omega) | (constructor <;> omega)) | (simp (disch := omega) only [hS.glob, wraps, plain, Int.ofNat_eq_natCast, Vx.toN]; omega)), fun j hj => leaf (addN := Vx.addN) (by simp [hS.glob]) (by simp [hS.glob]) _ xs xs' i x1 x2 j hj⟩, rfl⟩, ⟨rfl, rfl, ⟨by show i + 1 ≤ addN i 1; (first | trivial | omega | (simp (disch := omega) only [hS.glob, wraps, plain, Int.ofNat_eq_natCast]; first | done | omega | trivial | (simp; done) | (simp; omega) | (constructor <;> omega)) | (simp (disch := omega) only [hS.glob, wraps, plain, Int.ofNat_eq_natCast, Vx.toN]; omega)), fun j hj => leaf (addN := Vx.addN) (by simp [hS.glob]) (by simp [hS.glob]) _ cs cs' i y1 y2 j hj⟩, rfl⟩, trivial⟩ (by rw [hC]; exact Nat.zero_le _)
      conv => cbv
      simp (disch := first | omega | (simp only [hS.glob, wraps, plain, Int.ofNat_eq_natCast]; omega)) only [hS.glob, wraps, plain, Int.ofNat_eq_natCast] at hB hP
      have tt := topR_abs k lv ov is o e v n1
      have ht := f33_ok k lv ov is o e v n1 _ _ _ rfl rfl rfl
      rw [hVV]
      clear hVV hVA VV VA hW W
      cases beg
      · have hT := told_plain base (oddsOf ln l i) c (R i) hrem.symm hbeg.symm hB hP
        rw [← hS1, ← hM] at hT
        unfold topC at hT
        rw [tt] at hT
        simp only at hT
        generalize lv (k - 1) = LV at ht hT
        generalize ov (k - 1) = OV at ht hT
        generalize is (k - 1) = IS at ht
        refine V.call rfl rfl rfl rfl rfl Try.func33 rfl (by decide) [0, 1] (by decide) (all_lt (by rfl)) (by (first | rfl | ((conv => cbv); (repeat' apply And.intro) <;> first | rfl | trivial | (first | rfl | omega | (simp (disch := omega) only [hS.glob, wraps, plain, Int.ofNat_eq_natCast]; first | done | rfl | omega | (simp; done) | (simp; omega)) | (simp (disch := omega) only [hS.glob, wraps, plain, Int.ofNat_eq_natCast, Vx.toN]; omega))))) (by rfl) ht ?_
        rintro r Hc ⟨rfl, rfl⟩
        refine V.go Try.func16 tl_ok mixed hS.ops [] 400 ?_
        intro VV VA W hVV hVA hW
        conv => cbv
        repeat (refine ⟨by first | (rw [hW]; show ordOk _ _ _ = true; kernel_rfl) | (first | trivial | omega | (simp (disch := omega) only [hS.glob, wraps, plain, Int.ofNat_eq_natCast]; first | done | omega | trivial | (simp; done) | (simp; omega) | (constructor <;> omega)) | (simp (disch := omega) only [hS.glob, wraps, plain, Int.ofNat_eq_natCast, Vx.toN]; omega)), ?_⟩)
        obtain ⟨xs', x1, x2⟩ := snocF xs i LV
        cases h5 : ine OV 13
        · conv => cbv
          simp (disch := first | omega | (simp only [hS.glob, wraps, plain, Int.ofNat_eq_natCast]; omega)) only [hS.glob, wraps, plain, Int.ofNat_eq_natCast] at h5
          rw [if_pos h5] at hT
          obtain ⟨cs', y1, y2⟩ := snocF cs i c
          repeat (refine ⟨by first | (rw [hW]; show ordOk _ _ _ = true; kernel_rfl) | (first | trivial | omega | (simp (disch := omega) only [hS.glob, wraps, plain, Int.ofNat_eq_natCast]; first | done | omega | trivial | (simp; done) | (simp; omega) | (constructor <;> omega)) | (simp (disch := omega) only [hS.glob, wraps, plain, Int.ofNat_eq_natCast, Vx.toN]; omega)), ?_⟩)
          rw [hVV]
          clear hVV hVA VV VA hW W
          refine V.pick [0, 1, 6, 8] (by decide) (by rw [hC]; exact begins_of rfl) (by rfl) (by rfl) ?_
          exact V.to (hback ⟨i + 1, k, lv, ov, is, o, e, v, xs', cs'⟩ ⟨by simp only; omega, hT.st.symm, by rw [hT.xs, ← hX]; exact tab_snoc rfl x1 x2, by rw [hT.cs, ← hY]; exact tab_snoc rfl y1 y2⟩ (by simp only; omega)) (by (repeat' first | exact trivial | rfl | (refine And.intro ?_ ?_) | (refine sti ?_; (first | rfl | omega | (simp (disch := omega) only [hS.glob, wraps, plain, Int.ofNat_eq_natCast]; first | done | rfl | omega | (simp; done) | (simp; omega)) | (simp (disch := omega) only [hS.glob, wraps, plain, Int.ofNat_eq_natCast, Vx.toN]; omega))) | (refine slq ?_ ?_ ?_ <;> (first | rfl | omega | (simp (disch := omega) only [hS.glob, wraps, plain, Int.ofNat_eq_natCast]; first | done | rfl | omega | (simp; done) | (simp; omega)) | (simp (disch := omega) only [hS.glob, wraps, plain, Int.ofNat_eq_natCast, Vx.toN]; omega))) | (refine ptq ?_ ?_ ?_ <;> (first | rfl | omega | (simp (disch := omega) only [hS.glob, wraps, plain, Int.ofNat_eq_natCast]; first | done | rfl | omega | (simp; done) | (simp; omega)) | (simp (disch := omega) only [hS.glob, wraps, plain, Int.ofNat_eq_natCast, Vx.toN]; omega))) | (refine blq ?_; (first | rfl | omega | (simp (disch := omega) only [hS.glob, wraps, plain, Int.ofNat_eq_natCast]; first | done | rfl | omega | (simp; done) | (simp; omega)) | (simp (disch := omega) only [hS.glob, wraps, plain, Int.ofNat_eq_natCast, Vx.toN]; omega))))) rfl ⟨⟨rfl, rfl, rfl, rfl⟩, ⟨rfl, rfl, ⟨Nat.le_refl _, fun _ _ => rfl⟩, rfl⟩, ⟨rfl, rfl, ⟨by show i + 1 ≤ addN i 1; (first | trivial | omega | (simp (disch := omega) only [hS.glob, wraps, plain, Int.ofNat_eq_natCast]; first | done | omega | trivial | (simp; done) | (simp; omega) | (constructor <;> omega)) | (simp (disch := omega) only [hS.glob, wraps, plain, Int.ofNat_eq_natCast, Vx.toN]; omega)), fun j hj => leaf (addN := Vx.addN) (by simp [hS.glob]) (by simp [hS.glob]) _ xs xs' i x1 x2 j hj⟩, rfl⟩, ⟨rfl, rfl, ⟨by show i + 1 ≤ addN i 1; (first | trivial | omega | (simp (disch := omega) only [hS.glob, wraps, plain, Int.ofNat_eq_natCast]; first | done | omega | trivial | (simp; done) | (simp; omega) | (constructor <;> omega)) | (simp (disch := omega) only [hS.glob, wraps, plain, Int.ofNat_eq_natCast, Vx.toN]; omega)), fun j hj => leaf (addN := Vx.addN) (by simp [hS.glob]) (by simp [hS.glob]) _ cs cs' i y1 y2 j hj⟩, rfl⟩, trivial⟩ (by rw [hC]; exact Nat.zero_le _)
        · conv => cbv
          simp (disch := first | omega | (simp only [hS.glob, wraps, plain, Int.ofNat_eq_natCast]; omega)) only [hS.glob, wraps, plain, Int.ofNat_eq_natCast] at h5
          rw [if_neg h5] at hT
          obtain ⟨cs', y1, y2⟩ := snocF cs i OV
          repeat (refine ⟨by first | (rw [hW]; show ordOk _ _ _ = true; kernel_rfl) | (first | trivial | omega | (simp (disch := omega) only [hS.glob, wraps, plain, Int.ofNat_eq_natCast]; first | done | omega | trivial | (simp; done) | (simp; omega) | (constructor <;> omega)) | (simp (disch := omega) only [hS.glob, wraps, plain, Int.ofNat_eq_natCast, Vx.toN]; omega)), ?_⟩)
          rw [hVV]
          clear hVV hVA VV VA hW W
          refine V.pick [0, 1, 6, 8] (by decide) (by rw [hC]; exact begins_of rfl) (by rfl) (by rfl) ?_
          exact V.to (hback ⟨i + 1, k, lv, ov, is, o, e, v, xs', cs'⟩ ⟨by simp only; omega, hT.st.symm, by rw [hT.xs, ← hX]; exact tab_snoc rfl x1 x2, by rw [hT.cs, ← hY]; exact tab_snoc rfl y1 y2⟩ (by simp only; omega)) (by (repeat' first | exact trivial | rfl | (refine And.intro ?_ ?_) | (refine sti ?_; (first | rfl | omega | (simp (disch := omega) only [hS.glob, wraps, plain, Int.ofNat_eq_natCast]; first | done | rfl | omega | (simp; done) | (simp; omega)) | (simp (disch := omega) only [hS.glob, wraps, plain, Int.ofNat_eq_natCast, Vx.toN]; omega))) | (refine slq ?_ ?_ ?_ <;> (first | rfl | omega | (simp (disch := omega) only [hS.glob, wraps, plain, Int.ofNat_eq_natCast]; first | done | rfl | omega | (simp; done) | (simp; omega)) | (simp (disch := omega) only [hS.glob, wraps, plain, Int.ofNat_eq_natCast, Vx.toN]; omega))) | (refine ptq ?_ ?_ ?_ <;> (first | rfl | omega | (simp (disch := omega) only [hS.glob, wraps, plain, Int.ofNat_eq_natCast]; first | done | rfl | omega | (simp; done) | (simp; omega)) | (simp (disch := omega) only [hS.glob, wraps, plain, Int.ofNat_eq_natCast, Vx.toN]; omega))) | (refine blq ?_; (first | rfl | omega | (simp (disch := omega) only [hS.glob, wraps, plain, Int.ofNat_eq_natCast]; first | done | rfl | omega | (simp; done) | (simp; omega)) | (simp (disch := omega) only [hS.glob, wraps, plain, Int.ofNat_eq_natCast, Vx.toN]; omega))))) rfl ⟨⟨rfl, rfl, rfl, rfl⟩, ⟨rfl, rfl, ⟨Nat.le_refl _, fun _ _ => rfl⟩, rfl⟩, ⟨rfl, rfl, ⟨by show i + 1 ≤ addN i 1; (first | trivial | omega | (simp (disch := omega) only [hS.glob, wraps, plain, Int.ofNat_eq_natCast]; first | done | omega | trivial | (simp; done) | (simp; omega) | (constructor <;> omega)) | (simp (disch := omega) only [hS.glob, wraps, plain, Int.ofNat_eq_natCast, Vx.toN]; omega)), fun j hj => leaf (addN := Vx.addN) (by simp [hS.glob]) (by simp [hS.glob]) _ xs xs' i x1 x2 j hj⟩, rfl⟩, ⟨rfl, rfl, ⟨by show i + 1 ≤ addN i 1; (first | trivial | omega | (simp (disch := omega) only [hS.glob, wraps, plain, Int.ofNat_eq_natCast]; first | done | omega | trivial | (simp; done) | (simp; omega) | (constructor <;> omega)) | (simp (disch := omega) only [hS.glob, wraps, plain, Int.ofNat_eq_natCast, Vx.toN]; omega)), fun j hj => leaf (addN := Vx.addN) (by simp [hS.glob]) (by simp [hS.glob]) _ cs cs' i y1 y2 j hj⟩, rfl⟩, trivial⟩ (by rw [hC]; exact Nat.zero_le _)
      · have hT := told_iso base (oddsOf ln l i) c (R i) hbeg.symm
        rw [← hS1, ← hM] at hT
        unfold topC at hT
        rw [tt] at hT
        simp only at hT
        obtain ⟨odd, hodd⟩ : ∃ odd, odd = oddsOf ln l i := ⟨_, rfl⟩
        rw [← hodd] at hT
        have ho01 : 0 ≤ odd ∧ odd ≤ 1 := by rw [hodd]; exact oddI_01 _ _ _ _
        have h35 := f35_ok k lv ov is o e v n1 n2 n3 n4 n5 n6 odd ho01
        obtain ⟨to, hto⟩ : ∃ to, to = toI ln (mrun l ln).2 i := ⟨_, rfl⟩
        have hlt : i < ln := by omega
        have hto2 : (to : Int) = if endOf ln l i = -1 then (ln : Int) else endOf ln l i := by
          have h6 := match_eq ln l i hlt
          have h7 := endOf_range ln l i hlt
          rw [hto, toI, h6]
          split <;> omega
        obtain ⟨n, hn⟩ : ∃ n, n = to - (i + 1) := ⟨_, rfl⟩
        obtain ⟨A, hA⟩ : ∃ A : Nat → Int, ∀ j, A j = l (i + 1 + j) := ⟨_, fun _ => rfl⟩
        have hsb := strong_between ln l i hlt n (by rw [hn, hto]) A hA
        obtain ⟨sg, hsg⟩ : ∃ sg, sgo A (endOf n A) n n 0 = sg := ⟨_, rfl⟩
        have hodd2 : odd = if c = 20 ∨ (c = 21 ∧ sg = 1) then 1 else 0 := by
          rw [hodd, hc, ← hsg, hsb]; rfl
        have h14 := f14_ok n A sg hsg
        have h34 := fun hz => f34_ok ln l (by omega) i hlt (ofN i) hz to hto2 n hn A hA
        clear hsb hsg hto hto2 hodd hn
        clear n3
        generalize lv (k - 1) = LV at ht hT
        generalize ov (k - 1) = OV at ht hT
        generalize is (k - 1) = IS at ht
        refine V.call rfl rfl rfl rfl rfl Try.func33 rfl (by decide) [0, 1] (by decide) (all_lt (by rfl)) (by (first | rfl | ((conv => cbv); (repeat' apply And.intro) <;> first | rfl | trivial | (first | rfl | omega | (simp (disch := omega) only [hS.glob, wraps, plain, Int.ofNat_eq_natCast]; first | done | rfl | omega | (simp; done) | (simp; omega)) | (simp (disch := omega) only [hS.glob, wraps, plain, Int.ofNat_eq_natCast, Vx.toN]; omega))))) (by rfl) ht ?_
        rintro r Hc ⟨rfl, rfl⟩
        refine V.go Try.func16 tl_ok mixed hS.ops [] 400 ?_
        intro VV VA W hVV hVA hW
        conv => cbv
        repeat (refine ⟨by first | (rw [hW]; show ordOk _ _ _ = true; kernel_rfl) | (first | trivial | omega | (simp (disch := omega) only [hS.glob, wraps, plain, Int.ofNat_eq_natCast]; first | done | omega | trivial | (simp; done) | (simp; omega) | (constructor <;> omega)) | (simp (disch := omega) only [hS.glob, wraps, plain, Int.ofNat_eq_natCast, Vx.toN]; omega)), ?_⟩)
        obtain ⟨xs', x1, x2⟩ := snocF xs i LV
        cases h5 : ine OV 13
        · conv => cbv
          simp (disch := first | omega | (simp only [hS.glob, wraps, plain, Int.ofNat_eq_natCast]; omega)) only [hS.glob, wraps, plain, Int.ofNat_eq_natCast] at h5
          rw [if_pos h5] at hT
          obtain ⟨cs', y1, y2⟩ := snocF cs i c
          repeat (refine ⟨by first | (rw [hW]; show ordOk _ _ _ = true; kernel_rfl) | (first | trivial | omega | (simp (disch := omega) only [hS.glob, wraps, plain, Int.ofNat_eq_natCast]; first | done | omega | trivial | (simp; done) | (simp; omega) | (constructor <;> omega)) | (simp (disch := omega) only [hS.glob, wraps, plain, Int.ofNat_eq_natCast, Vx.toN]; omega)), ?_⟩)
          cases g1 : ieq c 20
          · conv => cbv
            cases g2 : ieq c 21
            · conv => cbv
              simp (disch := first | omega | (simp only [hS.glob, wraps, plain, Int.ofNat_eq_natCast]; omega)) only [hS.glob, wraps, plain, Int.ofNat_eq_natCast] at g1 g2
              obtain rfl : odd = 0 := by rw [hodd2, if_neg (by omega)]
              rw [hVV]
              clear hVV hVA VV VA hW W
              refine V.call rfl rfl rfl rfl rfl Try.func35 rfl (by decide) [0, 1] (by decide) (all_lt (by rfl)) (by (first | rfl | ((conv => cbv); (repeat' apply And.intro) <;> first | rfl | trivial | (first | rfl | omega | (simp (disch := omega) only [hS.glob, wraps, plain, Int.ofNat_eq_natCast]; first | done | rfl | omega | (simp; done) | (simp; omega)) | (simp (disch := omega) only [hS.glob, wraps, plain, Int.ofNat_eq_natCast, Vx.toN]; omega))))) (by rfl) h35 ?_
              rintro r Hc ⟨rfl, k', lv', ov', is', o', e', v', rfl, hR⟩
              refine V.go Try.func16 tl_ok mixed hS.ops [] 400 ?_
              intro VV VA W hVV hVA hW
              conv => cbv
              rw [hVV]
              clear hVV hVA VV VA hW W
              have hS' := hR.trans hT.st.symm
              refine V.pick [0, 9, 6, 8] (by decide) (by rw [hC]; exact begins_of rfl) (by rfl) (by rfl) ?_
              exact V.to (hback ⟨i + 1, k', lv', ov', is', o', e', v', xs', cs'⟩ ⟨by simp only; omega, hS', by rw [hT.xs, ← hX]; exact tab_snoc rfl x1 x2, by rw [hT.cs, ← hY]; exact tab_snoc rfl y1 y2⟩ (by simp only; omega)) (by (repeat' first | exact trivial | rfl | (refine And.intro ?_ ?_) | (refine sti ?_; (first | rfl | omega | (simp (disch := omega) only [hS.glob, wraps, plain, Int.ofNat_eq_natCast]; first | done | rfl | omega | (simp; done) | (simp; omega)) | (simp (disch := omega) only [hS.glob, wraps, plain, Int.ofNat_eq_natCast, Vx.toN]; omega))) | (refine slq ?_ ?_ ?_ <;> (first | rfl | omega | (simp (disch := omega) only [hS.glob, wraps, plain, Int.ofNat_eq_natCast]; first | done | rfl | omega | (simp; done) | (simp; omega)) | (simp (disch := omega) only [hS.glob, wraps, plain, Int.ofNat_eq_natCast, Vx.toN]; omega))) | (refine ptq ?_ ?_ ?_ <;> (first | rfl | omega | (simp (disch := omega) only [hS.glob, wraps, plain, Int.ofNat_eq_natCast]; first | done | rfl | omega | (simp; done) | (simp; omega)) | (simp (disch := omega) only [hS.glob, wraps, plain, Int.ofNat_eq_natCast, Vx.toN]; omega))) | (refine blq ?_; (first | rfl | omega | (simp (disch := omega) only [hS.glob, wraps, plain, Int.ofNat_eq_natCast]; first | done | rfl | omega | (simp; done) | (simp; omega)) | (simp (disch := omega) only [hS.glob, wraps, plain, Int.ofNat_eq_natCast, Vx.toN]; omega))))) rfl ⟨⟨rfl, rfl, rfl, rfl⟩, ⟨rfl, rfl, ⟨Nat.le_refl _, fun _ _ => rfl⟩, rfl⟩, ⟨rfl, rfl, ⟨by show i + 1 ≤ addN i 1; (first | trivial | omega | (simp (disch := omega) only [hS.glob, wraps, plain, Int.ofNat_eq_natCast]; first | done | omega | trivial | (simp; done) | (simp; omega) | (constructor <;> omega)) | (simp (disch := omega) only [hS.glob, wraps, plain, Int.ofNat_eq_natCast, Vx.toN]; omega)), fun j hj => leaf (addN := Vx.addN) (by simp [hS.glob]) (by simp [hS.glob]) _ xs xs' i x1 x2 j hj⟩, rfl⟩, ⟨rfl, rfl, ⟨by show i + 1 ≤ addN i 1; (first | trivial | omega | (simp (disch := omega) only [hS.glob, wraps, plain, Int.ofNat_eq_natCast]; first | done | omega | trivial | (simp; done) | (simp; omega) | (constructor <;> omega)) | (simp (disch := omega) only [hS.glob, wraps, plain, Int.ofNat_eq_natCast, Vx.toN]; omega)), fun j hj => leaf (addN := Vx.addN) (by simp [hS.glob]) (by simp [hS.glob]) _ cs cs' i y1 y2 j hj⟩, rfl⟩, trivial⟩ (by rw [hC]; exact Nat.zero_le _)
            · conv => cbv
              simp (disch := first | omega | (simp only [hS.glob, wraps, plain, Int.ofNat_eq_natCast]; omega)) only [hS.glob, wraps, plain, Int.ofNat_eq_natCast] at g1 g2
              rw [hVV]
              clear hVV hVA VV VA hW W
              refine V.call rfl rfl rfl rfl rfl Try.func34 rfl (by decide) [] (by simp) (by simp) (by (first | rfl | ((conv => cbv); (repeat' apply And.intro) <;> first | rfl | trivial | (first | rfl | omega | (simp (disch := omega) only [hS.glob, wraps, plain, Int.ofNat_eq_natCast]; first | done | rfl | omega | (simp; done) | (simp; omega)) | (simp (disch := omega) only [hS.glob, wraps, plain, Int.ofNat_eq_natCast, Vx.toN]; omega))))) rfl (h34 (by simp (disch := first | omega | (simp only [hS.glob, wraps, plain, Int.ofNat_eq_natCast]; omega)) only [hS.glob, wraps, plain, Int.ofNat_eq_natCast])) ?_
              rintro r Hc ⟨rfl, rfl⟩
              refine V.go Try.func16 tl_ok mixed hS.ops [] 400 ?_
              intro VV VA W hVV hVA hW
              conv => cbv
              rw [hVV]
              clear hVV hVA VV VA hW W
              refine V.call rfl rfl rfl rfl rfl Try.func14 rfl (by decide) [] (by simp) (by simp) (by (first | rfl | ((conv => cbv); (repeat' apply And.intro) <;> first | rfl | trivial | (first | rfl | omega | (simp (disch := omega) only [hS.glob, wraps, plain, Int.ofNat_eq_natCast]; first | done | rfl | omega | (simp; done) | (simp; omega)) | (simp (disch := omega) only [hS.glob, wraps, plain, Int.ofNat_eq_natCast, Vx.toN]; omega))))) rfl h14 ?_
              rintro r Hc ⟨rfl, rfl⟩
              refine V.go Try.func16 tl_ok mixed hS.ops [] 400 ?_
              intro VV VA W hVV hVA hW
              conv => cbv
              cases g3 : ieq sg 1
              · conv => cbv
                simp (disch := first | omega | (simp only [hS.glob, wraps, plain, Int.ofNat_eq_natCast]; omega)) only [hS.glob, wraps, plain, Int.ofNat_eq_natCast] at g3
                obtain rfl : odd = 0 := by rw [hodd2, if_neg (by omega)]
                rw [hVV]
                clear hVV hVA VV VA hW W
                refine V.call rfl rfl rfl rfl rfl Try.func35 rfl (by decide) [0, 1] (by decide) (all_lt (by rfl)) (by (first | rfl | ((conv => cbv); (repeat' apply And.intro) <;> first | rfl | trivial | (first | rfl | omega | (simp (disch := omega) only [hS.glob, wraps, plain, Int.ofNat_eq_natCast]; first | done | rfl | omega | (simp; done) | (simp; omega)) | (simp (disch := omega) only [hS.glob, wraps, plain, Int.ofNat_eq_natCast, Vx.toN]; omega))))) (by rfl) h35 ?_
                rintro r Hc ⟨rfl, k', lv', ov', is', o', e', v', rfl, hR⟩
                refine V.go Try.func16 tl_ok mixed hS.ops [] 400 ?_
                intro VV VA W hVV hVA hW
                conv => cbv
                rw [hVV]
                clear hVV hVA VV VA hW W
                have hS' := hR.trans hT.st.symm
                refine V.pick [0, 9, 6, 8] (by decide) (by rw [hC]; exact begins_of rfl) (by rfl) (by rfl) ?_
                exact V.to (hback ⟨i + 1, k', lv', ov', is', o', e', v', xs', cs'⟩ ⟨by simp only; omega, hS', by rw [hT.xs, ← hX]; exact tab_snoc rfl x1 x2, by rw [hT.cs, ← hY]; exact tab_snoc rfl y1 y2⟩ (by simp only; omega)) (by (repeat' first | exact trivial | rfl | (refine And.intro ?_ ?_) | (refine sti ?_; (first | rfl | omega | (simp (disch := omega) only [hS.glob, wraps, plain, Int.ofNat_eq_natCast]; first | done | rfl | omega | (simp; done) | (simp; omega)) | (simp (disch := omega) only [hS.glob, wraps, plain, Int.ofNat_eq_natCast, Vx.toN]; omega))) | (refine slq ?_ ?_ ?_ <;> (first | rfl | omega | (simp (disch := omega) only [hS.glob, wraps, plain, Int.ofNat_eq_natCast]; first | done | rfl | omega | (simp; done) | (simp; omega)) | (simp (disch := omega) only [hS.glob, wraps, plain, Int.ofNat_eq_natCast, Vx.toN]; omega))) | (refine ptq ?_ ?_ ?_ <;> (first | rfl | omega | (simp (disch := omega) only [hS.glob, wraps, plain, Int.ofNat_eq_natCast]; first | done | rfl | omega | (simp; done) | (simp; omega)) | (simp (disch := omega) only [hS.glob, wraps, plain, Int.ofNat_eq_natCast, Vx.toN]; omega))) | (refine blq ?_; (first | rfl | omega | (simp (disch := omega) only [hS.glob, wraps, plain, Int.ofNat_eq_natCast]; first | done | rfl | omega | (simp; done) | (simp; omega)) | (simp (disch := omega) only [hS.glob, wraps, plain, Int.ofNat_eq_natCast, Vx.toN]; omega))))) rfl ⟨⟨rfl, rfl, rfl, rfl⟩, ⟨rfl, rfl, ⟨Nat.le_refl _, fun _ _ => rfl⟩, rfl⟩, ⟨rfl, rfl, ⟨by show i + 1 ≤ addN i 1; (first | trivial | omega | (simp (disch := omega) only [hS.glob, wraps, plain, Int.ofNat_eq_natCast]; first | done | omega | trivial | (simp; done) | (simp; omega) | (constructor <;> omega)) | (simp (disch := omega) only [hS.glob, wraps, plain, Int.ofNat_eq_natCast, Vx.toN]; omega)), fun j hj => leaf (addN := Vx.addN) (by simp [hS.glob]) (by simp [hS.glob]) _ xs xs' i x1 x2 j hj⟩, rfl⟩, ⟨rfl, rfl, ⟨by show i + 1 ≤ addN i 1; (first | trivial | omega | (simp (disch := omega) only [hS.glob, wraps, plain, Int.ofNat_eq_natCast]; first | done | omega | trivial | (simp; done) | (simp; omega) | (constructor <;> omega)) | (simp (disch := omega) only [hS.glob, wraps, plain, Int.ofNat_eq_natCast, Vx.toN]; omega)), fun j hj => leaf (addN := Vx.addN) (by simp [hS.glob]) (by simp [hS.glob]) _ cs cs' i y1 y2 j hj⟩, rfl⟩, trivial⟩ (by rw [hC]; exact Nat.zero_le _)
              · conv => cbv
                simp (disch := first | omega | (simp only [hS.glob, wraps, plain, Int.ofNat_eq_natCast]; omega)) only [hS.glob, wraps, plain, Int.ofNat_eq_natCast] at g3
                obtain rfl : odd = 1 := by rw [hodd2, if_pos (by omega)]
                rw [hVV]
                clear hVV hVA VV VA hW W
                refine V.call rfl rfl rfl rfl rfl Try.func35 rfl (by decide) [0, 1] (by decide) (all_lt (by rfl)) (by (first | rfl | ((conv => cbv); (repeat' apply And.intro) <;> first | rfl | trivial | (first | rfl | omega | (simp (disch := omega) only [hS.glob, wraps, plain, Int.ofNat_eq_natCast]; first | done | rfl | omega | (simp; done) | (simp; omega)) | (simp (disch := omega) only [hS.glob, wraps, plain, Int.ofNat_eq_natCast, Vx.toN]; omega))))) (by rfl) h35 ?_
                rintro r Hc ⟨rfl, k', lv', ov', is', o', e', v', rfl, hR⟩
                refine V.go Try.func16 tl_ok mixed hS.ops [] 400 ?_
                intro VV VA W hVV hVA hW
                conv => cbv
                rw [hVV]
                clear hVV hVA VV VA hW W
                have hS' := hR.trans hT.st.symm
                refine V.pick [0, 9, 6, 8] (by decide) (by rw [hC]; exact begins_of rfl) (by rfl) (by rfl) ?_
                exact V.to (hback ⟨i + 1, k', lv', ov', is', o', e', v', xs', cs'⟩ ⟨by simp only; omega, hS', by rw [hT.xs, ← hX]; exact tab_snoc rfl x1 x2, by rw [hT.cs, ← hY]; exact tab_snoc rfl y1 y2⟩ (by simp only; omega)) (by (repeat' first | exact trivial | rfl | (refine And.intro ?_ ?_) | (refine sti ?_; (first | rfl | omega | (simp (disch := omega) only [hS.glob, wraps, plain, Int.ofNat_eq_natCast]; first | done | rfl | omega | (simp; done) | (simp; omega)) | (simp (disch := omega) only [hS.glob, wraps, plain, Int.ofNat_eq_natCast, Vx.toN]; omega))) | (refine slq ?_ ?_ ?_ <;> (first | rfl | omega | (simp (disch := omega) only [hS.glob, wraps, plain, Int.ofNat_eq_natCast]; first | done | rfl | omega | (simp; done) | (simp; omega)) | (simp (disch := omega) only [hS.glob, wraps, plain, Int.ofNat_eq_natCast, Vx.toN]; omega))) | (refine ptq ?_ ?_ ?_ <;> (first | rfl | omega | (simp (disch := omega) only [hS.glob, wraps, plain, Int.ofNat_eq_natCast]; first | done | rfl | omega | (simp; done) | (simp; omega)) | (simp (disch := omega) only [hS.glob, wraps, plain, Int.ofNat_eq_natCast, Vx.toN]; omega))) | (refine blq ?_; (first | rfl | omega | (simp (disch := omega) only [hS.glob, wraps, plain, Int.ofNat_eq_natCast]; first | done | rfl | omega | (simp; done) | (simp; omega)) | (simp (disch := omega) only [hS.glob, wraps, plain, Int.ofNat_eq_natCast, Vx.toN]; omega))))) rfl ⟨⟨rfl, rfl, rfl, rfl⟩, ⟨rfl, rfl, ⟨Nat.le_refl _, fun _ _ => rfl⟩, rfl⟩, ⟨rfl, rfl, ⟨by show i + 1 ≤ addN i 1; (first | trivial | omega | (simp (disch := omega) only [hS.glob, wraps, plain, Int.ofNat_eq_natCast]; first | done | omega | trivial | (simp; done) | (simp; omega) | (constructor <;> omega)) | (simp (disch := omega) only [hS.glob, wraps, plain, Int.ofNat_eq_natCast, Vx.toN]; omega)), fun j hj => leaf (addN := Vx.addN) (by simp [hS.glob]) (by simp [hS.glob]) _ xs xs' i x1 x2 j hj⟩, rfl⟩, ⟨rfl, rfl, ⟨by show i + 1 ≤ addN i 1; (first | trivial | omega | (simp (disch := omega) only [hS.glob, wraps, plain, Int.ofNat_eq_natCast]; first | done | omega | trivial | (simp; done) | (simp; omega) | (constructor <;> omega)) | (simp (disch := omega) only [hS.glob, wraps, plain, Int.ofNat_eq_natCast, Vx.toN]; omega)), fun j hj => leaf (addN := Vx.addN) (by simp [hS.glob]) (by simp [hS.glob]) _ cs cs' i y1 y2 j hj⟩, rfl⟩, trivial⟩ (by rw [hC]; exact Nat.zero_le _)
          · conv => cbv
            simp (disch := first | omega | (simp only [hS.glob, wraps, plain, Int.ofNat_eq_natCast]; omega)) only [hS.glob, wraps, plain, Int.ofNat_eq_natCast] at g1
            obtain rfl : odd = 1 := by rw [hodd2, if_pos (by omega)]
            rw [hVV]
            clear hVV hVA VV VA hW W
            refine V.call rfl rfl rfl rfl rfl Try.func35 rfl (by decide) [0, 1] (by decide) (all_lt (by rfl)) (by (first | rfl | ((conv => cbv); (repeat' apply And.intro) <;> first | rfl | trivial | (first | rfl | omega | (simp (disch := omega) only [hS.glob, wraps, plain, Int.ofNat_eq_natCast]; first | done | rfl | omega | (simp; done) | (simp; omega)) | (simp (disch := omega) only [hS.glob, wraps, plain, Int.ofNat_eq_natCast, Vx.toN]; omega))))) (by rfl) h35 ?_
            rintro r Hc ⟨rfl, k', lv', ov', is', o', e', v', rfl, hR⟩
            refine V.go Try.func16 tl_ok mixed hS.ops [] 400 ?_
            intro VV VA W hVV hVA hW
            conv => cbv
            rw [hVV]
            clear hVV hVA VV VA hW W
            have hS' := hR.trans hT.st.symm
            refine V.pick [0, 9, 6, 8] (by decide) (by rw [hC]; exact begins_of rfl) (by rfl) (by rfl) ?_
            exact V.to (hback ⟨i + 1, k', lv', ov', is', o', e', v', xs', cs'⟩ ⟨by simp only; omega, hS', by rw [hT.xs, ← hX]; exact tab_snoc rfl x1 x2, by rw [hT.cs, ← hY]; exact tab_snoc rfl y1 y2⟩ (by simp only; omega)) (by (repeat' first | exact trivial | rfl | (refine And.intro ?_ ?_) | (refine sti ?_; (first | rfl | omega | (simp (disch := omega) only [hS.glob, wraps, plain, Int.ofNat_eq_natCast]; first | done | rfl | omega | (simp; done) | (simp; omega)) | (simp (disch := omega) only [hS.glob, wraps, plain, Int.ofNat_eq_natCast, Vx.toN]; omega))) | (refine slq ?_ ?_ ?_ <;> (first | rfl | omega | (simp (disch := omega) only [hS.glob, wraps, plain, Int.ofNat_eq_natCast]; first | done | rfl | omega | (simp; done) | (simp; omega)) | (simp (disch := omega) only [hS.glob, wraps, plain, Int.ofNat_eq_natCast, Vx.toN]; omega))) | (refine ptq ?_ ?_ ?_ <;> (first | rfl | omega | (simp (disch := omega) only [hS.glob, wraps, plain, Int.ofNat_eq_natCast]; first | done | rfl | omega | (simp; done) | (simp; omega)) | (simp (disch := omega) only [hS.glob, wraps, plain, Int.ofNat_eq_natCast, Vx.toN]; omega))) | (refine blq ?_; (first | rfl | omega | (simp (disch := omega) only [hS.glob, wraps, plain, Int.ofNat_eq_natCast]; first | done | rfl | omega | (simp; done) | (simp; omega)) | (simp (disch := omega) only [hS.glob, wraps, plain, Int.ofNat_eq_natCast, Vx.toN]; omega))))) rfl ⟨⟨rfl, rfl, rfl, rfl⟩, ⟨rfl, rfl, ⟨Nat.le_refl _, fun _ _ => rfl⟩, rfl⟩, ⟨rfl, rfl, ⟨by show i + 1 ≤ addN i 1; (first | trivial | omega | (simp (disch := omega) only [hS.glob, wraps, plain, Int.ofNat_eq_natCast]; first | done | omega | trivial | (simp; done) | (simp; omega) | (constructor <;> omega)) | (simp (disch := omega) only [hS.glob, wraps, plain, Int.ofNat_eq_natCast, Vx.toN]; omega)), fun j hj => leaf (addN := Vx.addN) (by simp [hS.glob]) (by simp [hS.glob]) _ xs xs' i x1 x2 j hj⟩, rfl⟩, ⟨rfl, rfl, ⟨by show i + 1 ≤ addN i 1; (first | trivial | omega | (simp (disch := omega) only [hS.glob, wraps, plain, Int.ofNat_eq_natCast]; first | done | omega | trivial | (simp; done) | (simp; omega) | (constructor <;> omega)) | (simp (disch := omega) only [hS.glob, wraps, plain, Int.ofNat_eq_natCast, Vx.toN]; omega)), fun j hj => leaf (addN := Vx.addN) (by simp [hS.glob]) (by simp [hS.glob]) _ cs cs' i y1 y2 j hj⟩, rfl⟩, trivial⟩ (by rw [hC]; exact Nat.zero_le _)
        · conv => cbv
          simp (disch := first | omega | (simp only [hS.glob, wraps, plain, Int.ofNat_eq_natCast]; omega)) only [hS.glob, wraps, plain, Int.ofNat_eq_natCast] at h5
          rw [if_neg h5] at hT
          obtain ⟨cs', y1, y2⟩ := snocF cs i OV
          repeat (refine ⟨by first | (rw [hW]; show ordOk _ _ _ = true; kernel_rfl) | (first | trivial | omega | (simp (disch := omega) only [hS.glob, wraps, plain, Int.ofNat_eq_natCast]; first | done | omega | trivial | (simp; done) | (simp; omega) | (constructor <;> omega)) | (simp (disch := omega) only [hS.glob, wraps, plain, Int.ofNat_eq_natCast, Vx.toN]; omega)), ?_⟩)
          cases g1 : ieq c 20
          · conv => cbv
            cases g2 : ieq c 21
            · conv => cbv
              simp (disch := first | omega | (simp only [hS.glob, wraps, plain, Int.ofNat_eq_natCast]; omega)) only [hS.glob, wraps, plain, Int.ofNat_eq_natCast] at g1 g2
              obtain rfl : odd = 0 := by rw [hodd2, if_neg (by omega)]
              rw [hVV]
              clear hVV hVA VV VA hW W
              refine V.call rfl rfl rfl rfl rfl Try.func35 rfl (by decide) [0, 1] (by decide) (all_lt (by rfl)) (by (first | rfl | ((conv => cbv); (repeat' apply And.intro) <;> first | rfl | trivial | (first | rfl | omega | (simp (disch := omega) only [hS.glob, wraps, plain, Int.ofNat_eq_natCast]; first | done | rfl | omega | (simp; done) | (simp; omega)) | (simp (disch := omega) only [hS.glob, wraps, plain, Int.ofNat_eq_natCast, Vx.toN]; omega))))) (by rfl) h35 ?_
              rintro r Hc ⟨rfl, k', lv', ov', is', o', e', v', rfl, hR⟩
              refine V.go Try.func16 tl_ok mixed hS.ops [] 400 ?_
              intro VV VA W hVV hVA hW
              conv => cbv
              rw [hVV]
              clear hVV hVA VV VA hW W
              have hS' := hR.trans hT.st.symm
              refine V.pick [0, 9, 6, 8] (by decide) (by rw [hC]; exact begins_of rfl) (by rfl) (by rfl) ?_
              exact V.to (hback ⟨i + 1, k', lv', ov', is', o', e', v', xs', cs'⟩ ⟨by simp only; omega, hS', by rw [hT.xs, ← hX]; exact tab_snoc rfl x1 x2, by rw [hT.cs, ← hY]; exact tab_snoc rfl y1 y2⟩ (by simp only; omega)) (by (repeat' first | exact trivial | rfl | (refine And.intro ?_ ?_) | (refine sti ?_; (first | rfl | omega | (simp (disch := omega) only [hS.glob, wraps, plain, Int.ofNat_eq_natCast]; first | done | rfl | omega | (simp; done) | (simp; omega)) | (simp (disch := omega) only [hS.glob, wraps, plain, Int.ofNat_eq_natCast, Vx.toN]; omega))) | (refine slq ?_ ?_ ?_ <;> (first | rfl | omega | (simp (disch := omega) only [hS.glob, wraps, plain, Int.ofNat_eq_natCast]; first | done | rfl | omega | (simp; done) | (simp; omega)) | (simp (disch := omega) only [hS.glob, wraps, plain, Int.ofNat_eq_natCast, Vx.toN]; omega))) | (refine ptq ?_ ?_ ?_ <;> (first | rfl | omega | (simp (disch := omega) only [hS.glob, wraps, plain, Int.ofNat_eq_natCast]; first | done | rfl | omega | (simp; done) | (simp; omega)) | (simp (disch := omega) only [hS.glob, wraps, plain, Int.ofNat_eq_natCast, Vx.toN]; omega))) | (refine blq ?_; (first | rfl | omega | (simp (disch := omega) only [hS.glob, wraps, plain, Int.ofNat_eq_natCast]; first | done | rfl | omega | (simp; done) | (simp; omega)) | (simp (disch := omega) only [hS.glob, wraps, plain, Int.ofNat_eq_natCast, Vx.toN]; omega))))) rfl ⟨⟨rfl, rfl, rfl, rfl⟩, ⟨rfl, rfl, ⟨Nat.le_refl _, fun _ _ => rfl⟩, rfl⟩, ⟨rfl, rfl, ⟨by show i + 1 ≤ addN i 1; (first | trivial | omega | (simp (disch := omega) only [hS.glob, wraps, plain, Int.ofNat_eq_natCast]; first | done | omega | trivial | (simp; done) | (simp; omega) | (constructor <;> omega)) | (simp (disch := omega) only [hS.glob, wraps, plain, Int.ofNat_eq_natCast, Vx.toN]; omega)), fun j hj => leaf (addN := Vx.addN) (by simp [hS.glob]) (by simp [hS.glob]) _ xs xs' i x1 x2 j hj⟩, rfl⟩, ⟨rfl, rfl, ⟨by show i + 1 ≤ addN i 1; (first | trivial | omega | (simp (disch := omega) only [hS.glob, wraps, plain, Int.ofNat_eq_natCast]; first | done | omega | trivial | (simp; done) | (simp; omega) | (constructor <;> omega)) | (simp (disch := omega) only [hS.glob, wraps, plain, Int.ofNat_eq_natCast, Vx.toN]; omega)), fun j hj => leaf (addN := Vx.addN) (by simp [hS.glob]) (by simp [hS.glob]) _ cs cs' i y1 y2 j hj⟩, rfl⟩, trivial⟩ (by rw [hC]; exact Nat.zero_le _)
            · conv => cbv
              simp (disch := first | omega | (simp only [hS.glob, wraps, plain, Int.ofNat_eq_natCast]; omega)) only [hS.glob, wraps, plain, Int.ofNat_eq_natCast] at g1 g2
              rw [hVV]
              clear hVV hVA VV VA hW W
              refine V.call rfl rfl rfl rfl rfl Try.func34 rfl (by decide) [] (by simp) (by simp) (by (first | rfl | ((conv => cbv); (repeat' apply And.intro) <;> first | rfl | trivial | (first | rfl | omega | (simp (disch := omega) only [hS.glob, wraps, plain, Int.ofNat_eq_natCast]; first | done | rfl | omega | (simp; done) | (simp; omega)) | (simp (disch := omega) only [hS.glob, wraps, plain, Int.ofNat_eq_natCast, Vx.toN]; omega))))) rfl (h34 (by simp (disch := first | omega | (simp only [hS.glob, wraps, plain, Int.ofNat_eq_natCast]; omega)) only [hS.glob, wraps, plain, Int.ofNat_eq_natCast])) ?_
              rintro r Hc ⟨rfl, rfl⟩
              refine V.go Try.func16 tl_ok mixed hS.ops [] 400 ?_
              intro VV VA W hVV hVA hW
              conv => cbv
              rw [hVV]
              clear hVV hVA VV VA hW W
              refine V.call rfl rfl rfl rfl rfl Try.func14 rfl (by decide) [] (by simp) (by simp) (by (first | rfl | ((conv => cbv); (repeat' apply And.intro) <;> first | rfl | trivial | (first | rfl | omega | (simp (disch := omega) only [hS.glob, wraps, plain, Int.ofNat_eq_natCast]; first | done | rfl | omega | (simp; done) | (simp; omega)) | (simp (disch := omega) only [hS.glob, wraps, plain, Int.ofNat_eq_natCast, Vx.toN]; omega))))) rfl h14 ?_
              rintro r Hc ⟨rfl, rfl⟩
              refine V.go Try.func16 tl_ok mixed hS.ops [] 400 ?_
              intro VV VA W hVV hVA hW
              conv => cbv
              cases g3 : ieq sg 1
              · conv => cbv
                simp (disch := first | omega | (simp only [hS.glob, wraps, plain, Int.ofNat_eq_natCast]; omega)) only [hS.glob, wraps, plain, Int.ofNat_eq_natCast] at g3
                obtain rfl : odd = 0 := by rw [hodd2, if_neg (by omega)]
                rw [hVV]
                clear hVV hVA VV VA hW W
                refine V.call rfl rfl rfl rfl rfl Try.func35 rfl (by decide) [0, 1] (by decide) (all_lt (by rfl)) (by (first | rfl | ((conv => cbv); (repeat' apply And.intro) <;> first | rfl | trivial | (first | rfl | omega | (simp (disch := omega) only [hS.glob, wraps, plain, Int.ofNat_eq_natCast]; first | done | rfl | omega | (simp; done) | (simp; omega)) | (simp (disch := omega) only [hS.glob, wraps, plain, Int.ofNat_eq_natCast, Vx.toN]; omega))))) (by rfl) h35 ?_
                rintro r Hc ⟨rfl, k', lv', ov', is', o', e', v', rfl, hR⟩
                refine V.go Try.func16 tl_ok mixed hS.ops [] 400 ?_
                intro VV VA W hVV hVA hW
                conv => cbv
                rw [hVV]
                clear hVV hVA VV VA hW W
                have hS' := hR.trans hT.st.symm
                refine V.pick [0, 9, 6, 8] (by decide) (by rw [hC]; exact begins_of rfl) (by rfl) (by rfl) ?_
                exact V.to (hback ⟨i + 1, k', lv', ov', is', o', e', v', xs', cs'⟩ ⟨by simp only; omega, hS', by rw [hT.xs, ← hX]; exact tab_snoc rfl x1 x2, by rw [hT.cs, ← hY]; exact tab_snoc rfl y1 y2⟩ (by simp only; omega)) (by (repeat' first | exact trivial | rfl | (refine And.intro ?_ ?_) | (refine sti ?_; (first | rfl | omega | (simp (disch := omega) only [hS.glob, wraps, plain, Int.ofNat_eq_natCast]; first | done | rfl | omega | (simp; done) | (simp; omega)) | (simp (disch := omega) only [hS.glob, wraps, plain, Int.ofNat_eq_natCast, Vx.toN]; omega))) | (refine slq ?_ ?_ ?_ <;> (first | rfl | omega | (simp (disch := omega) only [hS.glob, wraps, plain, Int.ofNat_eq_natCast]; first | done | rfl | omega | (simp; done) | (simp; omega)) | (simp (disch := omega) only [hS.glob, wraps, plain, Int.ofNat_eq_natCast, Vx.toN]; omega))) | (refine ptq ?_ ?_ ?_ <;> (first | rfl | omega | (simp (disch := omega) only [hS.glob, wraps, plain, Int.ofNat_eq_natCast]; first | done | rfl | omega | (simp; done) | (simp; omega)) | (simp (disch := omega) only [hS.glob, wraps, plain, Int.ofNat_eq_natCast, Vx.toN]; omega))) | (refine blq ?_; (first | rfl | omega | (simp (disch := omega) only [hS.glob, wraps, plain, Int.ofNat_eq_natCast]; first | done | rfl | omega | (simp; done) | (simp; omega)) | (simp (disch := omega) only [hS.glob, wraps, plain, Int.ofNat_eq_natCast, Vx.toN]; omega))))) rfl ⟨⟨rfl, rfl, rfl, rfl⟩, ⟨rfl, rfl, ⟨Nat.le_refl _, fun _ _ => rfl⟩, rfl⟩, ⟨rfl, rfl, ⟨by show i + 1 ≤ addN i 1; (first | trivial | omega | (simp (disch := omega) only [hS.glob, wraps, plain, Int.ofNat_eq_natCast]; first | done | omega | trivial | (simp; done) | (simp; omega) | (constructor <;> omega)) | (simp (disch := omega) only [hS.glob, wraps, plain, Int.ofNat_eq_natCast, Vx.toN]; omega)), fun j hj => leaf (addN := Vx.addN) (by simp [hS.glob]) (by simp [hS.glob]) _ xs xs' i x1 x2 j hj⟩, rfl⟩, ⟨rfl, rfl, ⟨by show i + 1 ≤ addN i 1; (first | trivial | omega | (simp (disch := omega) only [hS.glob, wraps, plain, Int.ofNat_eq_natCast]; first | done | omega | trivial | (simp; done) | (simp; omega) | (constructor <;> omega)) | (simp (disch := omega) only [hS.glob, wraps, plain, Int.ofNat_eq_natCast, Vx.toN]; omega)), fun j hj => leaf (addN := Vx.addN) (by simp [hS.glob]) (by simp [hS.glob]) _ cs cs' i y1 y2 j hj⟩, rfl⟩, trivial⟩ (by rw [hC]; exact Nat.zero_le _)
              · conv => cbv
                simp (disch := first | omega | (simp only [hS.glob, wraps, plain, Int.ofNat_eq_natCast]; omega)) only [hS.glob, wraps, plain, Int.ofNat_eq_natCast] at g3
                obtain rfl : odd = 1 := by rw [hodd2, if_pos (by omega)]
                rw [hVV]
                clear hVV hVA VV VA hW W
                refine V.call rfl rfl rfl rfl rfl Try.func35 rfl (by decide) [0, 1] (by decide) (all_lt (by rfl)) (by (first | rfl | ((conv => cbv); (repeat' apply And.intro) <;> first | rfl | trivial | (first | rfl | omega | (simp (disch := omega) only [hS.glob, wraps, plain, Int.ofNat_eq_natCast]; first | done | rfl | omega | (simp; done) | (simp; omega)) | (simp (disch := omega) only [hS.glob, wraps, plain, Int.ofNat_eq_natCast, Vx.toN]; omega))))) (by rfl) h35 ?_
                rintro r Hc ⟨rfl, k', lv', ov', is', o', e', v', rfl, hR⟩
                refine V.go Try.func16 tl_ok mixed hS.ops [] 400 ?_
                intro VV VA W hVV hVA hW
                conv => cbv
                rw [hVV]
                clear hVV hVA VV VA hW W
                have hS' := hR.trans hT.st.symm
                refine V.pick [0, 9, 6, 8] (by decide) (by rw [hC]; exact begins_of rfl) (by rfl) (by rfl) ?_
                exact V.to (hback ⟨i + 1, k', lv', ov', is', o', e', v', xs', cs'⟩ ⟨by simp only; omega, hS', by rw [hT.xs, ← hX]; exact tab_snoc rfl x1 x2, by rw [hT.cs, ← hY]; exact tab_snoc rfl y1 y2⟩ (by simp only; omega)) (by (repeat' first | exact trivial | rfl | (refine And.intro ?_ ?_) | (refine sti ?_; (first | rfl | omega | (simp (disch := omega) only [hS.glob, wraps, plain, Int.ofNat_eq_natCast]; first | done | rfl | omega | (simp; done) | (simp; omega)) | (simp (disch := omega) only [hS.glob, wraps, plain, Int.ofNat_eq_natCast, Vx.toN]; omega))) | (refine slq ?_ ?_ ?_ <;> (first | rfl | omega | (simp (disch := omega) only [hS.glob, wraps, plain, Int.ofNat_eq_natCast]; first | done | rfl | omega | (simp; done) | (simp; omega)) | (simp (disch := omega) only [hS.glob, wraps, plain, Int.ofNat_eq_natCast, Vx.toN]; omega))) | (refine ptq ?_ ?_ ?_ <;> (first | rfl | omega | (simp (disch := omega) only [hS.glob, wraps, plain, Int.ofNat_eq_natCast]; first | done | rfl | omega | (simp; done) | (simp; omega)) | (simp (disch := omega) only [hS.glob, wraps, plain, Int.ofNat_eq_natCast, Vx.toN]; omega))) | (refine blq ?_; (first | rfl | omega | (simp (disch := omega) only [hS.glob, wraps, plain, Int.ofNat_eq_natCast]; first | done | rfl | omega | (simp; done) | (simp; omega)) | (simp (disch := omega) only [hS.glob, wraps, plain, Int.ofNat_eq_natCast, Vx.toN]; omega))))) rfl ⟨⟨rfl, rfl, rfl, rfl⟩, ⟨rfl, rfl, ⟨Nat.le_refl _, fun _ _ => rfl⟩, rfl⟩, ⟨rfl, rfl, ⟨by show i + 1 ≤ addN i 1; (first | trivial | omega | (simp (disch := omega) only [hS.glob, wraps, plain, Int.ofNat_eq_natCast]; first | done | omega | trivial | (simp; done) | (simp; omega) | (constructor <;> omega)) | (simp (disch := omega) only [hS.glob, wraps, plain, Int.ofNat_eq_natCast, Vx.toN]; omega)), fun j hj => leaf (addN := Vx.addN) (by simp [hS.glob]) (by simp [hS.glob]) _ xs xs' i x1 x2 j hj⟩, rfl⟩, ⟨rfl, rfl, ⟨by show i + 1 ≤ addN i 1; (first | trivial | omega | (simp (disch := omega) only [hS.glob, wraps, plain, Int.ofNat_eq_natCast]; first | done | omega | trivial | (simp; done) | (simp; omega) | (constructor <;> omega)) | (simp (disch := omega) only [hS.glob, wraps, plain, Int.ofNat_eq_natCast, Vx.toN]; omega)), fun j hj => leaf (addN := Vx.addN) (by simp [hS.glob]) (by simp [hS.glob]) _ cs cs' i y1 y2 j hj⟩, rfl⟩, trivial⟩ (by rw [hC]; exact Nat.zero_le _)
          · conv => cbv
            simp (disch := first | omega | (simp only [hS.glob, wraps, plain, Int.ofNat_eq_natCast]; omega)) only [hS.glob, wraps, plain, Int.ofNat_eq_natCast] at g1
            obtain rfl : odd = 1 := by rw [hodd2, if_pos (by omega)]
            rw [hVV]
            clear hVV hVA VV VA hW W
            refine V.call rfl rfl rfl rfl rfl Try.func35 rfl (by decide) [0, 1] (by decide) (all_lt (by rfl)) (by (first | rfl | ((conv => cbv); (repeat' apply And.intro) <;> first | rfl | trivial | (first | rfl | omega | (simp (disch := omega) only [hS.glob, wraps, plain, Int.ofNat_eq_natCast]; first | done | rfl | omega | (simp; done) | (simp; omega)) | (simp (disch := omega) only [hS.glob, wraps, plain, Int.ofNat_eq_natCast, Vx.toN]; omega))))) (by rfl) h35 ?_
            rintro r Hc ⟨rfl, k', lv', ov', is', o', e', v', rfl, hR⟩
            refine V.go Try.func16 tl_ok mixed hS.ops [] 400 ?_
            intro VV VA W hVV hVA hW
            conv => cbv
            rw [hVV]
            clear hVV hVA VV VA hW W
            have hS' := hR.trans hT.st.symm
            refine V.pick [0, 9, 6, 8] (by decide) (by rw [hC]; exact begins_of rfl) (by rfl) (by rfl) ?_
            exact V.to (hback ⟨i + 1, k', lv', ov', is', o', e', v', xs', cs'⟩ ⟨by simp only; omega, hS', by rw [hT.xs, ← hX]; exact tab_snoc rfl x1 x2, by rw [hT.cs, ← hY]; exact tab_snoc rfl y1 y2⟩ (by simp only; omega)) (by (repeat' first | exact trivial | rfl | (refine And.intro ?_ ?_) | (refine sti ?_; (first | rfl | omega | (simp (disch := omega) only [hS.glob, wraps, plain, Int.ofNat_eq_natCast]; first | done | rfl | omega | (simp; done) | (simp; omega)) | (simp (disch := omega) only [hS.glob, wraps, plain, Int.ofNat_eq_natCast, Vx.toN]; omega))) | (refine slq ?_ ?_ ?_ <;> (first | rfl | omega | (simp (disch := omega) only [hS.glob, wraps, plain, Int.ofNat_eq_natCast]; first | done | rfl | omega | (simp; done) | (simp; omega)) | (simp (disch := omega) only [hS.glob, wraps, plain, Int.ofNat_eq_natCast, Vx.toN]; omega))) | (refine ptq ?_ ?_ ?_ <;> (first | rfl | omega | (simp (disch := omega) only [hS.glob, wraps, plain, Int.ofNat_eq_natCast]; first | done | rfl | omega | (simp; done) | (simp; omega)) | (simp (disch := omega) only [hS.glob, wraps, plain, Int.ofNat_eq_natCast, Vx.toN]; omega))) | (refine blq ?_; (first | rfl | omega | (simp (disch := omega) only [hS.glob, wraps, plain, Int.ofNat_eq_natCast]; first | done | rfl | omega | (simp; done) | (simp; omega)) | (simp (disch := omega) only [hS.glob, wraps, plain, Int.ofNat_eq_natCast, Vx.toN]; omega))))) rfl ⟨⟨rfl, rfl, rfl, rfl⟩, ⟨rfl, rfl, ⟨Nat.le_refl _, fun _ _ => rfl⟩, rfl⟩, ⟨rfl, rfl, ⟨by show i + 1 ≤ addN i 1; (first | trivial | omega | (simp (disch := omega) only [hS.glob, wraps, plain, Int.ofNat_eq_natCast]; first | done | omega | trivial | (simp; done) | (simp; omega) | (constructor <;> omega)) | (simp (disch := omega) only [hS.glob, wraps, plain, Int.ofNat_eq_natCast, Vx.toN]; omega)), fun j hj => leaf (addN := Vx.addN) (by simp [hS.glob]) (by simp [hS.glob]) _ xs xs' i x1 x2 j hj⟩, rfl⟩, ⟨rfl, rfl, ⟨by show i + 1 ≤ addN i 1; (first | trivial | omega | (simp (disch := omega) only [hS.glob, wraps, plain, Int.ofNat_eq_natCast]; first | done | omega | trivial | (simp; done) | (simp; omega) | (constructor <;> omega)) | (simp (disch := omega) only [hS.glob, wraps, plain, Int.ofNat_eq_natCast, Vx.toN]; omega)), fun j hj => leaf (addN := Vx.addN) (by simp [hS.glob]) (by simp [hS.glob]) _ cs cs' i y1 y2 j hj⟩, rfl⟩, trivial⟩ (by rw [hC]; exact Nat.zero_le _)

theorem f16_none1 (ln : Nat) (l : Nat → Int) (hl : ln ≤ 999999) (base : Int) (hbase : strB ln l = base) : FSpec Try.prog 16 [.rows 1 ln (icol .i64 l), .int .i64 (-1)] []
    (fun r H' => ∃ (xs cs : Nat → Int) (a b : Option Ob), r = .tup [.sl 2 0 ln, .sl 3 0 ln, .int .i64 0] ∧ H' = [a, b, some ⟨3, 1, .arr ln (icol .i64 xs)⟩, some ⟨34, 1, .arr ln (icol .i64 cs)⟩] ∧ tab ln xs = (levM ln l base).xs ∧ tab ln cs = (levM ln l base).cs) := by
  have hb : 0 ≤ base ∧ base ≤ 1 := by rw [← hbase]; exact sgo_01 _ _ _ _ _
  have h14s := f14_ok ln l base (by rw [← hbase, strB]; exact (sgo_congr l _ _ ln (match_eq ln l) _ _).symm)
  clear hbase
  have hG := good_run hb (oddsOf ln l) (kn l) (fun i => oddI_01 _ _ _ _)
  have hS0 : runM base (oddsOf ln l) (kn l) 0 = ⟨[(base, 13, false)], 0, 0, 0, [], []⟩ := rfl
  have hSs : ∀ i, runM base (oddsOf ln l) (kn l) (i + 1) = stepM base (oddsOf ln l i) (knownC (l i)) (runM base (oddsOf ln l) (kn l) i) := fun i => rfl
  have hlev : levM ln l base = runM base (oddsOf ln l) (kn l) ln := rfl
  rw [hlev]
  clear hlev
  generalize runM base (oddsOf ln l) (kn l) = R at hG hS0 hSs ⊢
  obtain ⟨Q, hQ⟩ : ∃ Q : AV → Hp → Prop, Q = (fun r H' => ∃ (xs cs : Nat → Int) (a b : Option Ob), r = .tup [.sl 2 0 ln, .sl 3 0 ln, .int .i64 0] ∧ H' = [a, b, some ⟨3, 1, .arr ln (icol .i64 xs)⟩, some ⟨34, 1, .arr ln (icol .i64 cs)⟩] ∧ tab ln xs = (R ln).xs ∧ tab ln cs = (R ln).cs) := ⟨_, rfl⟩
  rw [← hQ]
  have h29 := f29_ok base (fun _ => base) (fun _ => 13) (fun _ => false) rfl rfl rfl
  refine FSpec.of (fn := Try.f16) Try.func16 rfl rfl (by simp) fun C hC => ?_
  obtain ⟨iadd, isub, imul, iquo, irem, iband, ibor, ibxor, ibandn, ishl, ishr, iconv, ieq, ine, ilt, ile, igt, ige, bbeq, bbne, bnot, bband, sseq, ssne, sscat, sssub, sslen, sssz, ssbyte, toN, ofN, addN, subN, eqN, ltB, leN, imx, imn, inb, leb, sslt, ltN, fit, ne0, ge0, ssfit, minN, inR, hS⟩ := names
  refine V.go Try.func16 tl_ok mixed hS.ops [] 400 ?_
  intro VV VA W hVV hVA hW
  conv => cbv
  cases h1 : ilt (-1) (-1)
  rotate_left
  · simp (disch := first | omega | (simp only [hS.glob, wraps, plain, Int.ofNat_eq_natCast]; omega)) only [hS.glob, wraps, plain, Int.ofNat_eq_natCast] at h1; omega
  conv => cbv
  cases h2 : igt (-1) 1
  rotate_left
  · simp (disch := first | omega | (simp only [hS.glob, wraps, plain, Int.ofNat_eq_natCast]; omega)) only [hS.glob, wraps, plain, Int.ofNat_eq_natCast] at h2; omega
  conv => cbv
  cases h3 : ilt (-1) 0
  · simp (disch := first | omega | (simp only [hS.glob, wraps, plain, Int.ofNat_eq_natCast]; omega)) only [hS.glob, wraps, plain, Int.ofNat_eq_natCast] at h3; omega
  conv => cbv
  rw [hVV]
  clear hVV hVA VV VA hW W h1 h2 h3
  refine V.call rfl rfl rfl rfl rfl Try.func14 rfl (by decide) [] (by simp) (by simp) (by (first | rfl | ((conv => cbv); (repeat' apply And.intro) <;> first | rfl | trivial | (first | rfl | omega | (simp (disch := omega) only [hS.glob, wraps, plain, Int.ofNat_eq_natCast]; first | done | rfl | omega | (simp; done) | (simp; omega)) | (simp (disch := omega) only [hS.glob, wraps, plain, Int.ofNat_eq_natCast, Vx.toN]; omega))))) rfl h14s ?_
  rintro r Hc ⟨rfl, rfl⟩
  refine V.go Try.func16 tl_ok mixed hS.ops [] 400 ?_
  intro VV VA W hVV hVA hW
  conv => cbv
  rw [hVV]
  clear hVV hVA VV VA hW W h14s
  refine V.phantom 7 3 1 (icol .i64 (fun _ => 0)) rfl ?_
  refine V.phantom 8 34 1 (icol .i64 (fun _ => 0)) rfl ?_
  refine V.call rfl rfl rfl rfl rfl Try.func29 rfl (by decide) [] (by simp) (by simp) (by (first | rfl | ((conv => cbv); (repeat' apply And.intro) <;> first | rfl | trivial | (first | rfl | omega | (simp (disch := omega) only [hS.glob, wraps, plain, Int.ofNat_eq_natCast]; first | done | rfl | omega | (simp; done) | (simp; omega)) | (simp (disch := omega) only [hS.glob, wraps, plain, Int.ofNat_eq_natCast, Vx.toN]; omega))))) rfl h29 ?_
  rintro r Hc ⟨rfl, rfl⟩
  refine V.go Try.func16 tl_ok mixed hS.ops [] 400 ?_
  intro VV VA W hVV hVA hW
  conv => cbv
  rw [hVV]
  clear hVV hVA VV VA hW W
  refine V.to (s' := [(10, .int .i64 (ofN 0)), (7, .sl 0 0 0), (8, .sl 1 0 0), (9, .ptr 2 0 0), (0, .rows 1 ln (icol .i64 l)), (1, .int .i64 base)]) (H' := [some ⟨3, 1, .arr 0 (icol .i64 (fun _ => 0))⟩, some ⟨34, 1, .arr 0 (icol .i64 (fun _ => 0))⟩, some ⟨71, 4, .lit [rrow 3 1 0 0 0]⟩, some ⟨60, 3, .arr 1 (srow (fun _ => base) (fun _ => 13) (fun _ => false))⟩]) ?_ (by (repeat' first | exact trivial | rfl | (refine And.intro ?_ ?_) | (refine sti ?_; (first | rfl | omega | (simp (disch := omega) only [hS.glob, wraps, plain, Int.ofNat_eq_natCast]; first | done | rfl | omega | (simp; done) | (simp; omega)) | (simp (disch := omega) only [hS.glob, wraps, plain, Int.ofNat_eq_natCast, Vx.toN]; omega))) | (refine slq ?_ ?_ ?_ <;> (first | rfl | omega | (simp (disch := omega) only [hS.glob, wraps, plain, Int.ofNat_eq_natCast]; first | done | rfl | omega | (simp; done) | (simp; omega)) | (simp (disch := omega) only [hS.glob, wraps, plain, Int.ofNat_eq_natCast, Vx.toN]; omega))) | (refine ptq ?_ ?_ ?_ <;> (first | rfl | omega | (simp (disch := omega) only [hS.glob, wraps, plain, Int.ofNat_eq_natCast]; first | done | rfl | omega | (simp; done) | (simp; omega)) | (simp (disch := omega) only [hS.glob, wraps, plain, Int.ofNat_eq_natCast, Vx.toN]; omega))) | (refine blq ?_; (first | rfl | omega | (simp (disch := omega) only [hS.glob, wraps, plain, Int.ofNat_eq_natCast]; first | done | rfl | omega | (simp; done) | (simp; omega)) | (simp (disch := omega) only [hS.glob, wraps, plain, Int.ofNat_eq_natCast, Vx.toN]; omega))))) rfl (by (repeat' first | exact trivial | rfl | exact Nat.le_refl _ | exact (fun _ _ => rfl) | (refine And.intro ?_ ?_) | (simp only [hS.glob, plain]; first | done | omega))) (by rw [hC]; simp)
  refine V.pick [2, 3, 0, 1] (by decide) (by rw [hC]; exact begins_of rfl) (H' := lheap 1 (fun _ => base) (fun _ => 13) (fun _ => false) 0 0 0 0 (fun _ => 0) (fun _ => 0)) rfl (s' := [(10, .int .i64 (ofN 0)), (7, .sl 2 0 0), (8, .sl 3 0 0), (9, .ptr 0 0 0), (0, .rows 1 ln (icol .i64 l)), (1, .int .i64 base)]) rfl ?_
  refine V.loop (γ := Rv) (fun p => p.i ≤ ln ∧ absR p.k p.lv p.ov p.is p.o p.e p.v = strip (R p.i) ∧ tab p.i p.xs = (R p.i).xs ∧ tab p.i p.cs = (R p.i).cs) (fun p => [(10, .int .i64 (ofN p.i)), (7, .sl 2 0 p.i), (8, .sl 3 0 p.i), (9, .ptr 0 0 0), (0, .rows 1 ln (icol .i64 l)), (1, .int .i64 base)]) (fun p => lheap p.k p.lv p.ov p.is p.o p.e p.v p.i p.xs p.cs) (fun p => ln - p.i) ?_ ⟨0, 1, fun _ => base, fun _ => 13, fun _ => false, 0, 0, 0, fun _ => 0, fun _ => 0⟩ ⟨Nat.zero_le _, by rw [hS0]; rfl, by rw [hS0]; rfl, by rw [hS0]; rfl⟩
  rintro ⟨i, k, lv, ov, is, o, e, v, xs, cs⟩ ⟨hi, hM, hX, hY⟩ hback
  dsimp only at hi hM hX hY hback ⊢
  refine V.go Try.func16 tl_ok mixed hS.ops [] 400 ?_
  intro VV VA W hVV hVA hW
  conv => cbv
  split <;> rename_i h1
  rotate_left
  · conv => cbv
    simp (disch := first | omega | (simp only [hS.glob, wraps, plain, Int.ofNat_eq_natCast]; omega)) only [hS.glob, wraps, plain, Int.ofNat_eq_natCast] at h1
    obtain rfl : i = ln := by omega
    rw [hQ]
    exact ⟨xs, cs, _, _, rfl, rfl, hX, hY⟩
  · conv => cbv
    simp (disch := first | omega | (simp only [hS.glob, wraps, plain, Int.ofNat_eq_natCast]; omega)) only [hS.glob, wraps, plain, Int.ofNat_eq_natCast] at h1
    repeat (refine ⟨by first | (rw [hW]; show ordOk _ _ _ = true; kernel_rfl) | (first | trivial | omega | (simp (disch := omega) only [hS.glob, wraps, plain, Int.ofNat_eq_natCast]; first | done | omega | trivial | (simp; done) | (simp; omega) | (constructor <;> omega)) | (simp (disch := omega) only [hS.glob, wraps, plain, Int.ofNat_eq_natCast, Vx.toN]; omega)), ?_⟩)
    simp only [hS.tidy]
    obtain ⟨n1, n2, n3, n4, n5, n6, n7⟩ := good_nums hb (by omega) (hG i) k lv ov is o e v hM
    obtain ⟨c, hc⟩ : ∃ c, c = knownC (l i) := ⟨_, rfl⟩
    have hS1 := hSs i
    rw [← hc] at hS1
    obtain ⟨rem, hrem⟩ : ∃ b, b = remC c := ⟨_, rfl⟩
    obtain ⟨beg, hbeg⟩ : ∃ b, b = begC c := ⟨_, rfl⟩
    rw [hVV]
    clear hVV hVA VV VA hW W
    refine V.call rfl rfl rfl rfl rfl Try.func30 rfl (by decide) [] (by simp) (by simp) (by (first | rfl | ((conv => cbv); (repeat' apply And.intro) <;> first | rfl | trivial | (first | rfl | omega | (simp (disch := omega) only [hS.glob, wraps, plain, Int.ofNat_eq_natCast]; first | done | rfl | omega | (simp; done) | (simp; omega)) | (simp (disch := omega) only [hS.glob, wraps, plain, Int.ofNat_eq_natCast, Vx.toN]; omega))))) rfl (f30_ok (l i) c hc) ?_
    rintro r Hc ⟨rfl, rfl⟩
    refine V.go Try.func16 tl_ok mixed hS.ops [] 400 ?_
    intro VV VA W hVV hVA hW
    conv => cbv
    rw [hVV]
    clear hVV hVA VV VA hW W
    refine V.call rfl rfl rfl rfl rfl Try.func17 rfl (by decide) [] (by simp) (by simp) (by (first | rfl | ((conv => cbv); (repeat' apply And.intro) <;> first | rfl | trivial | (first | rfl | omega | (simp (disch := omega) only [hS.glob, wraps, plain, Int.ofNat_eq_natCast]; first | done | rfl | omega | (simp; done) | (simp; omega)) | (simp (disch := omega) only [hS.glob, wraps, plain, Int.ofNat_eq_natCast, Vx.toN]; omega))))) rfl (f17_ok c rem hrem) ?_
    rintro r Hc ⟨rfl, rfl⟩
    refine V.go Try.func16 tl_ok mixed hS.ops [] 400 ?_
    intro VV VA W hVV hVA hW
    conv => cbv
    rw [hVV]
    clear hVV hVA VV VA hW W
    refine V.call rfl rfl rfl rfl rfl Try.func24 rfl (by decide) [] (by simp) (by simp) (by (first | rfl | ((conv => cbv); (repeat' apply And.intro) <;> first | rfl | trivial | (first | rfl | omega | (simp (disch := omega) only [hS.glob, wraps, plain, Int.ofNat_eq_natCast]; first | done | rfl | omega | (simp; done) | (simp; omega)) | (simp (disch := omega) only [hS.glob, wraps, plain, Int.ofNat_eq_natCast, Vx.toN]; omega))))) rfl (f24_ok c beg hbeg) ?_
    rintro r Hc ⟨rfl, rfl⟩
    cases rem
    rotate_left
    · refine V.go Try.func16 tl_ok mixed hS.ops [] 400 ?_
      intro VV VA W hVV hVA hW
      conv => cbv
      rw [hVV]
      clear hVV hVA VV VA hW W
      have hT := told_rem base (oddsOf ln l i) c (R i) hrem.symm
      rw [← hS1, ← hM] at hT
      refine V.call rfl rfl rfl rfl rfl Try.func31 rfl (by decide) [0, 1] (by decide) (all_lt (by rfl)) (by (first | rfl | ((conv => cbv); (repeat' apply And.intro) <;> first | rfl | trivial | (first | rfl | omega | (simp (disch := omega) only [hS.glob, wraps, plain, Int.ofNat_eq_natCast]; first | done | rfl | omega | (simp; done) | (simp; omega)) | (simp (disch := omega) only [hS.glob, wraps, plain, Int.ofNat_eq_natCast, Vx.toN]; omega))))) (by rfl) (f31_ok k lv ov is o e v n1 n2 n3 n4 n5 n6 c) ?_
      rintro r Hc ⟨rfl, k', lv', ov', is', o', e', v', rfl, hR⟩
      refine V.go Try.func16 tl_ok mixed hS.ops [] 400 ?_
      intro VV VA W hVV hVA hW
      conv => cbv
      repeat (refine ⟨by first | (rw [hW]; show ordOk _ _ _ = true; kernel_rfl) | (first | trivial | omega | (simp (disch := omega) only [hS.glob, wraps, plain, Int.ofNat_eq_natCast]; first | done | omega | trivial | (simp; done) | (simp; omega) | (constructor <;> omega)) | (simp (disch := omega) only [hS.glob, wraps, plain, Int.ofNat_eq_natCast, Vx.toN]; omega)), ?_⟩)
      rw [hVV]
      clear hVV hVA VV VA hW W
      obtain ⟨xs', x1, x2⟩ := snocF xs i (-1)
      obtain ⟨cs', y1, y2⟩ := snocF cs i c
      have hS' := hR.trans hT.st.symm
      refine V.pick [0, 4, 6, 8] (by decide) (by rw [hC]; exact begins_of rfl) (by rfl) (by rfl) ?_
      exact V.to (hback ⟨i + 1, k', lv', ov', is', o', e', v', xs', cs'⟩ ⟨by simp only; omega, hS', by rw [hT.xs, ← hX]; exact tab_snoc rfl x1 x2, by rw [hT.cs, ← hY]; exact tab_snoc rfl y1 y2⟩ (by simp only; omega)) (by (repeat' first | exact trivial | rfl | (refine And.intro ?_ ?_) | (refine sti ?_; (first | rfl | omega | (simp (disch := omega) only [hS.glob, wraps, plain, Int.ofNat_eq_natCast]; first | done | rfl | omega | (simp; done) | (simp; omega)) | (simp (disch := omega) only [hS.glob, wraps, plain, Int.ofNat_eq_natCast, Vx.toN]; omega))) | (refine slq ?_ ?_ ?_ <;> (first | rfl | omega | (simp (disch := omega) only [hS.glob, wraps, plain, Int.ofNat_eq_natCast]; first | done | rfl | omega | (simp; done) | (simp; omega)) | (simp (disch := omega) only [hS.glob, wraps, plain, Int.ofNat_eq_natCast, Vx.toN]; omega))) | (refine ptq ?_ ?_ ?_ <;> (first | rfl | omega | (simp (disch := omega) only [hS.glob, wraps, plain, Int.ofNat_eq_natCast]; first | done | rfl | omega | (simp; done) | (simp; omega)) | (simp (disch := omega) only [hS.glob, wraps, plain, Int.ofNat_eq_natCast, Vx.toN]; omega))) | (refine blq ?_; (first | rfl | omega | (simp (disch := omega) only [hS.glob, wraps, plain, Int.ofNat_eq_natCast]; first | done | rfl | omega | (simp; done) | (simp; omega)) | (simp (disch := omega) only [hS.glob, wraps, plain, Int.ofNat_eq_natCast, Vx.toN]; omega))))) rfl ⟨⟨rfl, rfl, rfl, rfl⟩, ⟨rfl, rfl, ⟨Nat.le_refl _, fun _ _ => rfl⟩, rfl⟩, ⟨rfl, rfl, ⟨by show i + 1 ≤ addN i 1; (first | trivial | omega | (simp (disch := omega) only [hS.glob, wraps, plain, Int.ofNat_eq_natCast]; first | done | omega | trivial | (simp; done) | (simp; omega) | (constructor <;> omega)) | (simp (disch := omega) only [hS.glob, wraps, plain, Int.ofNat_eq_natCast, Vx.toN]; omega)), fun j hj => leaf (addN := Vx.addN) (by simp [hS.glob]) (by simp [hS.glob]) _ xs xs' i x1 x2 j hj⟩, rfl⟩, ⟨rfl, rfl, ⟨by show i + 1 ≤ addN i 1; (first | trivial | omega | (simp (disch := omega) only [hS.glob, wraps, plain, Int.ofNat_eq_natCast]; first | done | omega | trivial | (simp; done) | (simp; omega) | (constructor <;> omega)) | (simp (disch := omega) only [hS.glob, wraps, plain, Int.ofNat_eq_natCast, Vx.toN]; omega)), fun j hj => leaf (addN := Vx.addN) (by simp [hS.glob]) (by simp [hS.glob]) _ cs cs' i y1 y2 j hj⟩, rfl⟩, trivial⟩ (by rw [hC]; exact Nat.zero_le _)
    · refine V.go Try.func16 tl_ok mixed hS.ops [] 400 ?_
      intro VV VA W hVV hVA hW
      conv => cbv
      cases hB : ieq c 10
      rotate_left
      · conv => cbv
        simp (disch := first | omega | (simp only [hS.glob, wraps, plain, Int.ofNat_eq_natCast]; omega)) only [hS.glob, wraps, plain, Int.ofNat_eq_natCast] at hB
        repeat (refine ⟨by first | (rw [hW]; show ordOk _ _ _ = true; kernel_rfl) | (first | trivial | omega | (simp (disch := omega) only [hS.glob, wraps, plain, Int.ofNat_eq_natCast]; first | done | omega | trivial | (simp; done) | (simp; omega) | (constructor <;> omega)) | (simp (disch := omega) only [hS.glob, wraps, plain, Int.ofNat_eq_natCast, Vx.toN]; omega)), ?_⟩)
        rw [hVV]
        clear hVV hVA VV VA hW W
        subst hB
        have hT := told_B base (oddsOf ln l i) (R i)
        rw [← hS1] at hT
        obtain ⟨xs', x1, x2⟩ := snocF xs i base
        obtain ⟨cs', y1, y2⟩ := snocF cs i 10
        refine V.call rfl rfl rfl rfl rfl Try.func29 rfl (by decide) [] (by simp) (by simp) (by (first | rfl | ((conv => cbv); (repeat' apply And.intro) <;> first | rfl | trivial | (first | rfl | omega | (simp (disch := omega) only [hS.glob, wraps, plain, Int.ofNat_eq_natCast]; first | done | rfl | omega | (simp; done) | (simp; omega)) | (simp (disch := omega) only [hS.glob, wraps, plain, Int.ofNat_eq_natCast, Vx.toN]; omega))))) rfl h29 ?_
        rintro r Hc ⟨rfl, rfl⟩
        refine V.go Try.func16 tl_ok mixed hS.ops [] 400 ?_
        intro VV VA W hVV hVA hW
        conv => cbv
        rw [hVV]
        clear hVV hVA VV VA hW W
        have hS' : absR 1 (fun _ => base) (fun _ => 13) (fun _ => false) 0 0 0 = strip (R (i + 1)) := by rw [hT.st]; rfl
        refine V.pick [8, 9, 5, 7] (by decide) (by rw [hC]; exact begins_of rfl) (by rfl) (by rfl) ?_
        exact V.to (hback ⟨i + 1, 1, fun _ => base, fun _ => 13, fun _ => false, 0, 0, 0, xs', cs'⟩ ⟨by simp only; omega, hS', by rw [hT.xs, ← hX]; exact tab_snoc rfl x1 x2, by rw [hT.cs, ← hY]; exact tab_snoc rfl y1 y2⟩ (by simp only; omega)) (by (repeat' first | exact trivial | rfl | (refine And.intro ?_ ?_) | (refine sti ?_; (first | rfl | omega | (simp (disch := omega) only [hS.glob, wraps, plain, Int.ofNat_eq_natCast]; first | done | rfl | omega | (simp; done) | (simp; omega)) | (simp (disch := omega) only [hS.glob, wraps, plain, Int.ofNat_eq_natCast, Vx.toN]; omega))) | (refine slq ?_ ?_ ?_ <;> (first | rfl | omega | (simp (disch := omega) only [hS.glob, wraps, plain, Int.ofNat_eq_natCast]; first | done | rfl | omega | (simp; done) | (simp; omega)) | (simp (disch := omega) only [hS.glob, wraps, plain, Int.ofNat_eq_natCast, Vx.toN]; omega))) | (refine ptq ?_ ?_ ?_ <;> (first | rfl | omega | (simp (disch := omega) only [hS.glob, wraps, plain, Int.ofNat_eq_natCast]; first | done | rfl | omega | (simp; done) | (simp; omega)) | (simp (disch := omega) only [hS.glob, wraps, plain, Int.ofNat_eq_natCast, Vx.toN]; omega))) | (refine blq ?_; (first | rfl | omega | (simp (disch := omega) only [hS.glob, wraps, plain, Int.ofNat_eq_natCast]; first | done | rfl | omega | (simp; done) | (simp; omega)) | (simp (disch := omega) only [hS.glob, wraps, plain, Int.ofNat_eq_natCast, Vx.toN]; omega))))) rfl ⟨⟨rfl, rfl, rfl, rfl⟩, ⟨rfl, rfl, ⟨Nat.le_refl _, fun _ _ => rfl⟩, rfl⟩, ⟨rfl, rfl, ⟨by show i + 1 ≤ addN i 1; (first | trivial | omega | (simp (disch := omega) only [hS.glob, wraps, plain, Int.ofNat_eq_natCast]; first | done | omega | trivial | (simp; done) | (simp; omega) | (constructor <;> omega)) | (simp (disch := omega) only [hS.glob, wraps, plain, Int.ofNat_eq_natCast, Vx.toN]; omega)), fun j hj => leaf (addN := Vx.addN) (by simp [hS.glob]) (by simp [hS.glob]) _ xs xs' i x1 x2 j hj⟩, rfl⟩, ⟨rfl, rfl, ⟨by show i + 1 ≤ addN i 1; (first | trivial | omega | (simp (disch := omega) only [hS.glob, wraps, plain, Int.ofNat_eq_natCast]; first | done | omega | trivial | (simp; done) | (simp; omega) | (constructor <;> omega)) | (simp (disch := omega) only [hS.glob, wraps, plain, Int.ofNat_eq_natCast, Vx.toN]; omega)), fun j hj => leaf (addN := Vx.addN) (by simp [hS.glob]) (by simp [hS.glob]) _ cs cs' i y1 y2 j hj⟩, rfl⟩, trivial⟩ (by rw [hC]; exact Nat.zero_le _)
      conv => cbv
      cases hP : ieq c 22
      rotate_left
      · conv => cbv
        simp (disch := first | omega | (simp only [hS.glob, wraps, plain, Int.ofNat_eq_natCast]; omega)) only [hS.glob, wraps, plain, Int.ofNat_eq_natCast] at hP
        rw [hVV]
        clear hVV hVA VV VA hW W hB
        subst hP
        have hT := told_close base (oddsOf ln l i) (R i)
        have hne := close_ne (hG i)
        rw [← hS1, ← hM] at hT
        obtain rfl : beg = false := hbeg
        refine V.call rfl rfl rfl rfl rfl Try.func32 rfl (by decide) [0, 1] (by decide) (all_lt (by rfl)) (by (first | rfl | ((conv => cbv); (repeat' apply And.intro) <;> first | rfl | trivial | (first | rfl | omega | (simp (disch := omega) only [hS.glob, wraps, plain, Int.ofNat_eq_natCast]; first | done | rfl | omega | (simp; done) | (simp; omega)) | (simp (disch := omega) only [hS.glob, wraps, plain, Int.ofNat_eq_natCast, Vx.toN]; omega))))) (by rfl) (f32_ok k lv ov is o e v n1 n2 n3 n4 n5 n6 n7) ?_
        rintro r Hc ⟨rfl, k', lv', ov', is', o', e', v', rfl, hR⟩
        rw [← hR] at hT
        have nk : 0 < k' := by
          rcases Nat.eq_zero_or_pos k' with h | h
          · subst h
            rw [hM, close_strip] at hR
            have := congrArg Ms.st hR
            exact absurd this.symm hne
          · exact h
        have tt := topR_abs k' lv' ov' is' o' e' v' nk
        have ht := f33_ok k' lv' ov' is' o' e' v' nk _ _ _ rfl rfl rfl
        unfold topC at hT
        rw [tt] at hT
        simp only at hT
        generalize lv' (k' - 1) = LV at ht hT
        generalize ov' (k' - 1) = OV at ht hT
        generalize is' (k' - 1) = IS at ht
        refine V.pick [0, 4, 2, 3] (by decide) (by rw [hC]; exact begins_of rfl) (H' := lheap k' lv' ov' is' o' e' v' i xs cs) rfl rfl ?_
        refine V.go Try.func16 tl_ok mixed hS.ops [] 400 ?_
        intro VV VA W hVV hVA hW
        conv => cbv
        rw [hVV]
        clear hVV hVA VV VA hW W
        refine V.call rfl rfl rfl rfl rfl Try.func33 rfl (by decide) [0, 1] (by decide) (all_lt (by rfl)) (by (first | rfl | ((conv => cbv); (repeat' apply And.intro) <;> first | rfl | trivial | (first | rfl | omega | (simp (disch := omega) only [hS.glob, wraps, plain, Int.ofNat_eq_natCast]; first | done | rfl | omega | (simp; done) | (simp; omega)) | (simp (disch := omega) only [hS.glob, wraps, plain, Int.ofNat_eq_natCast, Vx.toN]; omega))))) (by rfl) ht ?_
        rintro r Hc ⟨rfl, rfl⟩
        refine V.go Try.func16 tl_ok mixed hS.ops [] 400 ?_
        intro VV VA W hVV hVA hW
        conv => cbv
        repeat (refine ⟨by first | (rw [hW]; show ordOk _ _ _ = true; kernel_rfl) | (first | trivial | omega | (simp (disch := omega) only [hS.glob, wraps, plain, Int.ofNat_eq_natCast]; first | done | omega | trivial | (simp; done) | (simp; omega) | (constructor <;> omega)) | (simp (disch := omega) only [hS.glob, wraps, plain, Int.ofNat_eq_natCast, Vx.toN]; omega)), ?_⟩)
        obtain ⟨xs', x1, x2⟩ := snocF xs i LV
        cases h5 : ine OV 13
        · conv => cbv
          simp (disch := first | omega | (simp only [hS.glob, wraps, plain, Int.ofNat_eq_natCast]; omega)) only [hS.glob, wraps, plain, Int.ofNat_eq_natCast] at h5
          rw [if_pos h5] at hT
          obtain ⟨cs', y1, y2⟩ := snocF cs i 22
          repeat (refine ⟨by first | (rw [hW]; show ordOk _ _ _ = true; kernel_rfl) | (first | trivial | omega | (simp (disch := omega) only [hS.glob, wraps, plain, Int.ofNat_eq_natCast]; first | done | omega | trivial | (simp; done) | (simp; omega) | (constructor <;> omega)) | (simp (disch := omega) only [hS.glob, wraps, plain, Int.ofNat_eq_natCast, Vx.toN]; omega)), ?_⟩)
          have hS' := hT.st.symm
          rw [hVV]
          clear hVV hVA VV VA hW W
          refine V.pick [0, 1, 6, 8] (by decide) (by rw [hC]; exact begins_of rfl) (by rfl) (by rfl) ?_
          exact V.to (hback ⟨i + 1, k', lv', ov', is', o', e', v', xs', cs'⟩ ⟨by simp only; omega, hS', by rw [hT.xs, ← hX]; exact tab_snoc rfl x1 x2, by rw [hT.cs, ← hY]; exact tab_snoc rfl y1 y2⟩ (by simp only; omega)) (by (repeat' first | exact trivial | rfl | (refine And.intro ?_ ?_) | (refine sti ?_; (first | rfl | omega | (simp (disch := omega) only [hS.glob, wraps, plain, Int.ofNat_eq_natCast]; first | done | rfl | omega | (simp; done) | (simp; omega)) | (simp (disch := omega) only [hS.glob, wraps, plain, Int.ofNat_eq_natCast, Vx.toN]; omega))) | (refine slq ?_ ?_ ?_ <;> (first | rfl | omega | (simp (disch := omega) only [hS.glob, wraps, plain, Int.ofNat_eq_natCast]; first | done | rfl | omega | (simp; done) | (simp; omega)) | (simp (disch := omega) only [hS.glob, wraps, plain, Int.ofNat_eq_natCast, Vx.toN]; omega))) | (refine ptq ?_ ?_ ?_ <;> (first | rfl | omega | (simp (disch := omega) only [hS.glob, wraps, plain, Int.ofNat_eq_natCast]; first | done | rfl | omega | (simp; done) | (simp; omega)) | (simp (disch := omega) only [hS.glob, wraps, plain, Int.ofNat_eq_natCast, Vx.toN]; omega))) | (refine blq ?_; (first | rfl | omega | (simp (disch := omega) only [hS.glob, wraps, plain, Int.ofNat_eq_natCast]; first | done | rfl | omega | (simp; done) | (simp; omega)) | (simp (disch := omega) only [hS.glob, wraps, plain, Int.ofNat_eq_natCast, Vx.toN]; omega))))) rfl ⟨⟨rfl, rfl, rfl, rfl⟩, ⟨rfl, rfl, ⟨Nat.le_refl _, fun _ _ => rfl⟩, rfl⟩, ⟨rfl, rfl, ⟨by show i + 1 ≤ addN i 1; (first | trivial | omega | (simp (disch := omega) only [hS.glob, wraps, plain, Int.ofNat_eq_natCast]; first | done | omega | trivial | (simp; done) | (simp; omega) | (constructor <;> omega)) | (simp (disch := omega) only [hS.glob, wraps, plain, Int.ofNat_eq_natCast, Vx.toN]; omega)), fun j hj => leaf (addN := Vx.addN) (by simp [hS.glob]) (by simp [hS.glob]) _ xs xs' i x1 x2 j hj⟩, rfl⟩, ⟨rfl, rfl, ⟨by show i + 1 ≤ addN i 1; (first | trivial | omega | (simp (disch := omega) only [hS.glob, wraps, plain, Int.ofNat_eq_natCast]; first | done | omega | trivial | (simp; done) | (simp; omega) | (constructor <;> omega)) | (simp (disch := omega) only [hS.glob, wraps, plain, Int.ofNat_eq_natCast, Vx.toN]; omega)), fun j hj => leaf (addN := Vx.addN) (by simp [hS.glob]) (by simp [hS.glob]) _ cs cs' i y1 y2 j hj⟩, rfl⟩, trivial⟩ (by rw [hC]; exact Nat.zero_le _)
        · conv => cbv
          simp (disch := first | omega | (simp only [hS.glob, wraps, plain, Int.ofNat_eq_natCast]; omega)) only [hS.glob, wraps, plain, Int.ofNat_eq_natCast] at h5
          rw [if_neg h5] at hT
          obtain ⟨cs', y1, y2⟩ := snocF cs i OV
          repeat (refine ⟨by first | (rw [hW]; show ordOk _ _ _ = true; kernel_rfl) | (first | trivial | omega | (simp (disch := omega) only [hS.glob, wraps, plain, Int.ofNat_eq_natCast]; first | done | omega | trivial | (simp; done) | (simp; omega) | (constructor <;> omega)) | (simp (disch := omega) only [hS.glob, wraps, plain, Int.ofNat_eq_natCast, Vx.toN]; omega)), ?_⟩)
          have hS' := hT.st.symm
          rw [hVV]
          clear hVV hVA VV VA hW W
          refine V.pick [0, 1, 6, 8] (by decide) (by rw [hC]; exact begins_of rfl) (by rfl) (by rfl) ?_
          exact V.to (hback ⟨i + 1, k', lv', ov', is', o', e', v', xs', cs'⟩ ⟨by simp only; omega, hS', by rw [hT.xs, ← hX]; exact tab_snoc rfl x1 x2, by rw [hT.cs, ← hY]; exact tab_snoc rfl y1 y2⟩ (by simp only; omega)) (by (repeat' first | exact trivial | rfl | (refine And.intro ?_ ?_) | (refine sti ?_; (first | rfl | omega | (simp (disch := omega) only [hS.glob, wraps, plain, Int.ofNat_eq_natCast]; first | done | rfl | omega | (simp; done) | (simp; omega)) | (simp (disch := omega) only [hS.glob, wraps, plain, Int.ofNat_eq_natCast, Vx.toN]; omega))) | (refine slq ?_ ?_ ?_ <;> (first | rfl | omega | (simp (disch := omega) only [hS.glob, wraps, plain, Int.ofNat_eq_natCast]; first | done | rfl | omega | (simp; done) | (simp; omega)) | (simp (disch := omega) only [hS.glob, wraps, plain, Int.ofNat_eq_natCast, Vx.toN]; omega))) | (refine ptq ?_ ?_ ?_ <;> (first | rfl | omega | (simp (disch := omega) only [hS.glob, wraps, plain, Int.ofNat_eq_natCast]; first | done | rfl | omega | (simp; done) | (simp; omega)) | (simp (disch := omega) only [hS.glob, wraps, plain, Int.ofNat_eq_natCast, Vx.toN]; omega))) | (refine blq ?_; (first | rfl | omega | (simp (disch := omega) only [hS.glob, wraps, plain, Int.ofNat_eq_natCast]; first | done | rfl | omega | (simp; done) | (simp; omega)) | (simp (disch := omega) only [hS.glob, wraps, plain, Int.ofNat_eq_natCast, Vx.toN]; omega))))) rfl ⟨⟨rfl, rfl, rfl, rfl⟩, ⟨rfl, rfl, ⟨Nat.le_refl _, fun _ _ => rfl⟩, rfl⟩, ⟨rfl, rfl, ⟨by show i + 1 ≤ addN i 1; (first | trivial | omega | (simp (disch := omega) only [hS.glob, wraps, plain, Int.ofNat_eq_natCast]; first | done | omega | trivial | (simp; done) | (simp; omega) | (constructor <;> omega)) | (simp (disch := omega) only [hS.glob, wraps, plain, Int.ofNat_eq_natCast, Vx.toN]; omega)), fun j hj => leaf (addN := Vx.addN) (by simp [hS.glob]) (by simp [hS.glob]) _ xs xs' i x1 x2 j hj⟩, rfl⟩, ⟨rfl, rfl, ⟨by show i + 1 ≤ addN i 1; (first | trivial | omega | (simp (disch := omega) only [hS.glob, wraps, plain, Int.ofNat_eq_natCast]; first | done | omega | trivial | (simp; done) | (simp; omega) | (constructor <;> omega)) | (simp (disch := omega) only [hS.glob, wraps, plain, Int.ofNat_eq_natCast, Vx.toN]; omega)), fun j hj => leaf (addN := Vx.addN) (by simp [hS.glob]) (by simp [hS.glob]) _ cs cs' i y1 y2 j hj⟩, rfl⟩, trivial⟩ (by rw [hC]; exact Nat.zero_le _)
      conv => cbv
      simp (disch := first | omega | (simp only [hS.glob, wraps, plain, Int.ofNat_eq_natCast]; omega)) only [hS.glob, wraps, plain, Int.ofNat_eq_natCast] at hB hP
      have tt := topR_abs k lv ov is o e v n1
      have ht := f33_ok k lv ov is o e v n1 _ _ _ rfl rfl rfl
      rw [hVV]
      clear hVV hVA VV VA hW W
      cases beg
      · have hT := told_plain base (oddsOf ln l i) c (R i) hrem.symm hbeg.symm hB hP
        rw [← hS1, ← hM] at hT
        unfold topC at hT
        rw [tt] at hT
        simp only at hT
        generalize lv (k - 1) = LV at ht hT
        generalize ov (k - 1) = OV at ht hT
        generalize is (k - 1) = IS at ht
        refine V.call rfl rfl rfl rfl rfl Try.func33 rfl (by decide) [0, 1] (by decide) (all_lt (by rfl)) (by (first | rfl | ((conv => cbv); (repeat' apply And.intro) <;> first | rfl | trivial | (first | rfl | omega | (simp (disch := omega) only [hS.glob, wraps, plain, Int.ofNat_eq_natCast]; first | done | rfl | omega | (simp; done) | (simp; omega)) | (simp (disch := omega) only [hS.glob, wraps, plain, Int.ofNat_eq_natCast, Vx.toN]; omega))))) (by rfl) ht ?_
        rintro r Hc ⟨rfl, rfl⟩
        refine V.go Try.func16 tl_ok mixed hS.ops [] 400 ?_
        intro VV VA W hVV hVA hW
        conv => cbv
        repeat (refine ⟨by first | (rw [hW]; show ordOk _ _ _ = true; kernel_rfl) | (first | trivial | omega | (simp (disch := omega) only [hS.glob, wraps, plain, Int.ofNat_eq_natCast]; first | done | omega | trivial | (simp; done) | (simp; omega) | (constructor <;> omega)) | (simp (disch := omega) only [hS.glob, wraps, plain, Int.ofNat_eq_natCast, Vx.toN]; omega)), ?_⟩)
        obtain ⟨xs', x1, x2⟩ := snocF xs i LV
        cases h5 : ine OV 13
        · conv => cbv
          simp (disch := first | omega | (simp only [hS.glob, wraps, plain, Int.ofNat_eq_natCast]; omega)) only [hS.glob, wraps, plain, Int.ofNat_eq_natCast] at h5
          rw [if_pos h5] at hT
          obtain ⟨cs', y1, y2⟩ := snocF cs i c
          repeat (refine ⟨by first | (rw [hW]; show ordOk _ _ _ = true; kernel_rfl) | (first | trivial | omega | (simp (disch := omega) only [hS.glob, wraps, plain, Int.ofNat_eq_natCast]; first | done | omega | trivial | (simp; done) | (simp; omega) | (constructor <;> omega)) | (simp (disch := omega) only [hS.glob, wraps, plain, Int.ofNat_eq_natCast, Vx.toN]; omega)), ?_⟩)
          rw [hVV]
          clear hVV hVA VV VA hW W
          refine V.pick [0, 1, 6, 8] (by decide) (by rw [hC]; exact begins_of rfl) (by rfl) (by rfl) ?_
          exact V.to (hback ⟨i + 1, k, lv, ov, is, o, e, v, xs', cs'⟩ ⟨by simp only; omega, hT.st.symm, by rw [hT.xs, ← hX]; exact tab_snoc rfl x1 x2, by rw [hT.cs, ← hY]; exact tab_snoc rfl y1 y2⟩ (by simp only; omega)) (by (repeat' first | exact trivial | rfl | (refine And.intro ?_ ?_) | (refine sti ?_; (first | rfl | omega | (simp (disch := omega) only [hS.glob, wraps, plain, Int.ofNat_eq_natCast]; first | done | rfl | omega | (simp; done) | (simp; omega)) | (simp (disch := omega) only [hS.glob, wraps, plain, Int.ofNat_eq_natCast, Vx.toN]; omega))) | (refine slq ?_ ?_ ?_ <;> (first | rfl | omega | (simp (disch := omega) only [hS.glob, wraps, plain, Int.ofNat_eq_natCast]; first | done | rfl | omega | (simp; done) | (simp; omega)) | (simp (disch := omega) only [hS.glob, wraps, plain, Int.ofNat_eq_natCast, Vx.toN]; omega))) | (refine ptq ?_ ?_ ?_ <;> (first | rfl | omega | (simp (disch := omega) only [hS.glob, wraps, plain, Int.ofNat_eq_natCast]; first | done | rfl | omega | (simp; done) | (simp; omega)) | (simp (disch := omega) only [hS.glob, wraps, plain, Int.ofNat_eq_natCast, Vx.toN]; omega))) | (refine blq ?_; (first | rfl | omega | (simp (disch := omega) only [hS.glob, wraps, plain, Int.ofNat_eq_natCast]; first | done | rfl | omega | (simp; done) | (simp; omega)) | (simp (disch := omega) only [hS.glob, wraps, plain, Int.ofNat_eq_natCast, Vx.toN]; omega))))) rfl ⟨⟨rfl, rfl, rfl, rfl⟩, ⟨rfl, rfl, ⟨Nat.le_refl _, fun _ _ => rfl⟩, rfl⟩, ⟨rfl, rfl, ⟨by show i + 1 ≤ addN i 1; (first | trivial | omega | (simp (disch := omega) only [hS.glob, wraps, plain, Int.ofNat_eq_natCast]; first | done | omega | trivial | (simp; done) | (simp; omega) | (constructor <;> omega)) | (simp (disch := omega) only [hS.glob, wraps, plain, Int.ofNat_eq_natCast, Vx.toN]; omega)), fun j hj => leaf (addN := Vx.addN) (by simp [hS.glob]) (by simp [hS.glob]) _ xs xs' i x1 x2 j hj⟩, rfl⟩, ⟨rfl, rfl, ⟨by show i + 1 ≤ addN i 1; (first | trivial | omega | (simp (disch := omega) only [hS.glob, wraps, plain, Int.ofNat_eq_natCast]; first | done | omega | trivial | (simp; done) | (simp; omega) | (constructor <;> omega)) | (simp (disch := omega) only [hS.glob, wraps, plain, Int.ofNat_eq_natCast, Vx.toN]; omega)), fun j hj => leaf (addN := Vx.addN) (by simp [hS.glob]) (by simp [hS.glob]) _ cs cs' i y1 y2 j hj⟩, rfl⟩, trivial⟩ (by rw [hC]; exact Nat.zero_le _)
        · conv => cbv
          simp (disch := first | omega | (simp only [hS.glob, wraps, plain, Int.ofNat_eq_natCast]; omega)) only [hS.glob, wraps, plain, Int.ofNat_eq_natCast] at h5
          rw [if_neg h5] at hT
          obtain ⟨cs', y1, y2⟩ := snocF cs i OV
          repeat (refine ⟨by first | (rw [hW]; show ordOk _ _ _ = true; kernel_rfl) | (first | trivial | omega | (simp (disch := omega) only [hS.glob, wraps, plain, Int.ofNat_eq_natCast]; first | done | omega | trivial | (simp; done) | (simp; omega) | (constructor <;> omega)) | (simp (disch := omega) only [hS.glob, wraps, plain, Int.ofNat_eq_natCast, Vx.toN]; omega)), ?_⟩)
          rw [hVV]
          clear hVV hVA VV VA hW W
          refine V.pick [0, 1, 6, 8] (by decide) (by rw [hC]; exact begins_of rfl) (by rfl) (by rfl) ?_
          exact V.to (hback ⟨i + 1, k, lv, ov, is, o, e, v, xs', cs'⟩ ⟨by simp only; omega, hT.st.symm, by rw [hT.xs, ← hX]; exact tab_snoc rfl x1 x2, by rw [hT.cs, ← hY]; exact tab_snoc rfl y1 y2⟩ (by simp only; omega)) (by (repeat' first | exact trivial | rfl | (refine And.intro ?_ ?_) | (refine sti ?_; (first | rfl | omega | (simp (disch := omega) only [hS.glob, wraps, plain, Int.ofNat_eq_natCast]; first | done | rfl | omega | (simp; done) | (simp; omega)) | (simp (disch := omega) only [hS.glob, wraps, plain, Int.ofNat_eq_natCast, Vx.toN]; omega))) | (refine slq ?_ ?_ ?_ <;> (first | rfl | omega | (simp (disch := omega) only [hS.glob, wraps, plain, Int.ofNat_eq_natCast]; first | done | rfl | omega | (simp; done) | (simp; omega)) | (simp (disch := omega) only [hS.glob, wraps, plain, Int.ofNat_eq_natCast, Vx.toN]; omega))) | (refine ptq ?_ ?_ ?_ <;> (first | rfl | omega | (simp (disch := omega) only [hS.glob, wraps, plain, Int.ofNat_eq_natCast]; first | done | rfl | omega | (simp; done) | (simp; omega)) | (simp (disch := omega) only [hS.glob, wraps, plain, Int.ofNat_eq_natCast, Vx.toN]; omega))) | (refine blq ?_; (first | rfl | omega | (simp (disch := omega) only [hS.glob, wraps, plain, Int.ofNat_eq_natCast]; first | done | rfl | omega | (simp; done) | (simp; omega)) | (simp (disch := omega) only [hS.glob, wraps, plain, Int.ofNat_eq_natCast, Vx.toN]; omega))))) rfl ⟨⟨rfl, rfl, rfl, rfl⟩, ⟨rfl, rfl, ⟨Nat.le_refl _, fun _ _ => rfl⟩, rfl⟩, ⟨rfl, rfl, ⟨by show i + 1 ≤ addN i 1; (first | trivial | omega | (simp (disch := omega) only [hS.glob, wraps, plain, Int.ofNat_eq_natCast]; first | done | omega | trivial | (simp; done) | (simp; omega) | (constructor <;> omega)) | (simp (disch := omega) only [hS.glob, wraps, plain, Int.ofNat_eq_natCast, Vx.toN]; omega)), fun j hj => leaf (addN := Vx.addN) (by simp [hS.glob]) (by simp [hS.glob]) _ xs xs' i x1 x2 j hj⟩, rfl⟩, ⟨rfl, rfl, ⟨by show i + 1 ≤ addN i 1; (first | trivial | omega | (simp (disch := omega) only [hS.glob, wraps, plain, Int.ofNat_eq_natCast]; first | done | omega | trivial | (simp; done) | (simp; omega) | (constructor <;> omega)) | (simp (disch := omega) only [hS.glob, wraps, plain, Int.ofNat_eq_natCast, Vx.toN]; omega)), fun j hj => leaf (addN := Vx.addN) (by simp [hS.glob]) (by simp [hS.glob]) _ cs cs' i y1 y2 j hj⟩, rfl⟩, trivial⟩ (by rw [hC]; exact Nat.zero_le _)
      · have hT := told_iso base (oddsOf ln l i) c (R i) hbeg.symm
        rw [← hS1, ← hM] at hT
        unfold topC at hT
        rw [tt] at hT
        simp only at hT
        obtain ⟨odd, hodd⟩ : ∃ odd, odd = oddsOf ln l i := ⟨_, rfl⟩
        rw [← hodd] at hT
        have ho01 : 0 ≤ odd ∧ odd ≤ 1 := by rw [hodd]; exact oddI_01 _ _ _ _
        have h35 := f35_ok k lv ov is o e v n1 n2 n3 n4 n5 n6 odd ho01
        obtain ⟨to, hto⟩ : ∃ to, to = toI ln (mrun l ln).2 i := ⟨_, rfl⟩
        have hlt : i < ln := by omega
        have hto2 : (to : Int) = if endOf ln l i = -1 then (ln : Int) else endOf ln l i := by
          have h6 := match_eq ln l i hlt
          have h7 := endOf_range ln l i hlt
          rw [hto, toI, h6]
          split <;> omega
        obtain ⟨n, hn⟩ : ∃ n, n = to - (i + 1) := ⟨_, rfl⟩
        obtain ⟨A, hA⟩ : ∃ A : Nat → Int, ∀ j, A j = l (i + 1 + j) := ⟨_, fun _ => rfl⟩
        have hsb := strong_between ln l i hlt n (by rw [hn, hto]) A hA
        obtain ⟨sg, hsg⟩ : ∃ sg, sgo A (endOf n A) n n 0 = sg := ⟨_, rfl⟩
        have hodd2 : odd = if c = 20 ∨ (c = 21 ∧ sg = 1) then 1 else 0 := by
          rw [hodd, hc, ← hsg, hsb]; rfl
        have h14 := f14_ok n A sg hsg
        have h34 := fun hz => f34_ok ln l (by omega) i hlt (ofN i) hz to hto2 n hn A hA
        clear hsb hsg hto hto2 hodd hn
        clear n3
        generalize lv (k - 1) = LV at ht hT
        generalize ov (k - 1) = OV at ht hT
        generalize is (k - 1) = IS at ht
        refine V.call rfl rfl rfl rfl rfl Try.func33 rfl (by decide) [0, 1] (by decide) (all_lt (by rfl)) (by (first | rfl | ((conv => cbv); (repeat' apply And.intro) <;> first | rfl | trivial | (first | rfl | omega | (simp (disch := omega) only [hS.glob, wraps, plain, Int.ofNat_eq_natCast]; first | done | rfl | omega | (simp; done) | (simp; omega)) | (simp (disch := omega) only [hS.glob, wraps, plain, Int.ofNat_eq_natCast, Vx.toN]; omega))))) (by rfl) ht ?_
        rintro r Hc ⟨rfl, rfl⟩
        refine V.go Try.func16 tl_ok mixed hS.ops [] 400 ?_
        intro VV VA W hVV hVA hW
        conv => cbv
        repeat (refine ⟨by first | (rw [hW]; show ordOk _ _ _ = true; kernel_rfl) | (first | trivial | omega | (simp (disch := omega) only [hS.glob, wraps, plain, Int.ofNat_eq_natCast]; first | done | omega | trivial | (simp; done) | (simp; omega) | (constructor <;> omega)) | (simp (disch := omega) only [hS.glob, wraps, plain, Int.ofNat_eq_natCast, Vx.toN]; omega)), ?_⟩)
        obtain ⟨xs', x1, x2⟩ := snocF xs i LV
        cases h5 : ine OV 13
        · conv => cbv
          simp (disch := first | omega | (simp only [hS.glob, wraps, plain, Int.ofNat_eq_natCast]; omega)) only [hS.glob, wraps, plain, Int.ofNat_eq_natCast] at h5
          rw [if_pos h5] at hT
          obtain ⟨cs', y1, y2⟩ := snocF cs i c
          repeat (refine ⟨by first | (rw [hW]; show ordOk _ _ _ = true; kernel_rfl) | (first | trivial | omega | (simp (disch := omega) only [hS.glob, wraps, plain, Int.ofNat_eq_natCast]; first | done | omega | trivial | (simp; done) | (simp; omega) | (constructor <;> omega)) | (simp (disch := omega) only [hS.glob, wraps, plain, Int.ofNat_eq_natCast, Vx.toN]; omega)), ?_⟩)
          cases g1 : ieq c 20
          · conv => cbv
            cases g2 : ieq c 21
            · conv => cbv
              simp (disch := first | omega | (simp only [hS.glob, wraps, plain, Int.ofNat_eq_natCast]; omega)) only [hS.glob, wraps, plain, Int.ofNat_eq_natCast] at g1 g2
              obtain rfl : odd = 0 := by rw [hodd2, if_neg (by omega)]
              rw [hVV]
              clear hVV hVA VV VA hW W
              refine V.call rfl rfl rfl rfl rfl Try.func35 rfl (by decide) [0, 1] (by decide) (all_lt (by rfl)) (by (first | rfl | ((conv => cbv); (repeat' apply And.intro) <;> first | rfl | trivial | (first | rfl | omega | (simp (disch := omega) only [hS.glob, wraps, plain, Int.ofNat_eq_natCast]; first | done | rfl | omega | (simp; done) | (simp; omega)) | (simp (disch := omega) only [hS.glob, wraps, plain, Int.ofNat_eq_natCast, Vx.toN]; omega))))) (by rfl) h35 ?_
              rintro r Hc ⟨rfl, k', lv', ov', is', o', e', v', rfl, hR⟩
              refine V.go Try.func16 tl_ok mixed hS.ops [] 400 ?_
              intro VV VA W hVV hVA hW
              conv => cbv
              rw [hVV]
              clear hVV hVA VV VA hW W
              have hS' := hR.trans hT.st.symm
              refine V.pick [0, 9, 6, 8] (by decide) (by rw [hC]; exact begins_of rfl) (by rfl) (by rfl) ?_
              exact V.to (hback ⟨i + 1, k', lv', ov', is', o', e', v', xs', cs'⟩ ⟨by simp only; omega, hS', by rw [hT.xs, ← hX]; exact tab_snoc rfl x1 x2, by rw [hT.cs, ← hY]; exact tab_snoc rfl y1 y2⟩ (by simp only; omega)) (by (repeat' first | exact trivial | rfl | (refine And.intro ?_ ?_) | (refine sti ?_; (first | rfl | omega | (simp (disch := omega) only [hS.glob, wraps, plain, Int.ofNat_eq_natCast]; first | done | rfl | omega | (simp; done) | (simp; omega)) | (simp (disch := omega) only [hS.glob, wraps, plain, Int.ofNat_eq_natCast, Vx.toN]; omega))) | (refine slq ?_ ?_ ?_ <;> (first | rfl | omega | (simp (disch := omega) only [hS.glob, wraps, plain, Int.ofNat_eq_natCast]; first | done | rfl | omega | (simp; done) | (simp; omega)) | (simp (disch := omega) only [hS.glob, wraps, plain, Int.ofNat_eq_natCast, Vx.toN]; omega))) | (refine ptq ?_ ?_ ?_ <;> (first | rfl | omega | (simp (disch := omega) only [hS.glob, wraps, plain, Int.ofNat_eq_natCast]; first | done | rfl | omega | (simp; done) | (simp; omega)) | (simp (disch := omega) only [hS.glob, wraps, plain, Int.ofNat_eq_natCast, Vx.toN]; omega))) | (refine blq ?_; (first | rfl | omega | (simp (disch := omega) only [hS.glob, wraps, plain, Int.ofNat_eq_natCast]; first | done | rfl | omega | (simp; done) | (simp; omega)) | (simp (disch := omega) only [hS.glob, wraps, plain, Int.ofNat_eq_natCast, Vx.toN]; omega))))) rfl ⟨⟨rfl, rfl, rfl, rfl⟩, ⟨rfl, rfl, ⟨Nat.le_refl _, fun _ _ => rfl⟩, rfl⟩, ⟨rfl, rfl, ⟨by show i + 1 ≤ addN i 1; (first | trivial | omega | (simp (disch := omega) only [hS.glob, wraps, plain, Int.ofNat_eq_natCast]; first | done | omega | trivial | (simp; done) | (simp; omega) | (constructor <;> omega)) | (simp (disch := omega) only [hS.glob, wraps, plain, Int.ofNat_eq_natCast, Vx.toN]; omega)), fun j hj => leaf (addN := Vx.addN) (by simp [hS.glob]) (by simp [hS.glob]) _ xs xs' i x1 x2 j hj⟩, rfl⟩, ⟨rfl, rfl, ⟨by show i + 1 ≤ addN i 1; (first | trivial | omega | (simp (disch := omega) only [hS.glob, wraps, plain, Int.ofNat_eq_natCast]; first | done | omega | trivial | (simp; done) | (simp; omega) | (constructor <;> omega)) | (simp (disch := omega) only [hS.glob, wraps, plain, Int.ofNat_eq_natCast, Vx.toN]; omega)), fun j hj => leaf (addN := Vx.addN) (by simp [hS.glob]) (by simp [hS.glob]) _ cs cs' i y1 y2 j hj⟩, rfl⟩, trivial⟩ (by rw [hC]; exact Nat.zero_le _)
            · conv => cbv
              simp (disch := first | omega | (simp only [hS.glob, wraps, plain, Int.ofNat_eq_natCast]; omega)) only [hS.glob, wraps, plain, Int.ofNat_eq_natCast] at g1 g2
              rw [hVV]
              clear hVV hVA VV VA hW W
              refine V.call rfl rfl rfl rfl rfl Try.func34 rfl (by decide) [] (by simp) (by simp) (by (first | rfl | ((conv => cbv); (repeat' apply And.intro) <;> first | rfl | trivial | (first | rfl | omega | (simp (disch := omega) only [hS.glob, wraps, plain, Int.ofNat_eq_natCast]; first | done | rfl | omega | (simp; done) | (simp; omega)) | (simp (disch := omega) only [hS.glob, wraps, plain, Int.ofNat_eq_natCast, Vx.toN]; omega))))) rfl (h34 (by simp (disch := first | omega | (simp only [hS.glob, wraps, plain, Int.ofNat_eq_natCast]; omega)) only [hS.glob, wraps, plain, Int.ofNat_eq_natCast])) ?_
              rintro r Hc ⟨rfl, rfl⟩
              refine V.go Try.func16 tl_ok mixed hS.ops [] 400 ?_
              intro VV VA W hVV hVA hW
              conv => cbv
              rw [hVV]
              clear hVV hVA VV VA hW W
              refine V.call rfl rfl rfl rfl rfl Try.func14 rfl (by decide) [] (by simp) (by simp) (by (first | rfl | ((conv => cbv); (repeat' apply And.intro) <;> first | rfl | trivial | (first | rfl | omega | (simp (disch := omega) only [hS.glob, wraps, plain, Int.ofNat_eq_natCast]; first | done | rfl | omega | (simp; done) | (simp; omega)) | (simp (disch := omega) only [hS.glob, wraps, plain, Int.ofNat_eq_natCast, Vx.toN]; omega))))) rfl h14 ?_
              rintro r Hc ⟨rfl, rfl⟩
              refine V.go Try.func16 tl_ok mixed hS.ops [] 400 ?_
              intro VV VA W hVV hVA hW
              conv => cbv
              cases g3 : ieq sg 1
              · conv => cbv
                simp (disch := first | omega | (simp only [hS.glob, wraps, plain, Int.ofNat_eq_natCast]; omega)) only [hS.glob, wraps, plain, Int.ofNat_eq_natCast] at g3
                obtain rfl : odd = 0 := by rw [hodd2, if_neg (by omega)]
                rw [hVV]
                clear hVV hVA VV VA hW W
                refine V.call rfl rfl rfl rfl rfl Try.func35 rfl (by decide) [0, 1] (by decide) (all_lt (by rfl)) (by (first | rfl | ((conv => cbv); (repeat' apply And.intro) <;> first | rfl | trivial | (first | rfl | omega | (simp (disch := omega) only [hS.glob, wraps, plain, Int.ofNat_eq_natCast]; first | done | rfl | omega | (simp; done) | (simp; omega)) | (simp (disch := omega) only [hS.glob, wraps, plain, Int.ofNat_eq_natCast, Vx.toN]; omega))))) (by rfl) h35 ?_
                rintro r Hc ⟨rfl, k', lv', ov', is', o', e', v', rfl, hR⟩
                refine V.go Try.func16 tl_ok mixed hS.ops [] 400 ?_
                intro VV VA W hVV hVA hW
                conv => cbv
                rw [hVV]
                clear hVV hVA VV VA hW W
                have hS' := hR.trans hT.st.symm
                refine V.pick [0, 9, 6, 8] (by decide) (by rw [hC]; exact begins_of rfl) (by rfl) (by rfl) ?_
                exact V.to (hback ⟨i + 1, k', lv', ov', is', o', e', v', xs', cs'⟩ ⟨by simp only; omega, hS', by rw [hT.xs, ← hX]; exact tab_snoc rfl x1 x2, by rw [hT.cs, ← hY]; exact tab_snoc rfl y1 y2⟩ (by simp only; omega)) (by (repeat' first | exact trivial | rfl | (refine And.intro ?_ ?_) | (refine sti ?_; (first | rfl | omega | (simp (disch := omega) only [hS.glob, wraps, plain, Int.ofNat_eq_natCast]; first | done | rfl | omega | (simp; done) | (simp; omega)) | (simp (disch := omega) only [hS.glob, wraps, plain, Int.ofNat_eq_natCast, Vx.toN]; omega))) | (refine slq ?_ ?_ ?_ <;> (first | rfl | omega | (simp (disch := omega) only [hS.glob, wraps, plain, Int.ofNat_eq_natCast]; first | done | rfl | omega | (simp; done) | (simp; omega)) | (simp (disch := omega) only [hS.glob, wraps, plain, Int.ofNat_eq_natCast, Vx.toN]; omega))) | (refine ptq ?_ ?_ ?_ <;> (first | rfl | omega | (simp (disch := omega) only [hS.glob, wraps, plain, Int.ofNat_eq_natCast]; first | done | rfl | omega | (simp; done) | (simp; omega)) | (simp (disch := omega) only [hS.glob, wraps, plain, Int.ofNat_eq_natCast, Vx.toN]; omega))) | (refine blq ?_; (first | rfl | omega | (simp (disch := omega) only [hS.glob, wraps, plain, Int.ofNat_eq_natCast]; first | done | rfl | omega | (simp; done) | (simp; omega)) | (simp (disch := omega) only [hS.glob, wraps, plain, Int.ofNat_eq_natCast, Vx.toN]; omega))))) rfl ⟨⟨rfl, rfl, rfl, rfl⟩, ⟨rfl, rfl, ⟨Nat.le_refl _, fun _ _ => rfl⟩, rfl⟩, ⟨rfl, rfl, ⟨by show i + 1 ≤ addN i 1; (first | trivial | omega | (simp (disch := omega) only [hS.glob, wraps, plain, Int.ofNat_eq_natCast]; first | done | omega | trivial | (simp; done) | (simp; omega) | (constructor <;> omega)) | (simp (disch := omega) only [hS.glob, wraps, plain, Int.ofNat_eq_natCast, Vx.toN]; omega)), fun j hj => leaf (addN := Vx.addN) (by simp [hS.glob]) (by simp [hS.glob]) _ xs xs' i x1 x2 j hj⟩, rfl⟩, ⟨rfl, rfl, ⟨by show i + 1 ≤ addN i 1; (first | trivial | omega | (simp (disch := omega) only [hS.glob, wraps, plain, Int.ofNat_eq_natCast]; first | done | omega | trivial | (simp; done) | (simp; omega) | (constructor <;> omega)) | (simp (disch := omega) only [hS.glob, wraps, plain, Int.ofNat_eq_natCast, Vx.toN]; omega)), fun j hj => leaf (addN := Vx.addN) (by simp [hS.glob]) (by simp [hS.glob]) _ cs cs' i y1 y2 j hj⟩, rfl⟩, trivial⟩ (by rw [hC]; exact Nat.zero_le _)
              · conv => cbv
                simp (disch := first | omega | (simp only [hS.glob, wraps, plain, Int.ofNat_eq_natCast]; omega)) only [hS.glob, wraps, plain, Int.ofNat_eq_natCast] at g3
                obtain rfl : odd = 1 := by rw [hodd2, if_pos (by omega)]
                rw [hVV]
                clear hVV hVA VV VA hW W
                refine V.call rfl rfl rfl rfl rfl Try.func35 rfl (by decide) [0, 1] (by decide) (all_lt (by rfl)) (by (first | rfl | ((conv => cbv); (repeat' apply And.intro) <;> first | rfl | trivial | (first | rfl | omega | (simp (disch := omega) only [hS.glob, wraps, plain, Int.ofNat_eq_natCast]; first | done | rfl | omega | (simp; done) | (simp; omega)) | (simp (disch := omega) only [hS.glob, wraps, plain, Int.ofNat_eq_natCast, Vx.toN]; omega))))) (by rfl) h35 ?_
                rintro r Hc ⟨rfl, k', lv', ov', is', o', e', v', rfl, hR⟩
                refine V.go Try.func16 tl_ok mixed hS.ops [] 400 ?_
                intro VV VA W hVV hVA hW
                conv => cbv
                rw [hVV]
                clear hVV hVA VV VA hW W
                have hS' := hR.trans hT.st.symm
                refine V.pick [0, 9, 6, 8] (by decide) (by rw [hC]; exact begins_of rfl) (by rfl) (by rfl) ?_
                exact V.to (hback ⟨i + 1, k', lv', ov', is', o', e', v', xs', cs'⟩ ⟨by simp only; omega, hS', by rw [hT.xs, ← hX]; exact tab_snoc rfl x1 x2, by rw [hT.cs, ← hY]; exact tab_snoc rfl y1 y2⟩ (by simp only; omega)) (by (repeat' first | exact trivial | rfl | (refine And.intro ?_ ?_) | (refine sti ?_; (first | rfl | omega | (simp (disch := omega) only [hS.glob, wraps, plain, Int.ofNat_eq_natCast]; first | done | rfl | omega | (simp; done) | (simp; omega)) | (simp (disch := omega) only [hS.glob, wraps, plain, Int.ofNat_eq_natCast, Vx.toN]; omega))) | (refine slq ?_ ?_ ?_ <;> (first | rfl | omega | (simp (disch := omega) only [hS.glob, wraps, plain, Int.ofNat_eq_natCast]; first | done | rfl | omega | (simp; done) | (simp; omega)) | (simp (disch := omega) only [hS.glob, wraps, plain, Int.ofNat_eq_natCast, Vx.toN]; omega))) | (refine ptq ?_ ?_ ?_ <;> (first | rfl | omega | (simp (disch := omega) only [hS.glob, wraps, plain, Int.ofNat_eq_natCast]; first | done | rfl | omega | (simp; done) | (simp; omega)) | (simp (disch := omega) only [hS.glob, wraps, plain, Int.ofNat_eq_natCast, Vx.toN]; omega))) | (refine blq ?_; (first | rfl | omega | (simp (disch := omega) only [hS.glob, wraps, plain, Int.ofNat_eq_natCast]; first | done | rfl | omega | (simp; done) | (simp; omega)) | (simp (disch := omega) only [hS.glob, wraps, plain, Int.ofNat_eq_natCast, Vx.toN]; omega))))) rfl ⟨⟨rfl, rfl, rfl, rfl⟩, ⟨rfl, rfl, ⟨Nat.le_refl _, fun _ _ => rfl⟩, rfl⟩, ⟨rfl, rfl, ⟨by show i + 1 ≤ addN i 1; (first | trivial | omega | (simp (disch := omega) only [hS.glob, wraps, plain, Int.ofNat_eq_natCast]; first | done | omega | trivial | (simp; done) | (simp; omega) | (constructor <;> omega)) | (simp (disch := omega) only [hS.glob, wraps, plain, Int.ofNat_eq_natCast, Vx.toN]; omega)), fun j hj => leaf (addN := Vx.addN) (by simp [hS.glob]) (by simp [hS.glob]) _ xs xs' i x1 x2 j hj⟩, rfl⟩, ⟨rfl, rfl, ⟨by show i + 1 ≤ addN i 1; (first | trivial | omega | (simp (disch := omega) only [hS.glob, wraps, plain, Int.ofNat_eq_natCast]; first | done | omega | trivial | (simp; done) | (simp; omega) | (constructor <;> omega)) | (simp (disch := omega) only [hS.glob, wraps, plain, Int.ofNat_eq_natCast, Vx.toN]; omega)), fun j hj => leaf (addN := Vx.addN) (by simp [hS.glob]) (by simp [hS.glob]) _ cs cs' i y1 y2 j hj⟩, rfl⟩, trivial⟩ (by rw [hC]; exact Nat.zero_le _)
          · conv => cbv
            simp (disch := first | omega | (simp only [hS.glob, wraps, plain, Int.ofNat_eq_natCast]; omega)) only [hS.glob, wraps, plain, Int.ofNat_eq_natCast] at g1
            obtain rfl : odd = 1 := by rw [hodd2, if_pos (by omega)]
            rw [hVV]
            clear hVV hVA VV VA hW W
            refine V.call rfl rfl rfl rfl rfl Try.func35 rfl (by decide) [0, 1] (by decide) (all_lt (by rfl)) (by (first | rfl | ((conv => cbv); (repeat' apply And.intro) <;> first | rfl | trivial | (first | rfl | omega | (simp (disch := omega) only [hS.glob, wraps, plain, Int.ofNat_eq_natCast]; first | done | rfl | omega | (simp; done) | (simp; omega)) | (simp (disch := omega) only [hS.glob, wraps, plain, Int.ofNat_eq_natCast, Vx.toN]; omega))))) (by rfl) h35 ?_
            rintro r Hc ⟨rfl, k', lv', ov', is', o', e', v', rfl, hR⟩
            refine V.go Try.func16 tl_ok mixed hS.ops [] 400 ?_
            intro VV VA W hVV hVA hW
            conv => cbv
            rw [hVV]
            clear hVV hVA VV VA hW W
            have hS' := hR.trans hT.st.symm
            refine V.pick [0, 9, 6, 8] (by decide) (by rw [hC]; exact begins_of rfl) (by rfl) (by rfl) ?_
            exact V.to (hback ⟨i + 1, k', lv', ov', is', o', e', v', xs', cs'⟩ ⟨by simp only; omega, hS', by rw [hT.xs, ← hX]; exact tab_snoc rfl x1 x2, by rw [hT.cs, ← hY]; exact tab_snoc rfl y1 y2⟩ (by simp only; omega)) (by (repeat' first | exact trivial | rfl | (refine And.intro ?_ ?_) | (refine sti ?_; (first | rfl | omega | (simp (disch := omega) only [hS.glob, wraps, plain, Int.ofNat_eq_natCast]; first | done | rfl | omega | (simp; done) | (simp; omega)) | (simp (disch := omega) only [hS.glob, wraps, plain, Int.ofNat_eq_natCast, Vx.toN]; omega))) | (refine slq ?_ ?_ ?_ <;> (first | rfl | omega | (simp (disch := omega) only [hS.glob, wraps, plain, Int.ofNat_eq_natCast]; first | done | rfl | omega | (simp; done) | (simp; omega)) | (simp (disch := omega) only [hS.glob, wraps, plain, Int.ofNat_eq_natCast, Vx.toN]; omega))) | (refine ptq ?_ ?_ ?_ <;> (first | rfl | omega | (simp (disch := omega) only [hS.glob, wraps, plain, Int.ofNat_eq_natCast]; first | done | rfl | omega | (simp; done) | (simp; omega)) | (simp (disch := omega) only [hS.glob, wraps, plain, Int.ofNat_eq_natCast, Vx.toN]; omega))) | (refine blq ?_; (first | rfl | omega | (simp (disch := omega) only [hS.glob, wraps, plain, Int.ofNat_eq_natCast]; first | done | rfl | omega | (simp; done) | (simp; omega)) | (simp (disch := omega) only [hS.glob, wraps, plain, Int.ofNat_eq_natCast, Vx.toN]; omega))))) rfl ⟨⟨rfl, rfl, rfl, rfl⟩, ⟨rfl, rfl, ⟨Nat.le_refl _, fun _ _ => rfl⟩, rfl⟩, ⟨rfl, rfl, ⟨by show i + 1 ≤ addN i 1; (first | trivial | omega | (simp (disch := omega) only [hS.glob, wraps, plain, Int.ofNat_eq_natCast]; first | done | omega | trivial | (simp; done) | (simp; omega) | (constructor <;> omega)) | (simp (disch := omega) only [hS.glob, wraps, plain, Int.ofNat_eq_natCast, Vx.toN]; omega)), fun j hj => leaf (addN := Vx.addN) (by simp [hS.glob]) (by simp [hS.glob]) _ xs xs' i x1 x2 j hj⟩, rfl⟩, ⟨rfl, rfl, ⟨by show i + 1 ≤ addN i 1; (first | trivial | omega | (simp (disch := omega) only [hS.glob, wraps, plain, Int.ofNat_eq_natCast]; first | done | omega | trivial | (simp; done) | (simp; omega) | (constructor <;> omega)) | (simp (disch := omega) only [hS.glob, wraps, plain, Int.ofNat_eq_natCast, Vx.toN]; omega)), fun j hj => leaf (addN := Vx.addN) (by simp [hS.glob]) (by simp [hS.glob]) _ cs cs' i y1 y2 j hj⟩, rfl⟩, trivial⟩ (by rw [hC]; exact Nat.zero_le _)
        · conv => cbv
          simp (disch := first | omega | (simp only [hS.glob, wraps, plain, Int.ofNat_eq_natCast]; omega)) only [hS.glob, wraps, plain, Int.ofNat_eq_natCast] at h5
          rw [if_neg h5] at hT
          obtain ⟨cs', y1, y2⟩ := snocF cs i OV
          repeat (refine ⟨by first | (rw [hW]; show ordOk _ _ _ = true; kernel_rfl) | (first | trivial | omega | (simp (disch := omega) only [hS.glob, wraps, plain, Int.ofNat_eq_natCast]; first | done | omega | trivial | (simp; done) | (simp; omega) | (constructor <;> omega)) | (simp (disch := omega) only [hS.glob, wraps, plain, Int.ofNat_eq_natCast, Vx.toN]; omega)), ?_⟩)
          cases g1 : ieq c 20
          · conv => cbv
            cases g2 : ieq c 21
            · conv => cbv
              simp (disch := first | omega | (simp only [hS.glob, wraps, plain, Int.ofNat_eq_natCast]; omega)) only [hS.glob, wraps, plain, Int.ofNat_eq_natCast] at g1 g2
              obtain rfl : odd = 0 := by rw [hodd2, if_neg (by omega)]
              rw [hVV]
              clear hVV hVA VV VA hW W
              refine V.call rfl rfl rfl rfl rfl Try.func35 rfl (by decide) [0, 1] (by decide) (all_lt (by rfl)) (by (first | rfl | ((conv => cbv); (repeat' apply And.intro) <;> first | rfl | trivial | (first | rfl | omega | (simp (disch := omega) only [hS.glob, wraps, plain, Int.ofNat_eq_natCast]; first | done | rfl | omega | (simp; done) | (simp; omega)) | (simp (disch := omega) only [hS.glob, wraps, plain, Int.ofNat_eq_natCast, Vx.toN]; omega))))) (by rfl) h35 ?_
              rintro r Hc ⟨rfl, k', lv', ov', is', o', e', v', rfl, hR⟩
              refine V.go Try.func16 tl_ok mixed hS.ops [] 400 ?_
              intro VV VA W hVV hVA hW
              conv => cbv
              rw [hVV]
              clear hVV hVA VV VA hW W
              have hS' := hR.trans hT.st.symm
              refine V.pick [0, 9, 6, 8] (by decide) (by rw [hC]; exact begins_of rfl) (by rfl) (by rfl) ?_
              exact V.to (hback ⟨i + 1, k', lv', ov', is', o', e', v', xs', cs'⟩ ⟨by simp only; omega, hS', by rw [hT.xs, ← hX]; exact tab_snoc rfl x1 x2, by rw [hT.cs, ← hY]; exact tab_snoc rfl y1 y2⟩ (by simp only; omega)) (by (repeat' first | exact trivial | rfl | (refine And.intro ?_ ?_) | (refine sti ?_; (first | rfl | omega | (simp (disch := omega) only [hS.glob, wraps, plain, Int.ofNat_eq_natCast]; first | done | rfl | omega | (simp; done) | (simp; omega)) | (simp (disch := omega) only [hS.glob, wraps, plain, Int.ofNat_eq_natCast, Vx.toN]; omega))) | (refine slq ?_ ?_ ?_ <;> (first | rfl | omega | (simp (disch := omega) only [hS.glob, wraps, plain, Int.ofNat_eq_natCast]; first | done | rfl | omega | (simp; done) | (simp; omega)) | (simp (disch := omega) only [hS.glob, wraps, plain, Int.ofNat_eq_natCast, Vx.toN]; omega))) | (refine ptq ?_ ?_ ?_ <;> (first | rfl | omega | (simp (disch := omega) only [hS.glob, wraps, plain, Int.ofNat_eq_natCast]; first | done | rfl | omega | (simp; done) | (simp; omega)) | (simp (disch := omega) only [hS.glob, wraps, plain, Int.ofNat_eq_natCast, Vx.toN]; omega))) | (refine blq ?_; (first | rfl | omega | (simp (disch := omega) only [hS.glob, wraps, plain, Int.ofNat_eq_natCast]; first | done | rfl | omega | (simp; done) | (simp; omega)) | (simp (disch := omega) only [hS.glob, wraps, plain, Int.ofNat_eq_natCast, Vx.toN]; omega))))) rfl ⟨⟨rfl, rfl, rfl, rfl⟩, ⟨rfl, rfl, ⟨Nat.le_refl _, fun _ _ => rfl⟩, rfl⟩, ⟨rfl, rfl, ⟨by show i + 1 ≤ addN i 1; (first | trivial | omega | (simp (disch := omega) only [hS.glob, wraps, plain, Int.ofNat_eq_natCast]; first | done | omega | trivial | (simp; done) | (simp; omega) | (constructor <;> omega)) | (simp (disch := omega) only [hS.glob, wraps, plain, Int.ofNat_eq_natCast, Vx.toN]; omega)), fun j hj => leaf (addN := Vx.addN) (by simp [hS.glob]) (by simp [hS.glob]) _ xs xs' i x1 x2 j hj⟩, rfl⟩, ⟨rfl, rfl, ⟨by show i + 1 ≤ addN i 1; (first | trivial | omega | (simp (disch := omega) only [hS.glob, wraps, plain, Int.ofNat_eq_natCast]; first | done | omega | trivial | (simp; done) | (simp; omega) | (constructor <;> omega)) | (simp (disch := omega) only [hS.glob, wraps, plain, Int.ofNat_eq_natCast, Vx.toN]; omega)), fun j hj => leaf (addN := Vx.addN) (by simp [hS.glob]) (by simp [hS.glob]) _ cs cs' i y1 y2 j hj⟩, rfl⟩, trivial⟩ (by rw [hC]; exact Nat.zero_le _)
            · conv => cbv
              simp (disch := first | omega | (simp only [hS.glob, wraps, plain, Int.ofNat_eq_natCast]; omega)) only [hS.glob, wraps, plain, Int.ofNat_eq_natCast] at g1 g2
              rw [hVV]
              clear hVV hVA VV VA hW W
              refine V.call rfl rfl rfl rfl rfl Try.func34 rfl (by decide) [] (by simp) (by simp) (by (first | rfl | ((conv => cbv); (repeat' apply And.intro) <;> first | rfl | trivial | (first | rfl | omega | (simp (disch := omega) only [hS.glob, wraps, plain, Int.ofNat_eq_natCast]; first | done | rfl | omega | (simp; done) | (simp; omega)) | (simp (disch := omega) only [hS.glob, wraps, plain, Int.ofNat_eq_natCast, Vx.toN]; omega))))) rfl (h34 (by simp (disch := first | omega | (simp only [hS.glob, wraps, plain, Int.ofNat_eq_natCast]; omega)) only [hS.glob, wraps, plain, Int.ofNat_eq_natCast])) ?_
              rintro r Hc ⟨rfl, rfl⟩
              refine V.go Try.func16 tl_ok mixed hS.ops [] 400 ?_
              intro VV VA W hVV hVA hW
              conv => cbv
              rw [hVV]
              clear hVV hVA VV VA hW W
              refine V.call rfl rfl rfl rfl rfl Try.func14 rfl (by decide) [] (by simp) (by simp) (by (first | rfl | ((conv => cbv); (repeat' apply And.intro) <;> first | rfl | trivial | (first | rfl | omega | (simp (disch := omega) only [hS.glob, wraps, plain, Int.ofNat_eq_natCast]; first | done | rfl | omega | (simp; done) | (simp; omega)) | (simp (disch := omega) only [hS.glob, wraps, plain, Int.ofNat_eq_natCast, Vx.toN]; omega))))) rfl h14 ?_
              rintro r Hc ⟨rfl, rfl⟩
              refine V.go Try.func16 tl_ok mixed hS.ops [] 400 ?_
              intro VV VA W hVV hVA hW
              conv => cbv
              cases g3 : ieq sg 1
              · conv => cbv
                simp (disch := first | omega | (simp only [hS.glob, wraps, plain, Int.ofNat_eq_natCast]; omega)) only [hS.glob, wraps, plain, Int.ofNat_eq_natCast] at g3
                obtain rfl : odd = 0 := by rw [hodd2, if_neg (by omega)]
                rw [hVV]
                clear hVV hVA VV VA hW W
                refine V.call rfl rfl rfl rfl rfl Try.func35 rfl (by decide) [0, 1] (by decide) (all_lt (by rfl)) (by (first | rfl | ((conv => cbv); (repeat' apply And.intro) <;> first | rfl | trivial | (first | rfl | omega | (simp (disch := omega) only [hS.glob, wraps, plain, Int.ofNat_eq_natCast]; first | done | rfl | omega | (simp; done) | (simp; omega)) | (simp (disch := omega) only [hS.glob, wraps, plain, Int.ofNat_eq_natCast, Vx.toN]; omega))))) (by rfl) h35 ?_
                rintro r Hc ⟨rfl, k', lv', ov', is', o', e', v', rfl, hR⟩
                refine V.go Try.func16 tl_ok mixed hS.ops [] 400 ?_
                intro VV VA W hVV hVA hW
                conv => cbv
                rw [hVV]
                clear hVV hVA VV VA hW W
                have hS' := hR.trans hT.st.symm
                refine V.pick [0, 9, 6, 8] (by decide) (by rw [hC]; exact begins_of rfl) (by rfl) (by rfl) ?_
                exact V.to (hback ⟨i + 1, k', lv', ov', is', o', e', v', xs', cs'⟩ ⟨by simp only; omega, hS', by rw [hT.xs, ← hX]; exact tab_snoc rfl x1 x2, by rw [hT.cs, ← hY]; exact tab_snoc rfl y1 y2⟩ (by simp only; omega)) (by (repeat' first | exact trivial | rfl | (refine And.intro ?_ ?_) | (refine sti ?_; (first | rfl | omega | (simp (disch := omega) only [hS.glob, wraps, plain, Int.ofNat_eq_natCast]; first | done | rfl | omega | (simp; done) | (simp; omega)) | (simp (disch := omega) only [hS.glob, wraps, plain, Int.ofNat_eq_natCast, Vx.toN]; omega))) | (refine slq ?_ ?_ ?_ <;> (first | rfl | omega | (simp (disch := omega) only [hS.glob, wraps, plain, Int.ofNat_eq_natCast]; first | done | rfl | omega | (simp; done) | (simp; omega)) | (simp (disch := omega) only [hS.glob, wraps, plain, Int.ofNat_eq_natCast, Vx.toN]; omega))) | (refine ptq ?_ ?_ ?_ <;> (first | rfl | omega | (simp (disch := omega) only [hS.glob, wraps, plain, Int.ofNat_eq_natCast]; first | done | rfl | omega | (simp; done) | (simp; omega)) | (simp (disch := omega) only [hS.glob, wraps, plain, Int.ofNat_eq_natCast, Vx.toN]; omega))) | (refine blq ?_; (first | rfl | omega | (simp (disch := omega) only [hS.glob, wraps, plain, Int.ofNat_eq_natCast]; first | done | rfl | omega | (simp; done) | (simp; omega)) | (simp (disch := omega) only [hS.glob, wraps, plain, Int.ofNat_eq_natCast, Vx.toN]; omega))))) rfl ⟨⟨rfl, rfl, rfl, rfl⟩, ⟨rfl, rfl, ⟨Nat.le_refl _, fun _ _ => rfl⟩, rfl⟩, ⟨rfl, rfl, ⟨by show i + 1 ≤ addN i 1; (first | trivial | omega | (simp (disch := omega) only [hS.glob, wraps, plain, Int.ofNat_eq_natCast]; first | done | omega | trivial | (simp; done) | (simp; omega) | (constructor <;> omega)) | (simp (disch := omega) only [hS.glob, wraps, plain, Int.ofNat_eq_natCast, Vx.toN]; omega)), fun j hj => leaf (addN := Vx.addN) (by simp [hS.glob]) (by simp [hS.glob]) _ xs xs' i x1 x2 j hj⟩, rfl⟩, ⟨rfl, rfl, ⟨by show i + 1 ≤ addN i 1; (first | trivial | omega | (simp (disch := omega) only [hS.glob, wraps, plain, Int.ofNat_eq_natCast]; first | done | omega | trivial | (simp; done) | (simp; omega) | (constructor <;> omega)) | (simp (disch := omega) only [hS.glob, wraps, plain, Int.ofNat_eq_natCast, Vx.toN]; omega)), fun j hj => leaf (addN := Vx.addN) (by simp [hS.glob]) (by simp [hS.glob]) _ cs cs' i y1 y2 j hj⟩, rfl⟩, trivial⟩ (by rw [hC]; exact Nat.zero_le _)
              · conv => cbv
                simp (disch := first | omega | (simp only [hS.glob, wraps, plain, Int.ofNat_eq_natCast]; omega)) only [hS.glob, wraps, plain, Int.ofNat_eq_natCast] at g3
                obtain rfl : odd = 1 := by rw [hodd2, if_pos (by omega)]
                rw [hVV]
                clear hVV hVA VV VA hW W
                refine V.call rfl rfl rfl rfl rfl Try.func35 rfl (by decide) [0, 1] (by decide) (all_lt (by rfl)) (by (first | rfl | ((conv => cbv); (repeat' apply And.intro) <;> first | rfl | trivial | (first | rfl | omega | (simp (disch := omega) only [hS.glob, wraps, plain, Int.ofNat_eq_natCast]; first | done | rfl | omega | (simp; done) | (simp; omega)) | (simp (disch := omega) only [hS.glob, wraps, plain, Int.ofNat_eq_natCast, Vx.toN]; omega))))) (by rfl) h35 ?_
                rintro r Hc ⟨rfl, k', lv', ov', is', o', e', v', rfl, hR⟩
                refine V.go Try.func16 tl_ok mixed hS.ops [] 400 ?_
                intro VV VA W hVV hVA hW
                conv => cbv
                rw [hVV]
                clear hVV hVA VV VA hW W
                have hS' := hR.trans hT.st.symm
                refine V.pick [0, 9, 6, 8] (by decide) (by rw [hC]; exact begins_of rfl) (by rfl) (by rfl) ?_
                exact V.to (hback ⟨i + 1, k', lv', ov', is', o', e', v', xs', cs'⟩ ⟨by simp only; omega, hS', by rw [hT.xs, ← hX]; exact tab_snoc rfl x1 x2, by rw [hT.cs, ← hY]; exact tab_snoc rfl y1 y2⟩ (by simp only; omega)) (by (repeat' first | exact trivial | rfl | (refine And.intro ?_ ?_) | (refine sti ?_; (first | rfl | omega | (simp (disch := omega) only [hS.glob, wraps, plain, Int.ofNat_eq_natCast]; first | done | rfl | omega | (simp; done) | (simp; omega)) | (simp (disch := omega) only [hS.glob, wraps, plain, Int.ofNat_eq_natCast, Vx.toN]; omega))) | (refine slq ?_ ?_ ?_ <;> (first | rfl | omega | (simp (disch := omega) only [hS.glob, wraps, plain, Int.ofNat_eq_natCast]; first | done | rfl | omega | (simp; done) | (simp; omega)) | (simp (disch := omega) only [hS.glob, wraps, plain, Int.ofNat_eq_natCast, Vx.toN]; omega))) | (refine ptq ?_ ?_ ?_ <;> (first | rfl | omega | (simp (disch := omega) only [hS.glob, wraps, plain, Int.ofNat_eq_natCast]; first | done | rfl | omega | (simp; done) | (simp; omega)) | (simp (disch := omega) only [hS.glob, wraps, plain, Int.ofNat_eq_natCast, Vx.toN]; omega))) | (refine blq ?_; (first | rfl | omega | (simp (disch := omega) only [hS.glob, wraps, plain, Int.ofNat_eq_natCast]; first | done | rfl | omega | (simp; done) | (simp; omega)) | (simp (disch := omega) only [hS.glob, wraps, plain, Int.ofNat_eq_natCast, Vx.toN]; omega))))) rfl ⟨⟨rfl, rfl, rfl, rfl⟩, ⟨rfl, rfl, ⟨Nat.le_refl _, fun _ _ => rfl⟩, rfl⟩, ⟨rfl, rfl, ⟨by show i + 1 ≤ addN i 1; (first | trivial | omega | (simp (disch := omega) only [hS.glob, wraps, plain, Int.ofNat_eq_natCast]; first | done | omega | trivial | (simp; done) | (simp; omega) | (constructor <;> omega)) | (simp (disch := omega) only [hS.glob, wraps, plain, Int.ofNat_eq_natCast, Vx.toN]; omega)), fun j hj => leaf (addN := Vx.addN) (by simp [hS.glob]) (by simp [hS.glob]) _ xs xs' i x1 x2 j hj⟩, rfl⟩, ⟨rfl, rfl, ⟨by show i + 1 ≤ addN i 1; (first | trivial | omega | (simp (disch := omega) only [hS.glob, wraps, plain, Int.ofNat_eq_natCast]; first | done | omega | trivial | (simp; done) | (simp; omega) | (constructor <;> omega)) | (simp (disch := omega) only [hS.glob, wraps, plain, Int.ofNat_eq_natCast, Vx.toN]; omega)), fun j hj => leaf (addN := Vx.addN) (by simp [hS.glob]) (by simp [hS.glob]) _ cs cs' i y1 y2 j hj⟩, rfl⟩, trivial⟩ (by rw [hC]; exact Nat.zero_le _)
          · conv => cbv
            simp (disch := first | omega | (simp only [hS.glob, wraps, plain, Int.ofNat_eq_natCast]; omega)) only [hS.glob, wraps, plain, Int.ofNat_eq_natCast] at g1
            obtain rfl : odd = 1 := by rw [hodd2, if_pos (by omega)]
            rw [hVV]
            clear hVV hVA VV VA hW W
            refine V.call rfl rfl rfl rfl rfl Try.func35 rfl (by decide) [0, 1] (by decide) (all_lt (by rfl)) (by (first | rfl | ((conv => cbv); (repeat' apply And.intro) <;> first | rfl | trivial | (first | rfl | omega | (simp (disch := omega) only [hS.glob, wraps, plain, Int.ofNat_eq_natCast]; first | done | rfl | omega | (simp; done) | (simp; omega)) | (simp (disch := omega) only [hS.glob, wraps, plain, Int.ofNat_eq_natCast, Vx.toN]; omega))))) (by rfl) h35 ?_
            rintro r Hc ⟨rfl, k', lv', ov', is', o', e', v', rfl, hR⟩
            refine V.go Try.func16 tl_ok mixed hS.ops [] 400 ?_
            intro VV VA W hVV hVA hW
            conv => cbv
            rw [hVV]
            clear hVV hVA VV VA hW W
            have hS' := hR.trans hT.st.symm
            refine V.pick [0, 9, 6, 8] (by decide) (by rw [hC]; exact begins_of rfl) (by rfl) (by rfl) ?_
            exact V.to (hback ⟨i + 1, k', lv', ov', is', o', e', v', xs', cs'⟩ ⟨by simp only; omega, hS', by rw [hT.xs, ← hX]; exact tab_snoc rfl x1 x2, by rw [hT.cs, ← hY]; exact tab_snoc rfl y1 y2⟩ (by simp only; omega)) (by (repeat' first | exact trivial | rfl | (refine And.intro ?_ ?_) | (refine sti ?_; (first | rfl | omega | (simp (disch := omega) only [hS.glob, wraps, plain, Int.ofNat_eq_natCast]; first | done | rfl | omega | (simp; done) | (simp; omega)) | (simp (disch := omega) only [hS.glob, wraps, plain, Int.ofNat_eq_natCast, Vx.toN]; omega))) | (refine slq ?_ ?_ ?_ <;> (first | rfl | omega | (simp (disch := omega) only [hS.glob, wraps, plain, Int.ofNat_eq_natCast]; first | done | rfl | omega | (simp; done) | (simp; omega)) | (simp (disch := omega) only [hS.glob, wraps, plain, Int.ofNat_eq_natCast, Vx.toN]; omega))) | (refine ptq ?_ ?_ ?_ <;> (first | rfl | omega | (simp (disch := omega) only [hS.glob, wraps, plain, Int.ofNat_eq_natCast]; first | done | rfl | omega | (simp; done) | (simp; omega)) | (simp (disch := omega) only [hS.glob, wraps, plain, Int.ofNat_eq_natCast, Vx.toN]; omega))) | (refine blq ?_; (first | rfl | omega | (simp (disch := omega) only [hS.glob, wraps, plain, Int.ofNat_eq_natCast]; first | done | rfl | omega | (simp; done) | (simp; omega)) | (simp (disch := omega) only [hS.glob, wraps, plain, Int.ofNat_eq_natCast, Vx.toN]; omega))))) rfl ⟨⟨rfl, rfl, rfl, rfl⟩, ⟨rfl, rfl, ⟨Nat.le_refl _, fun _ _ => rfl⟩, rfl⟩, ⟨rfl, rfl, ⟨by show i + 1 ≤ addN i 1; (first | trivial | omega | (simp (disch := omega) only [hS.glob, wraps, plain, Int.ofNat_eq_natCast]; first | done | omega | trivial | (simp; done) | (simp; omega) | (constructor <;> omega)) | (simp (disch := omega) only [hS.glob, wraps, plain, Int.ofNat_eq_natCast, Vx.toN]; omega)), fun j hj => leaf (addN := Vx.addN) (by simp [hS.glob]) (by simp [hS.glob]) _ xs xs' i x1 x2 j hj⟩, rfl⟩, ⟨rfl, rfl, ⟨by show i + 1 ≤ addN i 1; (first | trivial | omega | (simp (disch := omega) only [hS.glob, wraps, plain, Int.ofNat_eq_natCast]; first | done | omega | trivial | (simp; done) | (simp; omega) | (constructor <;> omega)) | (simp (disch := omega) only [hS.glob, wraps, plain, Int.ofNat_eq_natCast, Vx.toN]; omega)), fun j hj => leaf (addN := Vx.addN) (by simp [hS.glob]) (by simp [hS.glob]) _ cs cs' i y1 y2 j hj⟩, rfl⟩, trivial⟩ (by rw [hC]; exact Nat.zero_le _)

theorem f16_ok (ln : Nat) (l : Nat → Int) (hl : ln ≤ 999999) (b : Int) (hb : -1 ≤ b ∧ b ≤ 1) : FSpec Try.prog 16 [.rows 1 ln (icol .i64 l), .int .i64 b] [] (LQ ln (levM ln l (baseOf ln l b))) := by
  refine FSpec.repick (Q := fun r H' => ∃ (xs cs : Nat → Int) (x y : Option Ob), r = .tup [.sl 2 0 ln, .sl 3 0 ln, .int .i64 0] ∧ H' = [x, y, some ⟨3, 1, .arr ln (icol .i64 xs)⟩, some ⟨34, 1, .arr ln (icol .i64 cs)⟩] ∧ tab ln xs = (levM ln l (baseOf ln l b)).xs ∧ tab ln cs = (levM ln l (baseOf ln l b)).cs) ?_ ?_
  · unfold baseOf
    by_cases h : b = -1
    · subst h
      rw [if_pos rfl]
      exact f16_none1 ln l hl _ rfl
    · rw [if_neg h]
      exact f16_known1 ln l hl b (by omega)
  · rintro r H' ⟨xs, cs, _, _, rfl, rfl, hx, hc⟩
    exact ⟨[2, 3], by decide, fun k hk => by simp at hk, xs, cs, rfl, rfl, hx, hc⟩
end Go.Proofs.Ytihmolafajmbjaa

/- The law of Levels: the walk. -/
namespace Go.Proofs.Ytihmolafajmbjaa
open Go Vx

theorem f4_ok1 (ln : Nat) (l : Nat → Int) (b : Int) : FSpec Try.prog 4 [.rows 1 ln (icol .i64 l), .int .i64 b] [] (fun r H' => r = .bool true) := by
  have h8 := f8_ok
  refine FSpec.of (fn := Try.f4) Try.func4 rfl rfl (by simp) fun C hC => ?_
  obtain ⟨iadd, isub, imul, iquo, irem, iband, ibor, ibxor, ibandn, ishl, ishr, iconv, ieq, ine, ilt, ile, igt, ige, bbeq, bbne, bnot, bband, sseq, ssne, sscat, sssub, sslen, sssz, ssbyte, toN, ofN, addN, subN, eqN, ltB, leN, imx, imn, inb, leb, sslt, ltN, fit, ne0, ge0, ssfit, minN, inR, hS⟩ := names
  refine V.go Try.func4 tl_ok mixed hS.ops [] 400 ?_
  intro VV VA W hVV hVA hW
  conv => cbv
  cases h1 : igt (ofN ln) 400
  rotate_left
  · conv => cbv
    rw [hVV]
    clear hVV hVA VV VA hW W
    refine V.call rfl rfl rfl rfl rfl Try.func8 rfl (by decide) [] (by simp) (by simp) (by (first | rfl | ((conv => cbv); (repeat' apply And.intro) <;> first | rfl | trivial | (first | rfl | omega | (simp (disch := omega) only [hS.glob, wraps, plain, Int.ofNat_eq_natCast]; first | done | rfl | omega | (simp; done) | (simp; omega)) | (simp (disch := omega) only [hS.glob, wraps, plain, Int.ofNat_eq_natCast, Vx.toN]; omega))))) rfl h8 ?_
    rintro r Hc ⟨rfl, rfl⟩
    refine V.go Try.func4 tl_ok mixed hS.ops [] 400 ?_
    intro VV VA W hVV hVA hW
    conv => cbv
    trivial
  conv => cbv
  simp (disch := first | omega | (simp only [hS.glob, wraps, plain, Int.ofNat_eq_natCast]; omega)) only [hS.glob, wraps, plain, Int.ofNat_eq_natCast] at h1
  repeat (refine ⟨by first | (rw [hW]; show ordOk _ _ _ = true; kernel_rfl) | (first | trivial | omega | (simp (disch := omega) only [hS.glob, wraps, plain, Int.ofNat_eq_natCast]; first | done | omega | trivial | (simp; done) | (simp; omega) | (constructor <;> omega)) | (simp (disch := omega) only [hS.glob, wraps, plain, Int.ofNat_eq_natCast, Vx.toN]; omega)), ?_⟩)
  rw [hVV]
  clear hVV hVA VV VA hW W
  refine V.to (s' := [(22, .rows 1 ln (icol .i64 l)), (23, .int .i64 b), (5, .sl 1 0 ln), (0, .rows 1 ln (icol .i64 l)), (1, .int .i64 b)]) (H' := [none, some ⟨34, 1, .arr ln (icol .i64 l)⟩]) ?_ (by (repeat' first | exact trivial | rfl | (refine And.intro ?_ ?_) | (refine sti ?_; (first | rfl | omega | (simp (disch := omega) only [hS.glob, wraps, plain, Int.ofNat_eq_natCast]; first | done | rfl | omega | (simp; done) | (simp; omega)) | (simp (disch := omega) only [hS.glob, wraps, plain, Int.ofNat_eq_natCast, Vx.toN]; omega))) | (refine slq ?_ ?_ ?_ <;> (first | rfl | omega | (simp (disch := omega) only [hS.glob, wraps, plain, Int.ofNat_eq_natCast]; first | done | rfl | omega | (simp; done) | (simp; omega)) | (simp (disch := omega) only [hS.glob, wraps, plain, Int.ofNat_eq_natCast, Vx.toN]; omega))) | (refine ptq ?_ ?_ ?_ <;> (first | rfl | omega | (simp (disch := omega) only [hS.glob, wraps, plain, Int.ofNat_eq_natCast]; first | done | rfl | omega | (simp; done) | (simp; omega)) | (simp (disch := omega) only [hS.glob, wraps, plain, Int.ofNat_eq_natCast, Vx.toN]; omega))) | (refine blq ?_; (first | rfl | omega | (simp (disch := omega) only [hS.glob, wraps, plain, Int.ofNat_eq_natCast]; first | done | rfl | omega | (simp; done) | (simp; omega)) | (simp (disch := omega) only [hS.glob, wraps, plain, Int.ofNat_eq_natCast, Vx.toN]; omega))))) rfl ⟨⟨rfl, rfl, ⟨by simp only [hS.tidy]; exact Nat.le_refl _, fun j hj => ?_⟩, rfl⟩, trivial⟩ (by rw [hC]; simp)
  rotate_left
  · show icol .i64 l j = match ltB j 0 with | true => _ | false => icol .i64 l (subN j 0)
    cases hr : ltB j 0
    · simp only [hS.tidy]
    · simp (disch := first | omega | (simp only [hS.glob, wraps, plain, Int.ofNat_eq_natCast]; omega)) only [hS.glob, wraps, plain, Int.ofNat_eq_natCast] at hr; omega
  refine V.freeze0 5 1 ln (by rfl) (by rfl) (by rfl) (by first | decide | omega | exact Nat.zero_lt_one) (by rfl) (by rfl) (by first | exact Nat.le_refl _ | decide | omega | (simp only [Cont.n]; omega)) ?_
  by_cases hb : b < -1 ∨ 1 < b
  · refine V.call rfl rfl rfl rfl rfl Try.func15 rfl (by decide) [] (by simp) (by simp) (by (first | rfl | ((conv => cbv); (repeat' apply And.intro) <;> first | rfl | trivial | (first | rfl | omega | (simp (disch := omega) only [hS.glob, wraps, plain, Int.ofNat_eq_natCast]; first | done | rfl | omega | (simp; done) | (simp; omega)) | (simp (disch := omega) only [hS.glob, wraps, plain, Int.ofNat_eq_natCast, Vx.toN]; omega))))) rfl (f15_err ln l b hb) ?_
    rintro r Hc ⟨rfl, rfl⟩
    refine V.go Try.func4 tl_ok mixed hS.ops [] 400 ?_
    intro VV VA W hVV hVA hW
    conv => cbv
    rw [hVV]
    clear hVV hVA VV VA hW W
    refine V.call rfl rfl rfl rfl rfl Try.func16 rfl (by decide) [] (by simp) (by simp) (by (first | rfl | ((conv => cbv); (repeat' apply And.intro) <;> first | rfl | trivial | (first | rfl | omega | (simp (disch := omega) only [hS.glob, wraps, plain, Int.ofNat_eq_natCast]; first | done | rfl | omega | (simp; done) | (simp; omega)) | (simp (disch := omega) only [hS.glob, wraps, plain, Int.ofNat_eq_natCast, Vx.toN]; omega))))) rfl (f16_err ln l b hb) ?_
    rintro r Hc ⟨rfl, rfl⟩
    refine V.go Try.func4 tl_ok mixed hS.ops [] 400 ?_
    intro VV VA W hVV hVA hW
    conv => cbv
    rw [hVV]
    clear hVV hVA VV VA hW W
    refine V.to (s' := [(36, .nil .slice), (35, .nil .slice), (9, .nil .slice), (6, .nil .slice), (8, .int .i64 81), (11, .int .i64 81), (0, .rows 1 ln (icol .i64 l)), (5, .rows 1 ln (icol .i64 l))]) (H' := []) ?_ (by (repeat' first | exact trivial | rfl | (refine And.intro ?_ ?_) | (refine sti ?_; (first | rfl | omega | (simp (disch := omega) only [hS.glob, wraps, plain, Int.ofNat_eq_natCast]; first | done | rfl | omega | (simp; done) | (simp; omega)) | (simp (disch := omega) only [hS.glob, wraps, plain, Int.ofNat_eq_natCast, Vx.toN]; omega))) | (refine slq ?_ ?_ ?_ <;> (first | rfl | omega | (simp (disch := omega) only [hS.glob, wraps, plain, Int.ofNat_eq_natCast]; first | done | rfl | omega | (simp; done) | (simp; omega)) | (simp (disch := omega) only [hS.glob, wraps, plain, Int.ofNat_eq_natCast, Vx.toN]; omega))) | (refine ptq ?_ ?_ ?_ <;> (first | rfl | omega | (simp (disch := omega) only [hS.glob, wraps, plain, Int.ofNat_eq_natCast]; first | done | rfl | omega | (simp; done) | (simp; omega)) | (simp (disch := omega) only [hS.glob, wraps, plain, Int.ofNat_eq_natCast, Vx.toN]; omega))) | (refine blq ?_; (first | rfl | omega | (simp (disch := omega) only [hS.glob, wraps, plain, Int.ofNat_eq_natCast]; first | done | rfl | omega | (simp; done) | (simp; omega)) | (simp (disch := omega) only [hS.glob, wraps, plain, Int.ofNat_eq_natCast, Vx.toN]; omega))))) rfl (by (repeat' first | exact trivial | rfl | exact Nat.le_refl _ | exact (fun _ _ => rfl) | (refine And.intro ?_ ?_) | (simp only [hS.glob, plain]; first | done | omega))) (by rw [hC]; simp)
    refine V.phantom 36 34 1 (icol .i64 l) rfl ?_
    refine V.phantom 35 34 1 (icol .i64 l) rfl ?_
    refine V.phantom 9 3 1 (icol .i64 l) rfl ?_
    refine V.phantom 6 3 1 (icol .i64 l) rfl ?_
    refine V.freeze0 36 0 0 (by rfl) (by rfl) (by rfl) (by first | decide | omega | exact Nat.zero_lt_one) (by rfl) (by rfl) (by first | exact Nat.le_refl _ | decide | omega | (simp only [Cont.n]; omega)) ?_
    refine V.freeze0 35 1 0 (by rfl) (by rfl) (by rfl) (by first | decide | omega | exact Nat.zero_lt_one) (by rfl) (by rfl) (by first | exact Nat.le_refl _ | decide | omega | (simp only [Cont.n]; omega)) ?_
    refine V.freeze0 9 2 0 (by rfl) (by rfl) (by rfl) (by first | decide | omega | exact Nat.zero_lt_one) (by rfl) (by rfl) (by first | exact Nat.le_refl _ | decide | omega | (simp only [Cont.n]; omega)) ?_
    refine V.freeze0 6 3 0 (by rfl) (by rfl) (by rfl) (by first | decide | omega | exact Nat.zero_lt_one) (by rfl) (by rfl) (by first | exact Nat.le_refl _ | decide | omega | (simp only [Cont.n]; omega)) ?_
    refine V.call rfl rfl rfl rfl rfl Try.func12 rfl (by decide) [] (by simp) (by simp) (by (first | rfl | ((conv => cbv); (repeat' apply And.intro) <;> first | rfl | trivial | (first | rfl | omega | (simp (disch := omega) only [hS.glob, wraps, plain, Int.ofNat_eq_natCast]; first | done | rfl | omega | (simp; done) | (simp; omega)) | (simp (disch := omega) only [hS.glob, wraps, plain, Int.ofNat_eq_natCast, Vx.toN]; omega))))) rfl (f12_ok 0 0 l l true ⟨fun _ => ⟨rfl, fun _ _ => rfl⟩, fun _ => rfl⟩) ?_
    rintro r Hc ⟨rfl, rfl⟩
    refine V.go Try.func4 tl_ok mixed hS.ops [] 400 ?_
    intro VV VA W hVV hVA hW
    conv => cbv
    rw [hVV]
    clear hVV hVA VV VA hW W
    refine V.call rfl rfl rfl rfl rfl Try.func12 rfl (by decide) [] (by simp) (by simp) (by (first | rfl | ((conv => cbv); (repeat' apply And.intro) <;> first | rfl | trivial | (first | rfl | omega | (simp (disch := omega) only [hS.glob, wraps, plain, Int.ofNat_eq_natCast]; first | done | rfl | omega | (simp; done) | (simp; omega)) | (simp (disch := omega) only [hS.glob, wraps, plain, Int.ofNat_eq_natCast, Vx.toN]; omega))))) rfl (f12_ok ln ln l l true ⟨fun _ => ⟨rfl, fun _ _ => rfl⟩, fun _ => rfl⟩) ?_
    rintro r Hc ⟨rfl, rfl⟩
    refine V.go Try.func4 tl_ok mixed hS.ops [] 400 ?_
    intro VV VA W hVV hVA hW
    conv => cbv
    rw [hVV]
    clear hVV hVA VV VA hW W
    refine V.call rfl rfl rfl rfl rfl Try.func8 rfl (by decide) [] (by simp) (by simp) (by (first | rfl | ((conv => cbv); (repeat' apply And.intro) <;> first | rfl | trivial | (first | rfl | omega | (simp (disch := omega) only [hS.glob, wraps, plain, Int.ofNat_eq_natCast]; first | done | rfl | omega | (simp; done) | (simp; omega)) | (simp (disch := omega) only [hS.glob, wraps, plain, Int.ofNat_eq_natCast, Vx.toN]; omega))))) rfl h8 ?_
    rintro r Hc ⟨rfl, rfl⟩
    refine V.go Try.func4 tl_ok mixed hS.ops [] 400 ?_
    intro VV VA W hVV hVA hW
    conv => cbv
    rw [hVV]
    clear hVV hVA VV VA hW W
    refine V.call rfl rfl rfl rfl rfl Try.func9 rfl (by decide) [] (by simp) (by simp) (by (first | rfl | ((conv => cbv); (repeat' apply And.intro) <;> first | rfl | trivial | (first | rfl | omega | (simp (disch := omega) only [hS.glob, wraps, plain, Int.ofNat_eq_natCast]; first | done | rfl | omega | (simp; done) | (simp; omega)) | (simp (disch := omega) only [hS.glob, wraps, plain, Int.ofNat_eq_natCast, Vx.toN]; omega))))) rfl (f9_ok 0 0 l l true ⟨fun _ => ⟨rfl, fun _ _ => rfl⟩, fun _ => rfl⟩) ?_
    rintro r Hc ⟨rfl, rfl⟩
    refine V.go Try.func4 tl_ok mixed hS.ops [] 400 ?_
    intro VV VA W hVV hVA hW
    conv => cbv
    have e1 : ieq 81 81 = true := by simp (disch := first | omega | (simp only [hS.glob, wraps, plain, Int.ofNat_eq_natCast]; omega)) only [hS.glob, wraps, plain, Int.ofNat_eq_natCast]
    rw [e1]
  · have hl : ln ≤ 999999 := by omega
    have h15 := f15_ok ln l hl b (by omega)
    have h16 := f16_ok ln l hl b (by omega)
    generalize levM ln l (baseOf ln l b) = M at h15 h16
    refine V.call rfl rfl rfl rfl rfl Try.func15 rfl (by decide) [] (by simp) (by simp) (by (first | rfl | ((conv => cbv); (repeat' apply And.intro) <;> first | rfl | trivial | (first | rfl | omega | (simp (disch := omega) only [hS.glob, wraps, plain, Int.ofNat_eq_natCast]; first | done | rfl | omega | (simp; done) | (simp; omega)) | (simp (disch := omega) only [hS.glob, wraps, plain, Int.ofNat_eq_natCast, Vx.toN]; omega))))) rfl h15 ?_
    rintro r Hc ⟨xs, cs, rfl, rfl, g1, g2⟩
    refine V.go Try.func4 tl_ok mixed hS.ops [] 400 ?_
    intro VV VA W hVV hVA hW
    conv => cbv
    rw [hVV]
    clear hVV hVA VV VA hW W h15
    refine V.call rfl rfl rfl rfl rfl Try.func16 rfl (by decide) [] (by simp) (by simp) (by (first | rfl | ((conv => cbv); (repeat' apply And.intro) <;> first | rfl | trivial | (first | rfl | omega | (simp (disch := omega) only [hS.glob, wraps, plain, Int.ofNat_eq_natCast]; first | done | rfl | omega | (simp; done) | (simp; omega)) | (simp (disch := omega) only [hS.glob, wraps, plain, Int.ofNat_eq_natCast, Vx.toN]; omega))))) rfl h16 ?_
    rintro r Hc ⟨ys, ds, rfl, rfl, g3, g4⟩
    have hx := tab_inj (g1.trans g3.symm)
    have hc := tab_inj (g2.trans g4.symm)
    refine V.go Try.func4 tl_ok mixed hS.ops [] 400 ?_
    intro VV VA W hVV hVA hW
    conv => cbv
    rw [hVV]
    clear hVV hVA VV VA hW W h16
    refine V.to (s' := [(36, .sl 5 0 ln), (35, .sl 3 0 ln), (9, .sl 4 0 ln), (6, .sl 2 0 ln), (8, .int .i64 0), (11, .int .i64 0), (0, .rows 1 ln (icol .i64 l)), (5, .rows 1 ln (icol .i64 l))]) (H' := [none, none, some ⟨3, 1, .arr ln (icol .i64 xs)⟩, some ⟨34, 1, .arr ln (icol .i64 cs)⟩, some ⟨3, 1, .arr ln (icol .i64 ys)⟩, some ⟨34, 1, .arr ln (icol .i64 ds)⟩]) ?_ (by (repeat' first | exact trivial | rfl | (refine And.intro ?_ ?_) | (refine sti ?_; (first | rfl | omega | (simp (disch := omega) only [hS.glob, wraps, plain, Int.ofNat_eq_natCast]; first | done | rfl | omega | (simp; done) | (simp; omega)) | (simp (disch := omega) only [hS.glob, wraps, plain, Int.ofNat_eq_natCast, Vx.toN]; omega))) | (refine slq ?_ ?_ ?_ <;> (first | rfl | omega | (simp (disch := omega) only [hS.glob, wraps, plain, Int.ofNat_eq_natCast]; first | done | rfl | omega | (simp; done) | (simp; omega)) | (simp (disch := omega) only [hS.glob, wraps, plain, Int.ofNat_eq_natCast, Vx.toN]; omega))) | (refine ptq ?_ ?_ ?_ <;> (first | rfl | omega | (simp (disch := omega) only [hS.glob, wraps, plain, Int.ofNat_eq_natCast]; first | done | rfl | omega | (simp; done) | (simp; omega)) | (simp (disch := omega) only [hS.glob, wraps, plain, Int.ofNat_eq_natCast, Vx.toN]; omega))) | (refine blq ?_; (first | rfl | omega | (simp (disch := omega) only [hS.glob, wraps, plain, Int.ofNat_eq_natCast]; first | done | rfl | omega | (simp; done) | (simp; omega)) | (simp (disch := omega) only [hS.glob, wraps, plain, Int.ofNat_eq_natCast, Vx.toN]; omega))))) rfl (by (repeat' first | exact trivial | rfl | exact Nat.le_refl _ | exact (fun _ _ => rfl) | (refine And.intro ?_ ?_) | (simp only [hS.glob, plain]; first | done | omega))) (by rw [hC]; simp)
    refine V.freeze0 36 5 ln (by rfl) (by rfl) (by rfl) (by first | decide | omega | exact Nat.zero_lt_one) (by rfl) (by rfl) (by first | exact Nat.le_refl _ | decide | omega | (simp only [Cont.n]; omega)) ?_
    refine V.freeze0 35 3 ln (by rfl) (by rfl) (by rfl) (by first | decide | omega | exact Nat.zero_lt_one) (by rfl) (by rfl) (by first | exact Nat.le_refl _ | decide | omega | (simp only [Cont.n]; omega)) ?_
    refine V.freeze0 9 4 ln (by rfl) (by rfl) (by rfl) (by first | decide | omega | exact Nat.zero_lt_one) (by rfl) (by rfl) (by first | exact Nat.le_refl _ | decide | omega | (simp only [Cont.n]; omega)) ?_
    refine V.freeze0 6 2 ln (by rfl) (by rfl) (by rfl) (by first | decide | omega | exact Nat.zero_lt_one) (by rfl) (by rfl) (by first | exact Nat.le_refl _ | decide | omega | (simp only [Cont.n]; omega)) ?_
    refine V.call rfl rfl rfl rfl rfl Try.func12 rfl (by decide) [] (by simp) (by simp) (by (first | rfl | ((conv => cbv); (repeat' apply And.intro) <;> first | rfl | trivial | (first | rfl | omega | (simp (disch := omega) only [hS.glob, wraps, plain, Int.ofNat_eq_natCast]; first | done | rfl | omega | (simp; done) | (simp; omega)) | (simp (disch := omega) only [hS.glob, wraps, plain, Int.ofNat_eq_natCast, Vx.toN]; omega))))) rfl (f12_ok ln ln cs ds true ⟨fun _ => ⟨rfl, hc⟩, fun _ => rfl⟩) ?_
    rintro r Hc ⟨rfl, rfl⟩
    refine V.go Try.func4 tl_ok mixed hS.ops [] 400 ?_
    intro VV VA W hVV hVA hW
    conv => cbv
    rw [hVV]
    clear hVV hVA VV VA hW W
    refine V.call rfl rfl rfl rfl rfl Try.func12 rfl (by decide) [] (by simp) (by simp) (by (first | rfl | ((conv => cbv); (repeat' apply And.intro) <;> first | rfl | trivial | (first | rfl | omega | (simp (disch := omega) only [hS.glob, wraps, plain, Int.ofNat_eq_natCast]; first | done | rfl | omega | (simp; done) | (simp; omega)) | (simp (disch := omega) only [hS.glob, wraps, plain, Int.ofNat_eq_natCast, Vx.toN]; omega))))) rfl (f12_ok ln ln l l true ⟨fun _ => ⟨rfl, fun _ _ => rfl⟩, fun _ => rfl⟩) ?_
    rintro r Hc ⟨rfl, rfl⟩
    refine V.go Try.func4 tl_ok mixed hS.ops [] 400 ?_
    intro VV VA W hVV hVA hW
    conv => cbv
    rw [hVV]
    clear hVV hVA VV VA hW W
    refine V.call rfl rfl rfl rfl rfl Try.func8 rfl (by decide) [] (by simp) (by simp) (by (first | rfl | ((conv => cbv); (repeat' apply And.intro) <;> first | rfl | trivial | (first | rfl | omega | (simp (disch := omega) only [hS.glob, wraps, plain, Int.ofNat_eq_natCast]; first | done | rfl | omega | (simp; done) | (simp; omega)) | (simp (disch := omega) only [hS.glob, wraps, plain, Int.ofNat_eq_natCast, Vx.toN]; omega))))) rfl h8 ?_
    rintro r Hc ⟨rfl, rfl⟩
    refine V.go Try.func4 tl_ok mixed hS.ops [] 400 ?_
    intro VV VA W hVV hVA hW
    conv => cbv
    rw [hVV]
    clear hVV hVA VV VA hW W
    refine V.call rfl rfl rfl rfl rfl Try.func9 rfl (by decide) [] (by simp) (by simp) (by (first | rfl | ((conv => cbv); (repeat' apply And.intro) <;> first | rfl | trivial | (first | rfl | omega | (simp (disch := omega) only [hS.glob, wraps, plain, Int.ofNat_eq_natCast]; first | done | rfl | omega | (simp; done) | (simp; omega)) | (simp (disch := omega) only [hS.glob, wraps, plain, Int.ofNat_eq_natCast, Vx.toN]; omega))))) rfl (f9_ok ln ln xs ys true ⟨fun _ => ⟨rfl, hx⟩, fun _ => rfl⟩) ?_
    rintro r Hc ⟨rfl, rfl⟩
    refine V.go Try.func4 tl_ok mixed hS.ops [] 400 ?_
    intro VV VA W hVV hVA hW
    conv => cbv
    have e1 : ieq 0 0 = true := by simp (disch := first | omega | (simp only [hS.glob, wraps, plain, Int.ofNat_eq_natCast]; omega)) only [hS.glob, wraps, plain, Int.ofNat_eq_natCast]
    rw [e1]
theorem f4_ok (ln : Nat) (l : Nat → Int) (b : Int) : FSpec Try.prog 4 [.rows 1 ln (icol .i64 l), .int .i64 b] [] (fun r H' => r = .bool true ∧ H' = []) := by
  refine (f4_ok1 ln l b).weaken ?_
  rintro r H' rfl
  exact ⟨[], by cases H' <;> simp [heapCov], rfl, Nat.le_refl _, rfl, rfl⟩
end Go.Proofs.Ytihmolafajmbjaa
