/- Contracts of functions by an evaluator of the model: its part T4. -/
import Derived.Test.YtffahckigenfcaaT3
import Derived.Test.YtffahckigenfcaaV2
set_option linter.all false
/- The sort that keeps the order. -/
namespace Go.Proofs.Ytffahckigenfcaa
open Go Vx
/-- All blocks of w are sorted, from lo up to hi. -/
def Blk (h : Nat → Int) (n w lo hi : Nat) : Prop := ∀ c, w ∣ c → lo ≤ c → c < hi → Srt rank h c (min (c + w) n)
theorem dvd_gap {w c a : Nat} (h1 : w ∣ c) (h2 : w ∣ a) (h : c < a) : c + w ≤ a := by
  obtain ⟨x, rfl⟩ := h1
  obtain ⟨y, rfl⟩ := h2
  have : x < y := Nat.lt_of_mul_lt_mul_left h
  have := Nat.mul_le_mul_left w (show x + 1 ≤ y by omega)
  rw [Nat.mul_add, Nat.mul_one] at this
  exact this
/-- One block more. -/
theorem Blk.step {g h : Nat → Int} {n w a : Nat} (hw : 0 < w) (ha : w ∣ a) (hb : Blk g n w 0 a) (hk : Srt rank h a (min (a + w) n)) (s : ∀ i, ¬(a ≤ i ∧ i < min (a + w) n) → h i = g i) : Blk h n w 0 (a + w) := by
  intro c c1 _ c3
  rcases Nat.lt_trichotomy c a with q | rfl | q
  · have := dvd_gap c1 ha q
    exact (hb c c1 (Nat.zero_le _) q).congr fun i i1 i2 => s i (by omega)
  · exact hk
  · have := dvd_gap ha c1 q
    omega
theorem Blk.rest {g h : Nat → Int} {n w a b : Nat} (hb : Blk g n w a n) (hab : a ≤ b) (s : ∀ i, b ≤ i → i < n → h i = g i) : Blk h n w b n := by
  intro c c1 c2 c3
  exact (hb c c1 (by omega) c3).congr fun i i1 i2 => s i (by omega) (by omega)
theorem f44_ok (n : Nat) (hn : n ≤ 1000000) (g : Nat → Int) (hu : ∀ j, j < n → inU (g j)) (z : Int) (hz : z = n) :
    FSpec Try.prog 44 [.sl 0 0 n, .int .i64 z, .fn (.func 15) [] []] [some ⟨22, 1, .arr n (icol .u64 g)⟩] (fun r H' => r = .tup [] ∧ ∃ h, H' = [some ⟨22, 1, .arr n (icol .u64 h)⟩] ∧ Srt rank h 0 n ∧ Stb rank 0 n g h) := by
  obtain ⟨Q, hQ⟩ : ∃ Q : AV → Hp → Prop, Q = (fun r H' => r = .tup [] ∧ ∃ h, H' = [some ⟨22, 1, .arr n (icol .u64 h)⟩] ∧ Srt rank h 0 n ∧ Stb rank 0 n g h) := ⟨_, rfl⟩
  rw [← hQ]
  refine FSpec.of (fn := Try.f44) Try.func44 rfl rfl (by simp) fun C hC => ?_
  obtain ⟨iadd, isub, imul, iquo, irem, iband, ibor, ibxor, ibandn, ishl, ishr, iconv, ieq, ine, ilt, ile, igt, ige, bbeq, bbne, bnot, bband, sseq, ssne, sscat, sssub, sslen, sssz, ssbyte, toN, ofN, addN, subN, eqN, ltB, leN, imx, imn, inb, leb, sslt, ltN, fit, ne0, ge0, ssfit, minN, inR, bcol, bstr, isBy, hS⟩ := names
  obtain rfl : z = ofN n := by simp (disch := first | omega | (simp only [hS.glob, wraps, plain, Int.ofNat_eq_natCast]; omega)) only [hS.glob, wraps, plain, Int.ofNat_eq_natCast]; exact hz
  clear hz
  refine V.goF (by first | exact trivial | assumption) Try.func44 tl_ok mixed hS.ops [] 400 ?_
  intro VV VA W hVV hVA hW
  conv => cbv
  rw [hVV]
  clear hVV hVA VV VA hW W
  refine V.to (s' := [(7, .int .i64 (ofN 0)), (8, .int .i64 (ofN 20)), (6, .int .i64 20), (0, .sl 0 0 n), (1, .int .i64 (ofN n)), (2, .fn (.func 15) [] [])]) (H' := [some ⟨22, 1, .arr n (icol .u64 g)⟩]) ?_ (by (repeat' first | exact trivial | rfl | (refine And.intro ?_ ?_) | (refine sti ?_; (first | rfl | omega | (simp (disch := omega) only [hS.glob, wraps, plain, Int.ofNat_eq_natCast]; first | done | rfl | omega | (simp; done) | (simp; omega)) | (simp (disch := omega) only [hS.glob, wraps, plain, Int.ofNat_eq_natCast, Vx.toN]; omega))) | (refine slq ?_ ?_ ?_ <;> (first | rfl | omega | (simp (disch := omega) only [hS.glob, wraps, plain, Int.ofNat_eq_natCast]; first | done | rfl | omega | (simp; done) | (simp; omega)) | (simp (disch := omega) only [hS.glob, wraps, plain, Int.ofNat_eq_natCast, Vx.toN]; omega))) | (refine ptq ?_ ?_ ?_ <;> (first | rfl | omega | (simp (disch := omega) only [hS.glob, wraps, plain, Int.ofNat_eq_natCast]; first | done | rfl | omega | (simp; done) | (simp; omega)) | (simp (disch := omega) only [hS.glob, wraps, plain, Int.ofNat_eq_natCast, Vx.toN]; omega))) | (refine blq ?_; (first | rfl | omega | (simp (disch := omega) only [hS.glob, wraps, plain, Int.ofNat_eq_natCast]; first | done | rfl | omega | (simp; done) | (simp; omega)) | (simp (disch := omega) only [hS.glob, wraps, plain, Int.ofNat_eq_natCast, Vx.toN]; omega))))) rfl (by (repeat' first | exact trivial | rfl | exact Nat.le_refl _ | exact (fun _ _ => rfl) | (refine And.intro ?_ ?_) | (simp only [hS.glob, plain]; first | done | omega))) (by rw [hC]; simp)
  refine V.loop (γ := Nat × (Nat → Int)) (fun p => 20 ∣ p.1 ∧ p.1 ≤ n ∧ Blk p.2 n 20 0 p.1 ∧ Stb rank 0 n g p.2) (fun p => [(7, .int .i64 (ofN p.1)), (8, .int .i64 (ofN (p.1 + 20))), (6, .int .i64 20), (0, .sl 0 0 n), (1, .int .i64 (ofN n)), (2, .fn (.func 15) [] [])]) (fun p => [some ⟨22, 1, .arr n (icol .u64 p.2)⟩]) (fun p => n - p.1) ?_ (0, g) ⟨Nat.dvd_zero _, Nat.zero_le _, fun c _ _ h => by simp only at h; omega, .refl fun _ => rfl⟩
  rintro ⟨a, h⟩ ⟨ha, han, hb, ht⟩ hback
  dsimp only at ha han hb ht hback ⊢
  have hh := inU_stb (Nat.le_refl _) hu ht
  obtain ⟨b, hb2⟩ : ∃ b, b = a + 20 := ⟨_, rfl⟩
  rw [← hb2]
  refine V.goF (by first | exact trivial | assumption) Try.func44 tl_ok mixed hS.ops [] 400 ?_
  intro VV VA W hVV hVA hW
  conv => cbv
  split <;> rename_i h1
  · conv => cbv
    simp (disch := first | omega | (simp only [hS.glob, wraps, plain, Int.ofNat_eq_natCast]; omega)) only [hS.glob, wraps, plain, Int.ofNat_eq_natCast] at h1
    rw [hVV]
    clear hVV hVA VV VA hW W
    refine V.call rfl rfl rfl rfl rfl Try.func47 rfl (by decide) [0] (by decide) (all_lt (by rfl)) (by (first | rfl | ((conv => cbv); (repeat' apply And.intro) <;> first | rfl | trivial | (first | rfl | omega | (simp (disch := omega) only [hS.glob, wraps, plain, Int.ofNat_eq_natCast]; first | done | rfl | omega | (simp; done) | (simp; omega)) | (simp (disch := omega) only [hS.glob, wraps, plain, Int.ofNat_eq_natCast, Vx.toN]; omega))))) (by rfl) (f47_ok n hn h hh a b (by omega) (by omega) (ofN a) (ofN b) (by simp only [hS.glob, plain]) (by simp only [hS.glob, plain])) ?_
    rintro r Hc ⟨rfl, k, rfl, k1, k2⟩
    refine V.goF (by first | exact trivial | assumption) Try.func44 tl_ok mixed hS.ops [] 400 ?_
    intro VV VA W hVV hVA hW
    conv => cbv
    rw [hVV]
    clear hVV hVA VV VA hW W
    have em : min (a + 20) n = b := by omega
    refine V.to (hback (b, k) ⟨by rw [hb2]; exact Nat.dvd_add ha (Nat.dvd_refl _), by simp only; omega, by rw [hb2]; exact hb.step (by omega) ha (by rw [em]; exact k1) (fun i hi => k2.out i (by omega)), ht.trans (k2.widen (Nat.zero_le _) (by omega) (by omega))⟩ (by simp only; omega)) (by (repeat' first | exact trivial | rfl | (refine And.intro ?_ ?_) | (refine sti ?_; (first | rfl | omega | (simp (disch := omega) only [hS.glob, wraps, plain, Int.ofNat_eq_natCast]; first | done | rfl | omega | (simp; done) | (simp; omega)) | (simp (disch := omega) only [hS.glob, wraps, plain, Int.ofNat_eq_natCast, Vx.toN]; omega))) | (refine slq ?_ ?_ ?_ <;> (first | rfl | omega | (simp (disch := omega) only [hS.glob, wraps, plain, Int.ofNat_eq_natCast]; first | done | rfl | omega | (simp; done) | (simp; omega)) | (simp (disch := omega) only [hS.glob, wraps, plain, Int.ofNat_eq_natCast, Vx.toN]; omega))) | (refine ptq ?_ ?_ ?_ <;> (first | rfl | omega | (simp (disch := omega) only [hS.glob, wraps, plain, Int.ofNat_eq_natCast]; first | done | rfl | omega | (simp; done) | (simp; omega)) | (simp (disch := omega) only [hS.glob, wraps, plain, Int.ofNat_eq_natCast, Vx.toN]; omega))) | (refine blq ?_; (first | rfl | omega | (simp (disch := omega) only [hS.glob, wraps, plain, Int.ofNat_eq_natCast]; first | done | rfl | omega | (simp; done) | (simp; omega)) | (simp (disch := omega) only [hS.glob, wraps, plain, Int.ofNat_eq_natCast, Vx.toN]; omega))))) rfl (by (repeat' first | exact trivial | rfl | exact Nat.le_refl _ | exact (fun _ _ => rfl) | (refine And.intro ?_ ?_) | (simp only [hS.glob, plain]; first | done | omega))) (by rw [hC]; simp)
  · conv => cbv
    simp (disch := first | omega | (simp only [hS.glob, wraps, plain, Int.ofNat_eq_natCast]; omega)) only [hS.glob, wraps, plain, Int.ofNat_eq_natCast] at h1
    rw [hVV]
    clear hVV hVA VV VA hW W
    refine V.call rfl rfl rfl rfl rfl Try.func47 rfl (by decide) [0] (by decide) (all_lt (by rfl)) (by (first | rfl | ((conv => cbv); (repeat' apply And.intro) <;> first | rfl | trivial | (first | rfl | omega | (simp (disch := omega) only [hS.glob, wraps, plain, Int.ofNat_eq_natCast]; first | done | rfl | omega | (simp; done) | (simp; omega)) | (simp (disch := omega) only [hS.glob, wraps, plain, Int.ofNat_eq_natCast, Vx.toN]; omega))))) (by rfl) (f47_ok n hn h hh a n han (Nat.le_refl _) (ofN a) (ofN n) (by simp only [hS.glob, plain]) (by simp only [hS.glob, plain])) ?_
    rintro r Hc ⟨rfl, k, rfl, k1, k2⟩
    have kb : Blk k n 20 0 n := fun c c1 c2 c3 => by
      have em : min (a + 20) n = n := by omega
      exact hb.step (by omega) ha (by rw [em]; exact k1) (fun i hi => k2.out i (by omega)) c c1 c2 (by omega)
    have kt := ht.trans (k2.widen (Nat.zero_le _) (by omega) (by omega))
    clear hb ht hh hback k1 k2
    refine V.goF (by first | exact trivial | assumption) Try.func44 tl_ok mixed hS.ops [] 400 ?_
    intro VV VA W hVV hVA hW
    conv => cbv
    rw [hVV]
    clear hVV hVA VV VA hW W
    refine V.to (s' := [(6, .int .i64 (ofN 20)), (0, .sl 0 0 n), (1, .int .i64 (ofN n)), (2, .fn (.func 15) [] [])]) (H' := [some ⟨22, 1, .arr n (icol .u64 k)⟩]) ?_ (by (repeat' first | exact trivial | rfl | (refine And.intro ?_ ?_) | (refine sti ?_; (first | rfl | omega | (simp (disch := omega) only [hS.glob, wraps, plain, Int.ofNat_eq_natCast]; first | done | rfl | omega | (simp; done) | (simp; omega)) | (simp (disch := omega) only [hS.glob, wraps, plain, Int.ofNat_eq_natCast, Vx.toN]; omega))) | (refine slq ?_ ?_ ?_ <;> (first | rfl | omega | (simp (disch := omega) only [hS.glob, wraps, plain, Int.ofNat_eq_natCast]; first | done | rfl | omega | (simp; done) | (simp; omega)) | (simp (disch := omega) only [hS.glob, wraps, plain, Int.ofNat_eq_natCast, Vx.toN]; omega))) | (refine ptq ?_ ?_ ?_ <;> (first | rfl | omega | (simp (disch := omega) only [hS.glob, wraps, plain, Int.ofNat_eq_natCast]; first | done | rfl | omega | (simp; done) | (simp; omega)) | (simp (disch := omega) only [hS.glob, wraps, plain, Int.ofNat_eq_natCast, Vx.toN]; omega))) | (refine blq ?_; (first | rfl | omega | (simp (disch := omega) only [hS.glob, wraps, plain, Int.ofNat_eq_natCast]; first | done | rfl | omega | (simp; done) | (simp; omega)) | (simp (disch := omega) only [hS.glob, wraps, plain, Int.ofNat_eq_natCast, Vx.toN]; omega))))) rfl (by (repeat' first | exact trivial | rfl | exact Nat.le_refl _ | exact (fun _ _ => rfl) | (refine And.intro ?_ ?_) | (simp only [hS.glob, plain]; first | done | omega))) (by rw [hC]; simp)
    refine V.loop (γ := Nat × (Nat → Int)) (fun p => 20 ≤ p.1 ∧ p.1 ≤ n + n + 20 ∧ Blk p.2 n p.1 0 n ∧ Stb rank 0 n g p.2) (fun p => [(6, .int .i64 (ofN p.1)), (0, .sl 0 0 n), (1, .int .i64 (ofN n)), (2, .fn (.func 15) [] [])]) (fun p => [some ⟨22, 1, .arr n (icol .u64 p.2)⟩]) (fun p => n - p.1) ?_ (20, k) ⟨Nat.le_refl _, by simp only; omega, kb, kt⟩
    clear kb kt
    rintro ⟨w, h⟩ ⟨hw, hw2, hb, ht⟩ hback
    dsimp only at hw hw2 hb ht hback ⊢
    refine V.goF (by first | exact trivial | assumption) Try.func44 tl_ok mixed hS.ops [] 400 ?_
    intro VV VA W hVV hVA hW
    conv => cbv
    split <;> rename_i h2
    rotate_left
    · conv => cbv
      simp (disch := first | omega | (simp only [hS.glob, wraps, plain, Int.ofNat_eq_natCast]; omega)) only [hS.glob, wraps, plain, Int.ofNat_eq_natCast] at h2
      rw [hQ]
      refine ⟨rfl, h, rfl, ?_, ht⟩
      rcases Nat.eq_zero_or_pos n with rfl | hp
      · exact Srt.short (by omega)
      · have q := hb 0 (Nat.dvd_zero _) (Nat.le_refl _) hp
        have em : min (0 + w) n = n := by omega
        rw [em] at q
        exact q
    · conv => cbv
      simp (disch := first | omega | (simp only [hS.glob, wraps, plain, Int.ofNat_eq_natCast]; omega)) only [hS.glob, wraps, plain, Int.ofNat_eq_natCast] at h2
      obtain ⟨w2, hw3⟩ : ∃ w2, w2 = w + w := ⟨_, rfl⟩
      have e2 : imul .i64 2 (ofN w) = ofN w2 := by subst hw3; (first | rfl | omega | (simp (disch := omega) only [hS.glob, wraps, plain, Int.ofNat_eq_natCast]; first | done | rfl | omega | (simp; done) | (simp; omega)) | (simp (disch := omega) only [hS.glob, wraps, plain, Int.ofNat_eq_natCast, Vx.toN]; omega))
      rw [hVV]
      clear hVV hVA VV VA hW W
      refine V.to (s' := [(7, .int .i64 (ofN 0)), (8, .int .i64 (ofN (0 + w2))), (6, .int .i64 (ofN w)), (0, .sl 0 0 n), (1, .int .i64 (ofN n)), (2, .fn (.func 15) [] [])]) (H' := [some ⟨22, 1, .arr n (icol .u64 h)⟩]) ?_ (by (repeat' first | exact trivial | rfl | (refine And.intro ?_ ?_) | (refine sti ?_; (first | rfl | omega | (simp (disch := omega) only [hS.glob, wraps, plain, Int.ofNat_eq_natCast]; first | done | rfl | omega | (simp; done) | (simp; omega)) | (simp (disch := omega) only [hS.glob, wraps, plain, Int.ofNat_eq_natCast, Vx.toN]; omega))) | (refine slq ?_ ?_ ?_ <;> (first | rfl | omega | (simp (disch := omega) only [hS.glob, wraps, plain, Int.ofNat_eq_natCast]; first | done | rfl | omega | (simp; done) | (simp; omega)) | (simp (disch := omega) only [hS.glob, wraps, plain, Int.ofNat_eq_natCast, Vx.toN]; omega))) | (refine ptq ?_ ?_ ?_ <;> (first | rfl | omega | (simp (disch := omega) only [hS.glob, wraps, plain, Int.ofNat_eq_natCast]; first | done | rfl | omega | (simp; done) | (simp; omega)) | (simp (disch := omega) only [hS.glob, wraps, plain, Int.ofNat_eq_natCast, Vx.toN]; omega))) | (refine blq ?_; (first | rfl | omega | (simp (disch := omega) only [hS.glob, wraps, plain, Int.ofNat_eq_natCast]; first | done | rfl | omega | (simp; done) | (simp; omega)) | (simp (disch := omega) only [hS.glob, wraps, plain, Int.ofNat_eq_natCast, Vx.toN]; omega))))) rfl (by (repeat' first | exact trivial | rfl | exact Nat.le_refl _ | exact (fun _ _ => rfl) | (refine And.intro ?_ ?_) | (simp only [hS.glob, plain]; first | done | omega))) (by rw [hC]; simp)
      have e3 : imul .i64 (ofN w) 2 = ofN w2 := by subst hw3; (first | rfl | omega | (simp (disch := omega) only [hS.glob, wraps, plain, Int.ofNat_eq_natCast]; first | done | rfl | omega | (simp; done) | (simp; omega)) | (simp (disch := omega) only [hS.glob, wraps, plain, Int.ofNat_eq_natCast, Vx.toN]; omega))
      have wd : w ∣ w2 := by rw [hw3]; exact Nat.dvd_add (Nat.dvd_refl _) (Nat.dvd_refl _)
      refine V.loop (γ := Nat × (Nat → Int)) (fun p => w2 ∣ p.1 ∧ p.1 ≤ n ∧ Blk p.2 n w2 0 p.1 ∧ Blk p.2 n w p.1 n ∧ Stb rank 0 n g p.2) (fun p => [(7, .int .i64 (ofN p.1)), (8, .int .i64 (ofN (p.1 + w2))), (6, .int .i64 (ofN w)), (0, .sl 0 0 n), (1, .int .i64 (ofN n)), (2, .fn (.func 15) [] [])]) (fun p => [some ⟨22, 1, .arr n (icol .u64 p.2)⟩]) (fun p => n - p.1) ?_ (0, h) ⟨Nat.dvd_zero _, Nat.zero_le _, fun c _ _ h => by simp only at h; omega, hb, ht⟩
      clear hb ht
      rintro ⟨a, l⟩ ⟨ha, han, hb, hr, ht⟩ hback2
      dsimp only at ha han hb hr ht hback2 ⊢
      have hl := inU_stb (Nat.le_refl _) hu ht
      have hwa : w ∣ a := Nat.dvd_trans wd ha
      have hwm : w ∣ a + w := Nat.dvd_add hwa (Nat.dvd_refl _)
      obtain ⟨b, hb2⟩ : ∃ b, b = a + w2 := ⟨_, rfl⟩
      obtain ⟨m, hm⟩ : ∃ m, m = a + w := ⟨_, rfl⟩
      have em : iadd .i64 (ofN a) (ofN w) = ofN m := by subst hm; (first | rfl | omega | (simp (disch := omega) only [hS.glob, wraps, plain, Int.ofNat_eq_natCast]; first | done | rfl | omega | (simp; done) | (simp; omega)) | (simp (disch := omega) only [hS.glob, wraps, plain, Int.ofNat_eq_natCast, Vx.toN]; omega))
      rw [← hm] at hwm
      rw [← hb2]
      refine V.goF (by first | exact trivial | assumption) Try.func44 tl_ok mixed hS.ops [] 400 ?_
      intro VV VA W hVV hVA hW
      conv => cbv
      split <;> rename_i h3
      · conv => cbv
        simp (disch := first | omega | (simp only [hS.glob, wraps, plain, Int.ofNat_eq_natCast]; omega)) only [hS.glob, wraps, plain, Int.ofNat_eq_natCast] at h3
        simp only [em]
        rw [hVV]
        clear hVV hVA VV VA hW W
        have s1 : Srt rank l a m := by
          have q := hr a hwa (Nat.le_refl _) (by omega)
          have e : min (a + w) n = m := by omega
          rwa [e] at q
        have s2 : Srt rank l m b := by
          have q := hr m hwm (by omega) (by omega)
          have e : min (m + w) n = b := by omega
          rwa [e] at q
        refine V.call rfl rfl rfl rfl rfl Try.func48 rfl (by decide) [0] (by decide) (all_lt (by rfl)) (by (first | rfl | ((conv => cbv); (repeat' apply And.intro) <;> first | rfl | trivial | (first | rfl | omega | (simp (disch := omega) only [hS.glob, wraps, plain, Int.ofNat_eq_natCast]; first | done | rfl | omega | (simp; done) | (simp; omega)) | (simp (disch := omega) only [hS.glob, wraps, plain, Int.ofNat_eq_natCast, Vx.toN]; omega))))) (by rfl) (f48_ok n hn (b - a) l hl a m b (Nat.le_refl _) (by omega) (by omega) (by omega) s1 s2 (ofN a) (ofN m) (ofN b) (by simp only [hS.glob, plain]) (by simp only [hS.glob, plain]) (by simp only [hS.glob, plain])) ?_
        rintro r Hc ⟨rfl, k, rfl, k1, k2⟩
        refine V.goF (by first | exact trivial | assumption) Try.func44 tl_ok mixed hS.ops [] 400 ?_
        intro VV VA W hVV hVA hW
        conv => cbv
        rw [hVV]
        clear hVV hVA VV VA hW W
        have e : min (a + w2) n = b := by omega
        refine V.to (hback2 (b, k) ⟨by rw [hb2]; exact Nat.dvd_add ha (Nat.dvd_refl _), by simp only; omega, by rw [hb2]; exact hb.step (by omega) ha (by rw [e]; exact k1) (fun i hi => k2.out i (by omega)), hr.rest (by simp only; omega) (fun i i1 i2 => k2.out i (by simp only at i1; omega)), ht.trans (k2.widen (Nat.zero_le _) (by omega) (by omega))⟩ (by simp only; omega)) (by (repeat' first | exact trivial | rfl | (refine And.intro ?_ ?_) | (refine sti ?_; (first | rfl | omega | (simp (disch := omega) only [hS.glob, wraps, plain, Int.ofNat_eq_natCast]; first | done | rfl | omega | (simp; done) | (simp; omega)) | (simp (disch := omega) only [hS.glob, wraps, plain, Int.ofNat_eq_natCast, Vx.toN]; omega))) | (refine slq ?_ ?_ ?_ <;> (first | rfl | omega | (simp (disch := omega) only [hS.glob, wraps, plain, Int.ofNat_eq_natCast]; first | done | rfl | omega | (simp; done) | (simp; omega)) | (simp (disch := omega) only [hS.glob, wraps, plain, Int.ofNat_eq_natCast, Vx.toN]; omega))) | (refine ptq ?_ ?_ ?_ <;> (first | rfl | omega | (simp (disch := omega) only [hS.glob, wraps, plain, Int.ofNat_eq_natCast]; first | done | rfl | omega | (simp; done) | (simp; omega)) | (simp (disch := omega) only [hS.glob, wraps, plain, Int.ofNat_eq_natCast, Vx.toN]; omega))) | (refine blq ?_; (first | rfl | omega | (simp (disch := omega) only [hS.glob, wraps, plain, Int.ofNat_eq_natCast]; first | done | rfl | omega | (simp; done) | (simp; omega)) | (simp (disch := omega) only [hS.glob, wraps, plain, Int.ofNat_eq_natCast, Vx.toN]; omega))))) rfl (by (repeat' first | exact trivial | rfl | exact Nat.le_refl _ | exact (fun _ _ => rfl) | (refine And.intro ?_ ?_) | (simp only [hS.glob, plain]; first | done | omega))) (by rw [hC]; simp)
      · conv => cbv
        simp (disch := first | omega | (simp only [hS.glob, wraps, plain, Int.ofNat_eq_natCast]; omega)) only [hS.glob, wraps, plain, Int.ofNat_eq_natCast] at h3
        simp only [em]
        have fin : ∀ k, Srt rank k a n → Stb rank a n l k → Blk k n w2 0 n ∧ Stb rank 0 n g k := by
          intro k k1 k2
          have e : min (a + w2) n = n := by omega
          exact ⟨fun c c1 c2 c3 => hb.step (by omega) ha (by rw [e]; exact k1) (fun i hi => k2.out i (by omega)) c c1 c2 (by omega), ht.trans (k2.widen (Nat.zero_le _) (by omega) (by omega))⟩
        cases h4 : ilt (ofN m) (ofN n)
        · conv => cbv
          simp (disch := first | omega | (simp only [hS.glob, wraps, plain, Int.ofNat_eq_natCast]; omega)) only [hS.glob, wraps, plain, Int.ofNat_eq_natCast] at h4
          rw [hVV]
          clear hVV hVA VV VA hW W
          have s1 : Srt rank l a n := by
            rcases Nat.lt_or_ge a n with q | q
            · have q := hr a hwa (Nat.le_refl _) q
              have e : min (a + w) n = n := by omega
              rwa [e] at q
            · exact Srt.short (by omega)
          obtain ⟨r1, r2⟩ := fin l s1 (.refl fun _ => rfl)
          refine V.to (hback (w2, l) ⟨by simp only; omega, by simp only; omega, r1, r2⟩ (by simp only; omega)) (by (repeat' first | exact trivial | rfl | (refine And.intro ?_ ?_) | (refine sti ?_; (first | rfl | omega | (simp (disch := omega) only [hS.glob, wraps, plain, Int.ofNat_eq_natCast]; first | done | rfl | omega | (simp; done) | (simp; omega)) | (simp (disch := omega) only [hS.glob, wraps, plain, Int.ofNat_eq_natCast, Vx.toN]; omega))) | (refine slq ?_ ?_ ?_ <;> (first | rfl | omega | (simp (disch := omega) only [hS.glob, wraps, plain, Int.ofNat_eq_natCast]; first | done | rfl | omega | (simp; done) | (simp; omega)) | (simp (disch := omega) only [hS.glob, wraps, plain, Int.ofNat_eq_natCast, Vx.toN]; omega))) | (refine ptq ?_ ?_ ?_ <;> (first | rfl | omega | (simp (disch := omega) only [hS.glob, wraps, plain, Int.ofNat_eq_natCast]; first | done | rfl | omega | (simp; done) | (simp; omega)) | (simp (disch := omega) only [hS.glob, wraps, plain, Int.ofNat_eq_natCast, Vx.toN]; omega))) | (refine blq ?_; (first | rfl | omega | (simp (disch := omega) only [hS.glob, wraps, plain, Int.ofNat_eq_natCast]; first | done | rfl | omega | (simp; done) | (simp; omega)) | (simp (disch := omega) only [hS.glob, wraps, plain, Int.ofNat_eq_natCast, Vx.toN]; omega))))) rfl (by (repeat' first | exact trivial | rfl | exact Nat.le_refl _ | exact (fun _ _ => rfl) | (refine And.intro ?_ ?_) | (simp only [hS.glob, plain]; first | done | omega))) (by rw [hC]; simp)
        · conv => cbv
          simp (disch := first | omega | (simp only [hS.glob, wraps, plain, Int.ofNat_eq_natCast]; omega)) only [hS.glob, wraps, plain, Int.ofNat_eq_natCast] at h4
          rw [hVV]
          clear hVV hVA VV VA hW W
          have s1 : Srt rank l a m := by
            have q := hr a hwa (Nat.le_refl _) (by omega)
            have e : min (a + w) n = m := by omega
            rwa [e] at q
          have s2 : Srt rank l m n := by
            have q := hr m hwm (by omega) (by omega)
            have e : min (m + w) n = n := by omega
            rwa [e] at q
          refine V.call rfl rfl rfl rfl rfl Try.func48 rfl (by decide) [0] (by decide) (all_lt (by rfl)) (by (first | rfl | ((conv => cbv); (repeat' apply And.intro) <;> first | rfl | trivial | (first | rfl | omega | (simp (disch := omega) only [hS.glob, wraps, plain, Int.ofNat_eq_natCast]; first | done | rfl | omega | (simp; done) | (simp; omega)) | (simp (disch := omega) only [hS.glob, wraps, plain, Int.ofNat_eq_natCast, Vx.toN]; omega))))) (by rfl) (f48_ok n hn (n - a) l hl a m n (Nat.le_refl _) (by omega) (by omega) (by omega) s1 s2 (ofN a) (ofN m) (ofN n) (by simp only [hS.glob, plain]) (by simp only [hS.glob, plain]) (by simp only [hS.glob, plain])) ?_
          rintro r Hc ⟨rfl, k, rfl, k1, k2⟩
          obtain ⟨r1, r2⟩ := fin k k1 k2
          refine V.goF (by first | exact trivial | assumption) Try.func44 tl_ok mixed hS.ops [] 400 ?_
          intro VV VA W hVV hVA hW
          conv => cbv
          rw [hVV]
          clear hVV hVA VV VA hW W
          refine V.to (hback (w2, k) ⟨by simp only; omega, by simp only; omega, r1, r2⟩ (by simp only; omega)) (by (repeat' first | exact trivial | rfl | (refine And.intro ?_ ?_) | (refine sti ?_; (first | rfl | omega | (simp (disch := omega) only [hS.glob, wraps, plain, Int.ofNat_eq_natCast]; first | done | rfl | omega | (simp; done) | (simp; omega)) | (simp (disch := omega) only [hS.glob, wraps, plain, Int.ofNat_eq_natCast, Vx.toN]; omega))) | (refine slq ?_ ?_ ?_ <;> (first | rfl | omega | (simp (disch := omega) only [hS.glob, wraps, plain, Int.ofNat_eq_natCast]; first | done | rfl | omega | (simp; done) | (simp; omega)) | (simp (disch := omega) only [hS.glob, wraps, plain, Int.ofNat_eq_natCast, Vx.toN]; omega))) | (refine ptq ?_ ?_ ?_ <;> (first | rfl | omega | (simp (disch := omega) only [hS.glob, wraps, plain, Int.ofNat_eq_natCast]; first | done | rfl | omega | (simp; done) | (simp; omega)) | (simp (disch := omega) only [hS.glob, wraps, plain, Int.ofNat_eq_natCast, Vx.toN]; omega))) | (refine blq ?_; (first | rfl | omega | (simp (disch := omega) only [hS.glob, wraps, plain, Int.ofNat_eq_natCast]; first | done | rfl | omega | (simp; done) | (simp; omega)) | (simp (disch := omega) only [hS.glob, wraps, plain, Int.ofNat_eq_natCast, Vx.toN]; omega))))) rfl (by (repeat' first | exact trivial | rfl | exact Nat.le_refl _ | exact (fun _ _ => rfl) | (refine And.intro ?_ ?_) | (simp only [hS.glob, plain]; first | done | omega))) (by rw [hC]; simp)
end Go.Proofs.Ytffahckigenfcaa

/- A list, gone through and gathered anew. -/
namespace Go.Proofs.Ytffahckigenfcaa
open Go Vx
theorem f33_ok (n : Nat) (g : Nat → Int) : FSpec Try.prog 33 [.rows 1 n (icol .u64 g)] [] (fun r H' => r = .fn (.func 41) [] [.ptr 0 0 0] ∧ H' = [some ⟨34, 1, .lit [[.rows 1 n (icol .u64 g)]]⟩]) := by
  refine FSpec.of (fn := Try.f33) Try.func33 rfl rfl (by simp) fun C hC => ?_
  obtain ⟨iadd, isub, imul, iquo, irem, iband, ibor, ibxor, ibandn, ishl, ishr, iconv, ieq, ine, ilt, ile, igt, ige, bbeq, bbne, bnot, bband, sseq, ssne, sscat, sssub, sslen, sssz, ssbyte, toN, ofN, addN, subN, eqN, ltB, leN, imx, imn, inb, leb, sslt, ltN, fit, ne0, ge0, ssfit, minN, inR, bcol, bstr, isBy, hS⟩ := names
  refine V.goF (by first | exact trivial | assumption) Try.func33 tl_ok mixed hS.ops [] 400 ?_
  intro VV VA W hVV hVA hW
  conv => cbv
def hA (n : Nat) (g : Nat → Int) (m : Nat) (a : Nat → Int) : Hp := [some ⟨34, 1, .lit [[.rows 1 n (icol .u64 g)]]⟩, some ⟨34, 1, .lit [[.sl 2 0 m]]⟩, some ⟨22, 1, .arr m (icol .u64 a)⟩]
theorem f43_ok1 (n : Nat) (hn : n ≤ 1000000) (g : Nat → Int) : FSpec Try.prog 43 [.nil .slice, .fn (.func 41) [] [.ptr 0 0 0]] [some ⟨34, 1, .lit [[.rows 1 n (icol .u64 g)]]⟩] (fun r H' => r = .sl 2 0 n ∧ ∃ a, H' = hA n g n a ∧ ∀ j, j < n → a j = g j) := by
  obtain ⟨Q, hQ⟩ : ∃ Q : AV → Hp → Prop, Q = (fun r H' => r = .sl 2 0 n ∧ ∃ a, H' = hA n g n a ∧ ∀ j, j < n → a j = g j) := ⟨_, rfl⟩
  rw [← hQ]
  refine FSpec.of (fn := Try.f43) Try.func43 rfl rfl (by simp) fun C hC => ?_
  obtain ⟨iadd, isub, imul, iquo, irem, iband, ibor, ibxor, ibandn, ishl, ishr, iconv, ieq, ine, ilt, ile, igt, ige, bbeq, bbne, bnot, bband, sseq, ssne, sscat, sssub, sslen, sssz, ssbyte, toN, ofN, addN, subN, eqN, ltB, leN, imx, imn, inb, leb, sslt, ltN, fit, ne0, ge0, ssfit, minN, inR, bcol, bstr, isBy, hS⟩ := names
  refine V.goF (by first | exact trivial | assumption) Try.func43 tl_ok mixed hS.ops [] 400 ?_
  intro VV VA W hVV hVA hW
  conv => cbv
  rw [hVV]
  clear hVV hVA VV VA hW W
  refine V.rangeFunc (.inl rfl) (g := 41) (gfn := Try.f41) rfl Try.func41 rfl rfl (by decide) rfl rfl (QN := fun H' => ∃ a, H' = hA n g n a ∧ ∀ j, j < n → a j = g j) (QS := fun _ _ => False) ?_ ?_ ?_ ?_
  · intro C' lp hC' it
    refine V.goF (by first | exact trivial | assumption) Try.func41 tl_ok mixed hS.ops [] 400 ?_
    intro VV VA W hVV hVA hW
    conv => cbv
    rw [hVV]
    clear hVV hVA VV VA hW W
    refine V.phantomOb 1 0 22 1 (icol .u64 (fun _ => 0)) rfl rfl ?_
    refine V.to (s' := [(7, .int .i64 (ofN 0)), (6, .int .i64 (ofN n)), (5, .rows 1 n (icol .u64 g)), (0, .fn (.yield lp) [] [])]) (H' := hA n g 0 (fun _ => 0)) ?_ (by (repeat' first | exact trivial | rfl | (refine And.intro ?_ ?_) | (refine sti ?_; (first | rfl | omega | (simp (disch := omega) only [hS.glob, wraps, plain, Int.ofNat_eq_natCast]; first | done | rfl | omega | (simp; done) | (simp; omega)) | (simp (disch := omega) only [hS.glob, wraps, plain, Int.ofNat_eq_natCast, Vx.toN]; omega))) | (refine slq ?_ ?_ ?_ <;> (first | rfl | omega | (simp (disch := omega) only [hS.glob, wraps, plain, Int.ofNat_eq_natCast]; first | done | rfl | omega | (simp; done) | (simp; omega)) | (simp (disch := omega) only [hS.glob, wraps, plain, Int.ofNat_eq_natCast, Vx.toN]; omega))) | (refine ptq ?_ ?_ ?_ <;> (first | rfl | omega | (simp (disch := omega) only [hS.glob, wraps, plain, Int.ofNat_eq_natCast]; first | done | rfl | omega | (simp; done) | (simp; omega)) | (simp (disch := omega) only [hS.glob, wraps, plain, Int.ofNat_eq_natCast, Vx.toN]; omega))) | (refine blq ?_; (first | rfl | omega | (simp (disch := omega) only [hS.glob, wraps, plain, Int.ofNat_eq_natCast]; first | done | rfl | omega | (simp; done) | (simp; omega)) | (simp (disch := omega) only [hS.glob, wraps, plain, Int.ofNat_eq_natCast, Vx.toN]; omega))))) rfl (by unfold hA; (repeat' first | exact trivial | rfl | exact Nat.le_refl _ | exact (fun _ _ => rfl) | (refine And.intro ?_ ?_) | (simp only [hS.glob, plain]; first | done | omega))) (by rw [hC']; simp [hA])
    refine V.loop (γ := Nat × (Nat → Int)) (fun p => p.1 ≤ n ∧ ∀ j, j < p.1 → p.2 j = g j) (fun p => [(7, .int .i64 (ofN p.1)), (6, .int .i64 (ofN n)), (5, .rows 1 n (icol .u64 g)), (0, .fn (.yield lp) [] [])]) (fun p => hA n g p.1 p.2) (fun p => n - p.1) ?_ (0, fun _ => 0) ⟨Nat.zero_le _, fun j hj => absurd hj (Nat.not_lt_zero _)⟩
    rintro ⟨i, a⟩ ⟨hi, ha⟩ hback
    dsimp only at hi ha hback ⊢
    unfold hA
    refine V.goF (by first | exact trivial | assumption) Try.func41 tl_ok mixed hS.ops [] 400 ?_
    intro VV VA W hVV hVA hW
    conv => cbv
    cases h1 : ilt (ofN i) (ofN n)
    · conv => cbv
      simp (disch := first | omega | (simp only [hS.glob, wraps, plain, Int.ofNat_eq_natCast]; omega)) only [hS.glob, wraps, plain, Int.ofNat_eq_natCast] at h1
      obtain rfl : i = n := by omega
      exact ⟨a, rfl, ha⟩
    · conv => cbv
      simp (disch := first | omega | (simp only [hS.glob, wraps, plain, Int.ofNat_eq_natCast]; omega)) only [hS.glob, wraps, plain, Int.ofNat_eq_natCast] at h1
      repeat (refine ⟨by first | (rw [hW]; show ordOk _ _ _ = true; kernel_rfl) | (first | trivial | omega | (simp (disch := omega) only [hS.glob, wraps, plain, Int.ofNat_eq_natCast]; first | done | omega | trivial | (simp; done) | (simp; omega) | (constructor <;> omega)) | (simp (disch := omega) only [hS.glob, wraps, plain, Int.ofNat_eq_natCast, Vx.toN]; omega)), ?_⟩)
      simp only [hS.tidy]
      rw [hVV]
      clear hVV hVA VV VA hW W
      obtain ⟨QR, hQR⟩ : ∃ QR : Option Code → Hp → Prop, QR = fun j H' => j = none ∧ ∃ w b, H' = [some ⟨34, 1, .lit [[.rows 1 n (icol .u64 g)]]⟩, some ⟨34, 1, .lit [[.sl 4 0 (i + 1)]]⟩, none, w, some ⟨22, 1, .arr (i + 1) b⟩] ∧ ∀ q, q < i + 1 → b q = [.int .u64 (g q)] := ⟨_, rfl⟩
      refine V.yield it rfl rfl rfl rfl rfl rfl rfl rfl (QR := QR) ?_ ?_ ?_
      · clear it hback
        intro C2 hC2 hR2
        have hfit := hR2.fits QR
        refine V.goF (by first | exact trivial | assumption) Try.func43 tl_ok mixed hS.ops [] 400 ?_
        intro VV VA W hVV hVA hW
        conv => cbv
        rw [hVV]
        clear hVV hVA VV VA hW W
        refine V.beginRound hR2 fun C3 hC3 hfit3 => ?_
        refine V.goF (by first | exact trivial | assumption) Try.func43 tl_ok mixed hS.ops [] 400 ?_
        intro VV VA W hVV hVA hW
        conv => cbv
        repeat (refine ⟨by first | (rw [hW]; show ordOk _ _ _ = true; kernel_rfl) | (first | trivial | omega | (simp (disch := omega) only [hS.glob, wraps, plain, Int.ofNat_eq_natCast]; first | done | omega | trivial | (simp; done) | (simp; omega) | (constructor <;> omega)) | (simp (disch := omega) only [hS.glob, wraps, plain, Int.ofNat_eq_natCast, Vx.toN]; omega)), ?_⟩)
        have ea : addN i 1 = i + 1 := by simp [hS.glob, Vx.addN]
        simp only [ea]
        rw [hQR]
        refine ⟨rfl, _, _, rfl, fun q hq => ?_⟩
        cases hr : ltB q i
        · simp only [hS.glob, plain] at hr
          have e1 : q = i := by omega
          rw [e1]
          simp [hS.glob, Vx.subN]
        · simp only [hS.glob, plain] at hr
          simp only [icol, ha q hr]
      · rw [hQR]
        rintro H' ⟨_, w, b, rfl, hb⟩
        refine V.goF (by first | exact trivial | assumption) Try.func41 tl_ok mixed hS.ops [] 400 ?_
        intro VV VA W hVV hVA hW
        conv => cbv
        rw [hVV]
        clear hVV hVA VV VA hW W
        refine V.pick [0, 1, 4] (by decide) (by rw [hC']; exact begins_of (n := 2) (by decide)) rfl rfl ?_
        refine V.to (hback (i + 1, g) ⟨by simp only; omega, fun _ _ => rfl⟩ (by simp only; omega)) (by (repeat' first | exact trivial | rfl | (refine And.intro ?_ ?_) | (refine sti ?_; (first | rfl | omega | (simp (disch := omega) only [hS.glob, wraps, plain, Int.ofNat_eq_natCast]; first | done | rfl | omega | (simp; done) | (simp; omega)) | (simp (disch := omega) only [hS.glob, wraps, plain, Int.ofNat_eq_natCast, Vx.toN]; omega))) | (refine slq ?_ ?_ ?_ <;> (first | rfl | omega | (simp (disch := omega) only [hS.glob, wraps, plain, Int.ofNat_eq_natCast]; first | done | rfl | omega | (simp; done) | (simp; omega)) | (simp (disch := omega) only [hS.glob, wraps, plain, Int.ofNat_eq_natCast, Vx.toN]; omega))) | (refine ptq ?_ ?_ ?_ <;> (first | rfl | omega | (simp (disch := omega) only [hS.glob, wraps, plain, Int.ofNat_eq_natCast]; first | done | rfl | omega | (simp; done) | (simp; omega)) | (simp (disch := omega) only [hS.glob, wraps, plain, Int.ofNat_eq_natCast, Vx.toN]; omega))) | (refine blq ?_; (first | rfl | omega | (simp (disch := omega) only [hS.glob, wraps, plain, Int.ofNat_eq_natCast]; first | done | rfl | omega | (simp; done) | (simp; omega)) | (simp (disch := omega) only [hS.glob, wraps, plain, Int.ofNat_eq_natCast, Vx.toN]; omega))))) rfl ?_ (by rw [hC']; simp [hA])
        unfold hA
        (repeat' first | exact trivial | rfl | exact Nat.le_refl _ | exact (fun _ _ => rfl) | (refine And.intro ?_ ?_) | (simp only [hS.glob, plain]; first | done | omega))
        intro q hq
        rw [hb q hq]
        rfl
      · rw [hQR]
        rintro j H' ⟨h, _⟩
        cases h
  · rintro H' ⟨a, rfl, ha⟩ C2 hC2
    unfold hA
    refine V.goF (by first | exact trivial | assumption) Try.func43 tl_ok mixed hS.ops [] 400 ?_
    intro VV VA W hVV hVA hW
    conv => cbv
    rw [hQ]
    exact ⟨rfl, a, rfl, ha⟩
  · rintro j H' h
    exact h.elim
  · rintro H' h
    exact h
theorem f43_ok (n : Nat) (hn : n ≤ 1000000) (g : Nat → Int) : FSpec Try.prog 43 [.nil .slice, .fn (.func 41) [] [.ptr 0 0 0]] [some ⟨34, 1, .lit [[.rows 1 n (icol .u64 g)]]⟩] (fun r H' => r = .sl 1 0 n ∧ H' = [some ⟨34, 1, .lit [[.rows 1 n (icol .u64 g)]]⟩, some ⟨22, 1, .arr n (icol .u64 g)⟩]) := by
  refine FSpec.repick (FSpec.weaken (f43_ok1 n hn g) (Q' := fun r H' => r = .sl 2 0 n ∧ H' = [some ⟨34, 1, .lit [[.rows 1 n (icol .u64 g)]]⟩, none, some ⟨22, 1, .arr n (icol .u64 g)⟩]) ?_) ?_
  · rintro r H' ⟨rfl, a, rfl, ha⟩
    refine ⟨[some ⟨34, 1, .lit [[.rows 1 n (icol .u64 g)]]⟩, none, some ⟨22, 1, .arr n (icol .u64 g)⟩], ?_, rfl, by simp, rfl, rfl⟩
    simp only [hA, heapCov, ContLe, bndOb, and_true, true_and]
    simp [icol]
    exact ⟨rfl, fun i hi => (ha i hi).symm⟩
  · rintro r H' ⟨rfl, rfl⟩
    exact ⟨[0, 2], by decide, begins_of (n := 1) (by decide), rfl, rfl⟩
theorem f39_ok (n : Nat) (hn : n ≤ 1000000) (g : Nat → Int) : FSpec Try.prog 39 [.fn (.func 41) [] [.ptr 0 0 0]] [some ⟨34, 1, .lit [[.rows 1 n (icol .u64 g)]]⟩] (fun r H' => r = .sl 1 0 n ∧ H' = [some ⟨34, 1, .lit [[.rows 1 n (icol .u64 g)]]⟩, some ⟨22, 1, .arr n (icol .u64 g)⟩]) := by
  refine FSpec.of (fn := Try.f39) Try.func39 rfl rfl (by simp) fun C hC => ?_
  obtain ⟨iadd, isub, imul, iquo, irem, iband, ibor, ibxor, ibandn, ishl, ishr, iconv, ieq, ine, ilt, ile, igt, ige, bbeq, bbne, bnot, bband, sseq, ssne, sscat, sssub, sslen, sssz, ssbyte, toN, ofN, addN, subN, eqN, ltB, leN, imx, imn, inb, leb, sslt, ltN, fit, ne0, ge0, ssfit, minN, inR, bcol, bstr, isBy, hS⟩ := names
  refine V.goF (by first | exact trivial | assumption) Try.func39 tl_ok mixed hS.ops [] 400 ?_
  intro VV VA W hVV hVA hW
  conv => cbv
  rw [hVV]
  clear hVV hVA VV VA hW W
  refine V.call rfl rfl rfl rfl rfl Try.func43 rfl (by decide) [0] (by decide) (all_lt (by rfl)) (by (first | rfl | ((conv => cbv); (repeat' apply And.intro) <;> first | rfl | trivial | (first | rfl | omega | (simp (disch := omega) only [hS.glob, wraps, plain, Int.ofNat_eq_natCast]; first | done | rfl | omega | (simp; done) | (simp; omega)) | (simp (disch := omega) only [hS.glob, wraps, plain, Int.ofNat_eq_natCast, Vx.toN]; omega))))) (by rfl) (f43_ok n hn g) ?_
  rintro r Hc ⟨rfl, rfl⟩
  refine V.goF (by first | exact trivial | assumption) Try.func39 tl_ok mixed hS.ops [] 400 ?_
  intro VV VA W hVV hVA hW
  conv => cbv
  trivial
theorem f40_ok (n : Nat) (hn : n ≤ 1000000) (g : Nat → Int) (hu : ∀ j, j < n → inU (g j)) : FSpec Try.prog 40 [.sl 0 0 n, .fn (.func 15) [] []] [some ⟨22, 1, .arr n (icol .u64 g)⟩] (fun r H' => r = .tup [] ∧ ∃ h, H' = [some ⟨22, 1, .arr n (icol .u64 h)⟩] ∧ Srt rank h 0 n ∧ Stb rank 0 n g h) := by
  refine FSpec.of (fn := Try.f40) Try.func40 rfl rfl (by simp) fun C hC => ?_
  obtain ⟨iadd, isub, imul, iquo, irem, iband, ibor, ibxor, ibandn, ishl, ishr, iconv, ieq, ine, ilt, ile, igt, ige, bbeq, bbne, bnot, bband, sseq, ssne, sscat, sssub, sslen, sssz, ssbyte, toN, ofN, addN, subN, eqN, ltB, leN, imx, imn, inb, leb, sslt, ltN, fit, ne0, ge0, ssfit, minN, inR, bcol, bstr, isBy, hS⟩ := names
  refine V.goF (by first | exact trivial | assumption) Try.func40 tl_ok mixed hS.ops [] 400 ?_
  intro VV VA W hVV hVA hW
  conv => cbv
  rw [hVV]
  clear hVV hVA VV VA hW W
  refine V.call rfl rfl rfl rfl rfl Try.func44 rfl (by decide) [0] (by decide) (all_lt (by rfl)) (by (first | rfl | ((conv => cbv); (repeat' apply And.intro) <;> first | rfl | trivial | (first | rfl | omega | (simp (disch := omega) only [hS.glob, wraps, plain, Int.ofNat_eq_natCast]; first | done | rfl | omega | (simp; done) | (simp; omega)) | (simp (disch := omega) only [hS.glob, wraps, plain, Int.ofNat_eq_natCast, Vx.toN]; omega))))) (by rfl) (f44_ok n hn g hu (ofN n) (by simp only [hS.glob, plain])) ?_
  rintro r Hc ⟨rfl, h, rfl, h1, h2⟩
  refine V.goF (by first | exact trivial | assumption) Try.func40 tl_ok mixed hS.ops [] 400 ?_
  intro VV VA W hVV hVA hW
  conv => cbv
  exact ⟨rfl, h, rfl, h1, h2⟩
theorem f32_ok (n : Nat) (hn : n ≤ 1000000) (g : Nat → Int) (hu : ∀ j, j < n → inU (g j)) : FSpec Try.prog 32 [.fn (.func 41) [] [.ptr 0 0 0], .fn (.func 15) [] []] [some ⟨34, 1, .lit [[.rows 1 n (icol .u64 g)]]⟩] (fun r H' => r = .sl 1 0 n ∧ ∃ h, H' = [some ⟨34, 1, .lit [[.rows 1 n (icol .u64 g)]]⟩, some ⟨22, 1, .arr n (icol .u64 h)⟩] ∧ Srt rank h 0 n ∧ Stb rank 0 n g h) := by
  refine FSpec.of (fn := Try.f32) Try.func32 rfl rfl (by simp) fun C hC => ?_
  obtain ⟨iadd, isub, imul, iquo, irem, iband, ibor, ibxor, ibandn, ishl, ishr, iconv, ieq, ine, ilt, ile, igt, ige, bbeq, bbne, bnot, bband, sseq, ssne, sscat, sssub, sslen, sssz, ssbyte, toN, ofN, addN, subN, eqN, ltB, leN, imx, imn, inb, leb, sslt, ltN, fit, ne0, ge0, ssfit, minN, inR, bcol, bstr, isBy, hS⟩ := names
  refine V.goF (by first | exact trivial | assumption) Try.func32 tl_ok mixed hS.ops [] 400 ?_
  intro VV VA W hVV hVA hW
  conv => cbv
  rw [hVV]
  clear hVV hVA VV VA hW W
  refine V.call rfl rfl rfl rfl rfl Try.func39 rfl (by decide) [0] (by decide) (all_lt (by rfl)) (by (first | rfl | ((conv => cbv); (repeat' apply And.intro) <;> first | rfl | trivial | (first | rfl | omega | (simp (disch := omega) only [hS.glob, wraps, plain, Int.ofNat_eq_natCast]; first | done | rfl | omega | (simp; done) | (simp; omega)) | (simp (disch := omega) only [hS.glob, wraps, plain, Int.ofNat_eq_natCast, Vx.toN]; omega))))) (by rfl) (f39_ok n hn g) ?_
  rintro r Hc ⟨rfl, rfl⟩
  refine V.goF (by first | exact trivial | assumption) Try.func32 tl_ok mixed hS.ops [] 400 ?_
  intro VV VA W hVV hVA hW
  conv => cbv
  rw [hVV]
  clear hVV hVA VV VA hW W
  refine V.call rfl rfl rfl rfl rfl Try.func40 rfl (by decide) [1] (by decide) (all_lt (by rfl)) (by (first | rfl | ((conv => cbv); (repeat' apply And.intro) <;> first | rfl | trivial | (first | rfl | omega | (simp (disch := omega) only [hS.glob, wraps, plain, Int.ofNat_eq_natCast]; first | done | rfl | omega | (simp; done) | (simp; omega)) | (simp (disch := omega) only [hS.glob, wraps, plain, Int.ofNat_eq_natCast, Vx.toN]; omega))))) (by rfl) (f40_ok n hn g hu) ?_
  rintro r Hc ⟨rfl, h, rfl, h1, h2⟩
  refine V.goF (by first | exact trivial | assumption) Try.func32 tl_ok mixed hS.ops [] 400 ?_
  intro VV VA W hVV hVA hW
  conv => cbv
  exact ⟨h, rfl, h1, h2⟩
end Go.Proofs.Ytffahckigenfcaa
