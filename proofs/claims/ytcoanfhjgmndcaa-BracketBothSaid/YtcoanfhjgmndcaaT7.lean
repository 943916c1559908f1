/- Contracts of functions by an evaluator of the model: its part T7. -/
import Derived.Test.YtcoanfhjgmndcaaT6
set_option linter.all false
/- The law of the deepest brackets. -/
namespace Go.Proofs.Ytcoanfhjgmndcaa
open Go Vx

/-- n that open, n that close, all of one kind. -/
def dL : Nat → Int := fun _ => 13
def dK (n : Nat) : Nat → Int := fun i => if i < n then 1 else 2
theorem dk_open (n i : Nat) (h : i < n) : kindM (2 * n) dL (dK n) i = 1 := by
  unfold kindM dL dK
  rw [if_pos ⟨by omega, rfl⟩, if_pos h, if_pos rfl]
theorem dk_close (n i : Nat) (h : n ≤ i) (h2 : i < 2 * n) : kindM (2 * n) dL (dK n) i = 2 := by
  unfold kindM dL dK
  rw [if_pos ⟨h2, rfl⟩, if_neg (show ¬ i < n by omega)]
  rfl
theorem deep_open (n : Nat) (id : Int) : ∀ i, i ≤ n → i ≤ 63 → prun (2 * n) dL (dK n) (fun _ => id) i = ⟨List.range i, [], false⟩
  | 0, _, _ => rfl
  | i + 1, h, h6 => by
    rw [prun, deep_open n id i (by omega) (by omega)]
    have hk : kindM (2 * n) dL (dK n) i = 1 := dk_open n i (by omega)
    rw [hk]
    unfold pstep
    simp only [Bool.false_eq_true, if_false, if_true, List.length_range]
    rw [if_neg (by omega), List.range_succ]
theorem deep_many (n : Nat) (id : Int) (hn : 63 < n) (i : Nat) : prun (2 * n) dL (dK n) (fun _ => id) (64 + i) = ⟨List.range 63, [], true⟩ := by
  have h64 : prun (2 * n) dL (dK n) (fun _ => id) 64 = ⟨List.range 63, [], true⟩ := by
    rw [prun, deep_open n id 63 (by omega) (by omega)]
    have hk : kindM (2 * n) dL (dK n) 63 = 1 := dk_open n 63 (by omega)
    rw [hk]
    unfold pstep
    simp
  rw [prun_stop _ _ _ _ 64 (by rw [h64])]
  exact h64
theorem findB_top (f : Nat → Bool) (n : Nat) (h : f n = true) : findB f (n + 1) = some n := by rw [findB, if_pos h]
theorem deep_close (n : Nat) (id : Int) (hn : n ≤ 63) : ∀ d, d ≤ n → prun (2 * n) dL (dK n) (fun _ => id) (n + d) = ⟨List.range (n - d), (List.range d).map (fun j => (n - 1 - j, n + j)), false⟩
  | 0, _ => by simpa using deep_open n id n (Nat.le_refl _) hn
  | d + 1, h => by
    rw [← Nat.add_assoc, prun, deep_close n id hn d (by omega)]
    have hk : kindM (2 * n) dL (dK n) (n + d) = 2 := dk_close n (n + d) (by omega) (by omega)
    rw [hk]
    unfold pstep
    simp only [Bool.false_eq_true, if_false, List.length_range]
    rw [if_neg (by decide), if_pos trivial, show n - d = (n - (d + 1)) + 1 by omega, findB_top _ _ (by simp)]
    simp only
    congr 1
    · rw [List.take_range]
      congr 1
      omega
    · rw [List.range_succ (n := d), List.map_append]
      congr 1
      simp
      omega
theorem deep_few (k : Nat) (hk : k ≤ 63) (id : Int) : pairsL (2 * k) (2 * k) dL (dK k) (fun _ => id) = (List.range k).map fun j => (j, 2 * k - 1 - j) := by
  unfold pairsL
  have hI := pinv (2 * k) dL (dK k) (fun _ => id) (2 * k)
  have hd := deep_close k id hk k (Nat.le_refl _)
  rw [Nat.min_self]
  rw [show k + k = 2 * k by omega] at hd
  rw [hd] at hI ⊢
  refine (sorted_canon hI.nodup (fun p hp => ⟨(hI.out p hp).1, (hI.out p hp).2.1⟩) ?_ ?_).symm
  · simp only
    have e : (List.range k).map (fun j => (j, 2 * k - 1 - j)) = ((List.range k).map fun j => (k - 1 - j, k + j)).reverse := by
      apply List.ext_getElem
      · simp
      · intro i h1 h2
        simp only [List.length_map, List.length_range] at h1
        simp only [List.getElem_map, List.getElem_range, List.getElem_reverse, List.length_map, List.length_range, Prod.mk.injEq]
        omega
    rw [e]
    exact List.reverse_perm _
  · rw [List.pairwise_map]
    exact List.Pairwise.imp (fun h => Nat.le_of_lt h) List.pairwise_lt_range
theorem deep_none (k : Nat) (hk : 63 < k) (id : Int) : pairsL (2 * k) (2 * k) dL (dK k) (fun _ => id) = [] := by
  unfold pairsL
  have := deep_many k id hk (2 * k - 64)
  rw [show 64 + (2 * k - 64) = 2 * k by omega] at this
  rw [Nat.min_self, this]
  simp [canon, part]
end Go.Proofs.Ytcoanfhjgmndcaa

/- The law of the deepest brackets: the walk. -/
namespace Go.Proofs.Ytcoanfhjgmndcaa
open Go Vx

theorem f7_ok1 (x id : Int) : FSpec Try.prog 7 [.int .i64 x, .int .i64 id] [] (fun r H' => r = .bool true) := by
  have h8 := f8_ok
  obtain ⟨b, hb, hb2⟩ := band_le x 127 (by decide)
  obtain ⟨k, hk⟩ : ∃ k, k = 1 + b := ⟨_, rfl⟩
  refine FSpec.of (fn := Try.f7) Try.func7 rfl rfl (by simp) fun C hC => ?_
  obtain ⟨iadd, isub, imul, iquo, irem, iband, ibor, ibxor, ibandn, ishl, ishr, iconv, ieq, ine, ilt, ile, igt, ige, bbeq, bbne, bnot, bband, sseq, ssne, sscat, sssub, sslen, sssz, ssbyte, toN, ofN, addN, subN, eqN, ltB, leN, imx, imn, inb, leb, sslt, ltN, fit, ne0, ge0, ssfit, minN, inR, hS⟩ := names
  have ek : iadd .i64 1 (iband .i64 x 127) = ofN k := by simp only [hS.glob]; rw [show (127 : Int) = ((127 : Nat) : Int) from rfl, hb]; exact (wraps.1 1 b (by omega)).trans (by simp [Vx.ofN, hk])
  refine V.goF (by first | exact trivial | assumption) Try.func7 tl_ok mixed hS.ops [] 400 ?_
  intro VV VA W hVV hVA hW
  conv => cbv
  simp only [ek]
  rw [hVV]
  clear hVV hVA VV VA hW W ek
  refine V.phantom 6 32 1 (icol .i64 dL) rfl ?_
  refine V.phantom 7 45 2 (icol2 (dK k) (fun _ => id)) rfl ?_
  obtain ⟨i, hi⟩ : ∃ i, i = 0 := ⟨_, rfl⟩
  refine V.to (s' := [(8, .int .i64 (ofN i)), (6, .sl 0 0 i), (7, .sl 1 0 i), (5, .int .i64 (ofN k)), (1, .int .i64 id)]) (H' := [some ⟨32, 1, .arr i (icol .i64 dL)⟩, some ⟨45, 2, .arr i (icol2 (dK k) (fun _ => id))⟩]) ?_ (by rw [hi]; (repeat' first | exact trivial | rfl | (refine And.intro ?_ ?_) | (refine sti ?_; (first | rfl | omega | (simp (disch := omega) only [hS.glob, wraps, plain, Int.ofNat_eq_natCast]; first | done | rfl | omega | (simp; done) | (simp; omega)) | (simp (disch := omega) only [hS.glob, wraps, plain, Int.ofNat_eq_natCast, Vx.toN]; omega))) | (refine slq ?_ ?_ ?_ <;> (first | rfl | omega | (simp (disch := omega) only [hS.glob, wraps, plain, Int.ofNat_eq_natCast]; first | done | rfl | omega | (simp; done) | (simp; omega)) | (simp (disch := omega) only [hS.glob, wraps, plain, Int.ofNat_eq_natCast, Vx.toN]; omega))) | (refine ptq ?_ ?_ ?_ <;> (first | rfl | omega | (simp (disch := omega) only [hS.glob, wraps, plain, Int.ofNat_eq_natCast]; first | done | rfl | omega | (simp; done) | (simp; omega)) | (simp (disch := omega) only [hS.glob, wraps, plain, Int.ofNat_eq_natCast, Vx.toN]; omega))) | (refine blq ?_; (first | rfl | omega | (simp (disch := omega) only [hS.glob, wraps, plain, Int.ofNat_eq_natCast]; first | done | rfl | omega | (simp; done) | (simp; omega)) | (simp (disch := omega) only [hS.glob, wraps, plain, Int.ofNat_eq_natCast, Vx.toN]; omega))))) rfl (by rw [hi]; (repeat' first | exact trivial | rfl | exact Nat.le_refl _ | exact (fun _ _ => rfl) | (refine And.intro ?_ ?_) | (simp only [hS.glob, plain]; first | done | omega))) (by rw [hC]; exact Nat.zero_le _)
  refine V.loop (γ := Nat) (fun i => i ≤ 2 * k) (fun i => [(8, .int .i64 (ofN i)), (6, .sl 0 0 i), (7, .sl 1 0 i), (5, .int .i64 (ofN k)), (1, .int .i64 id)]) (fun i => [some ⟨32, 1, .arr i (icol .i64 dL)⟩, some ⟨45, 2, .arr i (icol2 (dK k) (fun _ => id))⟩]) (fun i => 2 * k - i) ?_ i (by omega)
  clear hi i
  rintro i hi hback
  refine V.goF (by first | exact trivial | assumption) Try.func7 tl_ok mixed hS.ops [] 400 ?_
  intro VV VA W hVV hVA hW
  conv => cbv
  have e2 : imul .i64 2 (ofN k) = ofN (2 * k) := by simp (disch := first | omega | (simp only [hS.glob, wraps, plain, Int.ofNat_eq_natCast]; omega)) only [hS.glob, wraps, plain, Int.ofNat_eq_natCast]; omega
  simp only [e2]
  cases h1 : ilt (ofN i) (ofN (2 * k))
  · conv => cbv
    simp (disch := first | omega | (simp only [hS.glob, wraps, plain, Int.ofNat_eq_natCast]; omega)) only [hS.glob, wraps, plain, Int.ofNat_eq_natCast] at h1
    obtain rfl : i = 2 * k := by omega
    rw [hVV]
    clear hVV hVA VV VA hW W
    obtain ⟨n, hn⟩ : ∃ n, n = 2 * k := ⟨_, rfl⟩
    rw [← hn]
    refine V.freeze0 33 0 n (by rfl) (by rfl) (by rfl) (by first | decide | omega | exact (Nat.succ_pos _)) (by rfl) (by rfl) (by first | exact Nat.le_refl _ | decide | omega | (simp only [Cont.n]; omega)) ?_
    refine V.freeze0 34 1 n (by rfl) (by rfl) (by rfl) (by first | decide | omega | exact (Nat.succ_pos _)) (by rfl) (by rfl) (by first | exact Nat.le_refl _ | decide | omega | (simp only [Cont.n]; omega)) ?_
    refine V.call rfl rfl rfl rfl rfl Try.func10 rfl (by decide) [] (by simp) (by simp) (by (first | rfl | ((conv => cbv); (repeat' apply And.intro) <;> first | rfl | trivial | (first | rfl | omega | (simp (disch := omega) only [hS.glob, wraps, plain, Int.ofNat_eq_natCast]; first | done | rfl | omega | (simp; done) | (simp; omega)) | (simp (disch := omega) only [hS.glob, wraps, plain, Int.ofNat_eq_natCast, Vx.toN]; omega))))) rfl (f10_ok n n (by omega) (by omega) dL (dK k) (fun _ => id)) ?_
    rintro r Hc ⟨m, a, b, rfl, rfl, htab⟩
    refine V.goF (by first | exact trivial | assumption) Try.func7 tl_ok mixed hS.ops [] 400 ?_
    intro VV VA W hVV hVA hW
    conv => cbv
    cases h3 : igt (ofN k) 63
    · conv => cbv
      simp (disch := first | omega | (simp only [hS.glob, wraps, plain, Int.ofNat_eq_natCast]; omega)) only [hS.glob, wraps, plain, Int.ofNat_eq_natCast] at h3
      have e4 := deep_few k (by omega) id
      rw [← hn] at e4
      rw [e4] at htab
      have hm : m = k := by have := congrArg List.length htab; simpa [tab] using this
      subst hm
      have h0 := tab_get m (fun j => (a j, b j)) 0 (by omega)
      rw [htab] at h0
      simp only [List.getElem?_map, List.getElem?_range (show 0 < m by omega), Option.map_some, castP, Option.some.injEq, Prod.mk.injEq] at h0
      obtain ⟨ha0, hb0⟩ := h0
      clear htab e4
      rw [hVV]
      clear hVV hVA VV VA hW W
      refine V.call rfl rfl rfl rfl rfl Try.func8 rfl (by decide) [] (by simp) (by simp) (by (first | rfl | ((conv => cbv); (repeat' apply And.intro) <;> first | rfl | trivial | (first | rfl | omega | (simp (disch := omega) only [hS.glob, wraps, plain, Int.ofNat_eq_natCast]; first | done | rfl | omega | (simp; done) | (simp; omega)) | (simp (disch := omega) only [hS.glob, wraps, plain, Int.ofNat_eq_natCast, Vx.toN]; omega))))) rfl h8 ?_
      rintro r Hc ⟨rfl, rfl⟩
      refine V.goF (by first | exact trivial | assumption) Try.func7 tl_ok mixed hS.ops [] 400 ?_
      intro VV VA W hVV hVA hW
      conv => cbv
      have e1 : ieq (ofN m) (ofN m) = true := by simp (disch := first | omega | (simp only [hS.glob, wraps, plain, Int.ofNat_eq_natCast]; omega)) only [hS.glob, wraps, plain, Int.ofNat_eq_natCast]
      have e2 : ieq (ofN m) 0 = false := by simp (disch := first | omega | (simp only [hS.glob, wraps, plain, Int.ofNat_eq_natCast]; omega)) only [hS.glob, wraps, plain, Int.ofNat_eq_natCast]; omega
      simp only [e1]
      conv => cbv
      simp only [e2]
      conv => cbv
      repeat (refine ⟨by first | (rw [hW]; show ordOk _ _ _ = true; kernel_rfl) | (first | trivial | omega | (simp (disch := omega) only [hS.glob, wraps, plain, Int.ofNat_eq_natCast]; first | done | omega | trivial | (simp; done) | (simp; omega) | (constructor <;> omega)) | (simp (disch := omega) only [hS.glob, wraps, plain, Int.ofNat_eq_natCast, Vx.toN]; omega)), ?_⟩)
      have x1 : ieq (a (addN 0 (toN 0))) 0 = true := by rw [show addN 0 (toN 0) = 0 by simp (disch := first | omega | (simp only [hS.glob, wraps, plain, Int.ofNat_eq_natCast]; omega)) only [hS.glob, wraps, plain, Int.ofNat_eq_natCast], ← ha0]; simp (disch := first | omega | (simp only [hS.glob, wraps, plain, Int.ofNat_eq_natCast]; omega)) only [hS.glob, wraps, plain, Int.ofNat_eq_natCast]; rfl
      have x2 : ieq (b (addN 0 (toN 0))) (isub .i64 (imul .i64 2 (ofN m)) 1) = true := by rw [show addN 0 (toN 0) = 0 by simp (disch := first | omega | (simp only [hS.glob, wraps, plain, Int.ofNat_eq_natCast]; omega)) only [hS.glob, wraps, plain, Int.ofNat_eq_natCast], ← hb0]; simp (disch := first | omega | (simp only [hS.glob, wraps, plain, Int.ofNat_eq_natCast]; omega)) only [hS.glob, wraps, plain, Int.ofNat_eq_natCast]; omega
      simp only [x1]
      conv => cbv
      repeat (refine ⟨by first | (rw [hW]; show ordOk _ _ _ = true; kernel_rfl) | (first | trivial | omega | (simp (disch := omega) only [hS.glob, wraps, plain, Int.ofNat_eq_natCast]; first | done | omega | trivial | (simp; done) | (simp; omega) | (constructor <;> omega)) | (simp (disch := omega) only [hS.glob, wraps, plain, Int.ofNat_eq_natCast, Vx.toN]; omega)), ?_⟩)
      rw [x2]
    · conv => cbv
      simp (disch := first | omega | (simp only [hS.glob, wraps, plain, Int.ofNat_eq_natCast]; omega)) only [hS.glob, wraps, plain, Int.ofNat_eq_natCast] at h3
      have e4 := deep_none k (by omega) id
      rw [← hn] at e4
      rw [e4] at htab
      have hm : m = 0 := by have := congrArg List.length htab; simpa [tab] using this
      subst hm
      rw [hVV]
      clear hVV hVA VV VA hW W
      refine V.call rfl rfl rfl rfl rfl Try.func8 rfl (by decide) [] (by simp) (by simp) (by (first | rfl | ((conv => cbv); (repeat' apply And.intro) <;> first | rfl | trivial | (first | rfl | omega | (simp (disch := omega) only [hS.glob, wraps, plain, Int.ofNat_eq_natCast]; first | done | rfl | omega | (simp; done) | (simp; omega)) | (simp (disch := omega) only [hS.glob, wraps, plain, Int.ofNat_eq_natCast, Vx.toN]; omega))))) rfl h8 ?_
      rintro r Hc ⟨rfl, rfl⟩
      refine V.goF (by first | exact trivial | assumption) Try.func7 tl_ok mixed hS.ops [] 400 ?_
      intro VV VA W hVV hVA hW
      conv => cbv
      have e1 : ieq (ofN 0) 0 = true := by simp (disch := first | omega | (simp only [hS.glob, wraps, plain, Int.ofNat_eq_natCast]; omega)) only [hS.glob, wraps, plain, Int.ofNat_eq_natCast]; rfl
      have e2 : ieq 0 0 = true := by simp (disch := first | omega | (simp only [hS.glob, wraps, plain, Int.ofNat_eq_natCast]; omega)) only [hS.glob, wraps, plain, Int.ofNat_eq_natCast]
      simp only [e1]
      conv => cbv
      simp only [e2]
      conv => cbv
      trivial
  · conv => cbv
    simp (disch := first | omega | (simp only [hS.glob, wraps, plain, Int.ofNat_eq_natCast]; omega)) only [hS.glob, wraps, plain, Int.ofNat_eq_natCast] at h1
    cases h2 : ige (ofN i) (ofN k)
    · conv => cbv
      simp (disch := first | omega | (simp only [hS.glob, wraps, plain, Int.ofNat_eq_natCast]; omega)) only [hS.glob, wraps, plain, Int.ofNat_eq_natCast] at h2
      have eK : (1 : Int) = dK k i := by rw [dK, if_pos (by omega)]
      repeat (refine ⟨by first | (rw [hW]; show ordOk _ _ _ = true; kernel_rfl) | (first | trivial | omega | (simp (disch := omega) only [hS.glob, wraps, plain, Int.ofNat_eq_natCast]; first | done | omega | trivial | (simp; done) | (simp; omega) | (constructor <;> omega)) | (simp (disch := omega) only [hS.glob, wraps, plain, Int.ofNat_eq_natCast, Vx.toN]; omega)), ?_⟩)
      have ea : addN i 1 = i + 1 := by simp [hS.glob, Vx.addN]
      simp only [ea]
      rw [hVV]
      clear hVV hVA VV VA hW W
      refine V.pick [3, 5] (by decide) (by rw [hC]; exact begins_of rfl) (by rfl) (by rfl) ?_
      exact V.to (hback (i + 1) (by omega) (by omega)) (by (repeat' first | exact trivial | rfl | (refine And.intro ?_ ?_) | (refine sti ?_; (first | rfl | omega | (simp (disch := omega) only [hS.glob, wraps, plain, Int.ofNat_eq_natCast]; first | done | rfl | omega | (simp; done) | (simp; omega)) | (simp (disch := omega) only [hS.glob, wraps, plain, Int.ofNat_eq_natCast, Vx.toN]; omega))) | (refine slq ?_ ?_ ?_ <;> (first | rfl | omega | (simp (disch := omega) only [hS.glob, wraps, plain, Int.ofNat_eq_natCast]; first | done | rfl | omega | (simp; done) | (simp; omega)) | (simp (disch := omega) only [hS.glob, wraps, plain, Int.ofNat_eq_natCast, Vx.toN]; omega))) | (refine ptq ?_ ?_ ?_ <;> (first | rfl | omega | (simp (disch := omega) only [hS.glob, wraps, plain, Int.ofNat_eq_natCast]; first | done | rfl | omega | (simp; done) | (simp; omega)) | (simp (disch := omega) only [hS.glob, wraps, plain, Int.ofNat_eq_natCast, Vx.toN]; omega))) | (refine blq ?_; (first | rfl | omega | (simp (disch := omega) only [hS.glob, wraps, plain, Int.ofNat_eq_natCast]; first | done | rfl | omega | (simp; done) | (simp; omega)) | (simp (disch := omega) only [hS.glob, wraps, plain, Int.ofNat_eq_natCast, Vx.toN]; omega))))) rfl ⟨⟨rfl, rfl, ⟨Nat.le_refl _, fun j hj => leaf (by simp [hS.glob]) (by simp [hS.glob]) 13 dL dL i (fun _ _ => rfl) rfl j hj⟩, rfl⟩, ⟨rfl, rfl, ⟨Nat.le_refl _, fun j hj => leafR (by simp [hS.glob]) (by simp [hS.glob]) _ (icol2 (dK k) (fun _ => id)) (icol2 (dK k) (fun _ => id)) i (fun _ _ => rfl) (by simp only [icol2]; rw [← eK]) j hj⟩, rfl⟩, trivial⟩ (by rw [hC]; exact Nat.zero_le _)
    · conv => cbv
      simp (disch := first | omega | (simp only [hS.glob, wraps, plain, Int.ofNat_eq_natCast]; omega)) only [hS.glob, wraps, plain, Int.ofNat_eq_natCast] at h2
      have eK : (2 : Int) = dK k i := by rw [dK, if_neg (by omega)]
      repeat (refine ⟨by first | (rw [hW]; show ordOk _ _ _ = true; kernel_rfl) | (first | trivial | omega | (simp (disch := omega) only [hS.glob, wraps, plain, Int.ofNat_eq_natCast]; first | done | omega | trivial | (simp; done) | (simp; omega) | (constructor <;> omega)) | (simp (disch := omega) only [hS.glob, wraps, plain, Int.ofNat_eq_natCast, Vx.toN]; omega)), ?_⟩)
      have ea : addN i 1 = i + 1 := by simp [hS.glob, Vx.addN]
      simp only [ea]
      rw [hVV]
      clear hVV hVA VV VA hW W
      refine V.pick [3, 5] (by decide) (by rw [hC]; exact begins_of rfl) (by rfl) (by rfl) ?_
      exact V.to (hback (i + 1) (by omega) (by omega)) (by (repeat' first | exact trivial | rfl | (refine And.intro ?_ ?_) | (refine sti ?_; (first | rfl | omega | (simp (disch := omega) only [hS.glob, wraps, plain, Int.ofNat_eq_natCast]; first | done | rfl | omega | (simp; done) | (simp; omega)) | (simp (disch := omega) only [hS.glob, wraps, plain, Int.ofNat_eq_natCast, Vx.toN]; omega))) | (refine slq ?_ ?_ ?_ <;> (first | rfl | omega | (simp (disch := omega) only [hS.glob, wraps, plain, Int.ofNat_eq_natCast]; first | done | rfl | omega | (simp; done) | (simp; omega)) | (simp (disch := omega) only [hS.glob, wraps, plain, Int.ofNat_eq_natCast, Vx.toN]; omega))) | (refine ptq ?_ ?_ ?_ <;> (first | rfl | omega | (simp (disch := omega) only [hS.glob, wraps, plain, Int.ofNat_eq_natCast]; first | done | rfl | omega | (simp; done) | (simp; omega)) | (simp (disch := omega) only [hS.glob, wraps, plain, Int.ofNat_eq_natCast, Vx.toN]; omega))) | (refine blq ?_; (first | rfl | omega | (simp (disch := omega) only [hS.glob, wraps, plain, Int.ofNat_eq_natCast]; first | done | rfl | omega | (simp; done) | (simp; omega)) | (simp (disch := omega) only [hS.glob, wraps, plain, Int.ofNat_eq_natCast, Vx.toN]; omega))))) rfl ⟨⟨rfl, rfl, ⟨Nat.le_refl _, fun j hj => leaf (by simp [hS.glob]) (by simp [hS.glob]) 13 dL dL i (fun _ _ => rfl) rfl j hj⟩, rfl⟩, ⟨rfl, rfl, ⟨Nat.le_refl _, fun j hj => leafR (by simp [hS.glob]) (by simp [hS.glob]) _ (icol2 (dK k) (fun _ => id)) (icol2 (dK k) (fun _ => id)) i (fun _ _ => rfl) (by simp only [icol2]; rw [← eK]) j hj⟩, rfl⟩, trivial⟩ (by rw [hC]; exact Nat.zero_le _)
theorem f7_ok (x id : Int) : FSpec Try.prog 7 [.int .i64 x, .int .i64 id] [] (fun r H' => r = .bool true ∧ H' = []) := by
  refine (f7_ok1 x id).weaken ?_
  rintro r H' rfl
  exact ⟨[], by cases H' <;> simp [heapCov], rfl, Nat.le_refl _, rfl, rfl⟩
end Go.Proofs.Ytcoanfhjgmndcaa

/- The law of nesting. -/
namespace Go.Proofs.Ytcoanfhjgmndcaa
open Go Vx

/-- What holds of the pairs. -/
theorem pairs_facts {ln mn : Nat} {l kd id : Nat → Int} {ps : List (Nat × Nat)} (hps : ps = pairsL ln mn l kd id) (i : Nat) (hi : i < ps.length) : ps[i].1 < ps[i].2 ∧ ps[i].2 < ln ∧ ps[i].2 < mn ∧ l ps[i].1 = 13 ∧ l ps[i].2 = 13 ∧ kd ps[i].1 = 1 ∧ kd ps[i].2 = 2 ∧ id ps[i].1 = id ps[i].2 ∧ ∀ k (hk : k < i), ps[k].1 < ps[i].1 ∧ (ps[i].2 < ps[k].2 ∨ ps[k].2 < ps[i].1) := by
  subst hps
  have hI := pinv mn l kd id (min mn ln)
  have hmem : ∀ j (hj : j < (pairsL ln mn l kd id).length), (pairsL ln mn l kd id)[j] ∈ (prun mn l kd id (min mn ln)).out := fun j hj => by
    have hin : (pairsL ln mn l kd id)[j] ∈ pairsL ln mn l kd id := List.getElem_mem hj
    unfold pairsL at hin
    have hc := (canon_mem _ ln (pairsL ln mn l kd id)[j].1 (pairsL ln mn l kd id)[j].2).1 hin
    exact (part_mem hI.nodup (fun p hp => by have := (hI.out p hp).1; omega) _ _).2 hc.2
  obtain ⟨h1, h2, h3, h4, h5⟩ := hI.out _ (hmem i hi)
  have hk1 : ∀ {j v : Nat}, kindM mn l kd j = v → v = 1 ∨ v = 2 → j < mn ∧ l j = 13 ∧ kd j = v := fun {j v} h hv => by
    unfold kindM at h
    split at h
    · rename_i hc
      refine ⟨hc.1, hc.2, ?_⟩
      split at h
      · omega
      · split at h <;> omega
    · omega
  obtain ⟨a1, a2, a3⟩ := hk1 h3 (.inl rfl)
  obtain ⟨b1, b2, b3⟩ := hk1 h4 (.inr rfl)
  refine ⟨h1, by omega, b1, a2, b2, a3, b3, h5, fun k hk => ?_⟩
  have hlt : (pairsL ln mn l kd id)[k].1 < (pairsL ln mn l kd id)[i].1 := List.pairwise_iff_getElem.1 (canon_inc (prun mn l kd id (min mn ln)).out ln) k i (by unfold pairsL at hi; omega) (by unfold pairsL at hi; omega) hk
  exact ⟨hlt, hI.nest _ (hmem k (by omega)) _ (hmem i hi) hlt⟩
theorem f5_ok1 (n0 n1 : Nat) (l kd id : Nat → Int) (m0 : n0 ≤ 140737488355328) (m1 : n1 ≤ 140737488355328) : FSpec Try.prog 5 [.rows 1 n0 (icol .i64 l), .rows 2 n1 (icol2 kd id)] [] (fun r H' => r = .bool true) := by
  have h8 := f8_ok
  refine FSpec.of (fn := Try.f5) Try.func5 rfl rfl (by simp) fun C hC => ?_
  obtain ⟨iadd, isub, imul, iquo, irem, iband, ibor, ibxor, ibandn, ishl, ishr, iconv, ieq, ine, ilt, ile, igt, ige, bbeq, bbne, bnot, bband, sseq, ssne, sscat, sssub, sslen, sssz, ssbyte, toN, ofN, addN, subN, eqN, ltB, leN, imx, imn, inb, leb, sslt, ltN, fit, ne0, ge0, ssfit, minN, inR, hS⟩ := names
  refine V.goF (by first | exact trivial | assumption) Try.func5 tl_ok mixed hS.ops [] 400 ?_
  intro VV VA W hVV hVA hW
  conv => cbv
  cases g1 : igt (ofN n0) 200
  · conv => cbv
    cases g2 : igt (ofN n1) 200
    · conv => cbv
      simp (disch := first | omega | (simp only [hS.glob, wraps, plain, Int.ofNat_eq_natCast]; omega)) only [hS.glob, wraps, plain, Int.ofNat_eq_natCast] at g1 g2
      rw [hVV]
      clear hVV hVA VV VA hW W
      refine V.call rfl rfl rfl rfl rfl Try.func11 rfl (by decide) [] (by simp) (by simp) (by (first | rfl | ((conv => cbv); (repeat' apply And.intro) <;> first | rfl | trivial | (first | rfl | omega | (simp (disch := omega) only [hS.glob, wraps, plain, Int.ofNat_eq_natCast]; first | done | rfl | omega | (simp; done) | (simp; omega)) | (simp (disch := omega) only [hS.glob, wraps, plain, Int.ofNat_eq_natCast, Vx.toN]; omega))))) rfl (f11_ok n1 (by omega) kd id) ?_
      rintro r Hc ⟨rfl, rfl⟩
      refine V.goF (by first | exact trivial | assumption) Try.func5 tl_ok mixed hS.ops [] 400 ?_
      intro VV VA W hVV hVA hW
      conv => cbv
      rw [hVV]
      clear hVV hVA VV VA hW W
      refine V.freeze0 23 0 n1 (by rfl) (by rfl) (by rfl) (by first | decide | omega | exact (Nat.succ_pos _)) (by rfl) (by rfl) (by first | exact Nat.le_refl _ | decide | omega | (simp only [Cont.n]; omega)) ?_
      refine V.call rfl rfl rfl rfl rfl Try.func10 rfl (by decide) [] (by simp) (by simp) (by (first | rfl | ((conv => cbv); (repeat' apply And.intro) <;> first | rfl | trivial | (first | rfl | omega | (simp (disch := omega) only [hS.glob, wraps, plain, Int.ofNat_eq_natCast]; first | done | rfl | omega | (simp; done) | (simp; omega)) | (simp (disch := omega) only [hS.glob, wraps, plain, Int.ofNat_eq_natCast, Vx.toN]; omega))))) rfl (f10_ok n0 n1 (by omega) (by omega) l kd id) ?_
      rintro r Hc ⟨m, a, b, rfl, rfl, htab⟩
      refine V.goF (by first | exact trivial | assumption) Try.func5 tl_ok mixed hS.ops [] 400 ?_
      intro VV VA W hVV hVA hW
      conv => cbv
      obtain ⟨ps, hps⟩ : ∃ ps, ps = pairsL n0 n1 l kd id := ⟨_, rfl⟩
      rw [← hps] at htab
      have hml : m = ps.length := by have := congrArg List.length htab; simpa [tab] using this
      have hm3 : m ≤ 17592186044416 := by have := pairsL_len n0 n1 l kd id; rw [← hps] at this; omega
      rw [hVV]
      clear hVV hVA VV VA hW W
      refine V.pick [1] (by decide) (by rw [hC]; exact begins_of rfl) (by rfl) (by rfl) ?_
      refine V.to (s' := [(6, .int .i64 (ofN 0)), (5, .sl 0 0 m), (0, .rows 1 n0 (icol .i64 l)), (1, .rows 2 n1 (icol2 kd id))]) (H' := [some ⟨41, 2, .arr m (icol2 a b)⟩]) ?_ (by (repeat' first | exact trivial | rfl | (refine And.intro ?_ ?_) | (refine sti ?_; (first | rfl | omega | (simp (disch := omega) only [hS.glob, wraps, plain, Int.ofNat_eq_natCast]; first | done | rfl | omega | (simp; done) | (simp; omega)) | (simp (disch := omega) only [hS.glob, wraps, plain, Int.ofNat_eq_natCast, Vx.toN]; omega))) | (refine slq ?_ ?_ ?_ <;> (first | rfl | omega | (simp (disch := omega) only [hS.glob, wraps, plain, Int.ofNat_eq_natCast]; first | done | rfl | omega | (simp; done) | (simp; omega)) | (simp (disch := omega) only [hS.glob, wraps, plain, Int.ofNat_eq_natCast, Vx.toN]; omega))) | (refine ptq ?_ ?_ ?_ <;> (first | rfl | omega | (simp (disch := omega) only [hS.glob, wraps, plain, Int.ofNat_eq_natCast]; first | done | rfl | omega | (simp; done) | (simp; omega)) | (simp (disch := omega) only [hS.glob, wraps, plain, Int.ofNat_eq_natCast, Vx.toN]; omega))) | (refine blq ?_; (first | rfl | omega | (simp (disch := omega) only [hS.glob, wraps, plain, Int.ofNat_eq_natCast]; first | done | rfl | omega | (simp; done) | (simp; omega)) | (simp (disch := omega) only [hS.glob, wraps, plain, Int.ofNat_eq_natCast, Vx.toN]; omega))))) rfl (by (repeat' first | exact trivial | rfl | exact Nat.le_refl _ | exact (fun _ _ => rfl) | (refine And.intro ?_ ?_) | (simp only [hS.glob, plain]; first | done | omega))) (by rw [hC]; exact Nat.zero_le _)
      refine V.loop (γ := Nat) (fun i => i ≤ m) (fun i => [(6, .int .i64 (ofN i)), (5, .sl 0 0 m), (0, .rows 1 n0 (icol .i64 l)), (1, .rows 2 n1 (icol2 kd id))]) (fun _ => [some ⟨41, 2, .arr m (icol2 a b)⟩]) (fun i => m - i) ?_ 0 (Nat.zero_le _)
      rintro i hi hback
      refine V.goF (by first | exact trivial | assumption) Try.func5 tl_ok mixed hS.ops [(11, .one 0 .none (.one 1 .none (.one 2 .none (.one 3 .none (.one 4 .none (.one 5 .none (.one 6 .none (.one 7 .none (.one 8 .none (.one 9 .none (.one 10 .none (.one 11 .none (.one 12 .none (.one 13 .none (.one 14 .none (.one 15 .none (.one 16 .none (.one 17 .none (.one 18 .none (.one 19 .none (.one 20 .none (.one 21 .none (.one 22 .none (.one 23 .none (.one 24 .none (.one 25 .none (.one 26 .none (.one 27 .none (.one 28 .none (.one 29 .none (.one 30 .none (.one 31 .none (.one 32 .none (.one 33 .none (.one 34 .none (.one 35 .none (.one 36 .none (.one 37 .none (.one 38 .none (.one 39 .none (.one 40 .none (.one 41 .none (.one 42 .none (.one 43 .none (.one 44 .none (.one 45 .none (.one 46 .none (.one 47 .none (.one 48 .none (.one 49 .none (.one 50 .none (.one 51 .none (.one 52 .none (.one 53 .none (.one 54 .none .done)))))))))))))))))))))))))))))))))))))))))))))))))))))))] 400 ?_
      intro VV VA W hVV hVA hW
      conv => cbv
      cases h1 : ilt (ofN i) (ofN m)
      · conv => cbv
        simp (disch := first | omega | (simp only [hS.glob, wraps, plain, Int.ofNat_eq_natCast]; omega)) only [hS.glob, wraps, plain, Int.ofNat_eq_natCast] at h1
        rw [hVV]
        clear hVV hVA VV VA hW W
        refine V.call rfl rfl rfl rfl rfl Try.func8 rfl (by decide) [] (by simp) (by simp) (by (first | rfl | ((conv => cbv); (repeat' apply And.intro) <;> first | rfl | trivial | (first | rfl | omega | (simp (disch := omega) only [hS.glob, wraps, plain, Int.ofNat_eq_natCast]; first | done | rfl | omega | (simp; done) | (simp; omega)) | (simp (disch := omega) only [hS.glob, wraps, plain, Int.ofNat_eq_natCast, Vx.toN]; omega))))) rfl h8 ?_
        rintro r Hc ⟨rfl, rfl⟩
        refine V.goF (by first | exact trivial | assumption) Try.func5 tl_ok mixed hS.ops [] 400 ?_
        intro VV VA W hVV hVA hW
        conv => cbv
        trivial
      · conv => cbv
        simp (disch := first | omega | (simp only [hS.glob, wraps, plain, Int.ofNat_eq_natCast]; omega)) only [hS.glob, wraps, plain, Int.ofNat_eq_natCast] at h1
        repeat (refine ⟨by first | (rw [hW]; show ordOk _ _ _ = true; kernel_rfl) | (first | trivial | omega | (simp (disch := omega) only [hS.glob, wraps, plain, Int.ofNat_eq_natCast]; first | done | omega | trivial | (simp; done) | (simp; omega) | (constructor <;> omega)) | (simp (disch := omega) only [hS.glob, wraps, plain, Int.ofNat_eq_natCast, Vx.toN]; omega)), ?_⟩)
        simp only [hS.tidy]
        have hi2 : i < ps.length := by omega
        obtain ⟨_, _, q3, q4⟩ := pairAt hps i hi2 a b htab
        obtain ⟨f1, f2, f3, f4, f5, f6, f7, f8, f9⟩ := pairs_facts hps i hi2
        have past : ∀ k, k < i → ∃ o' e' : Nat, a k = o' ∧ b k = e' ∧ o' < ps[i].1 ∧ (ps[i].2 < e' ∨ e' < ps[i].1) ∧ o' < 17592186044416 ∧ e' < 17592186044416 := fun k hk => by
          obtain ⟨_, _, r3, r4⟩ := pairAt hps k (by omega) a b htab
          have := pairs_facts hps k (by omega)
          exact ⟨_, _, r3, r4, (f9 k hk).1, (f9 k hk).2, by omega, by omega⟩
        clear f9
        generalize ps[i] = p at *
        obtain ⟨o, e⟩ := p
        simp only at q3 q4 f1 f2 f3 f4 f5 f6 f7 f8 past
        have x1 : a i = ofN o := by simp (disch := first | omega | (simp only [hS.glob, wraps, plain, Int.ofNat_eq_natCast]; omega)) only [hS.glob, wraps, plain, Int.ofNat_eq_natCast]; exact q3
        have x2 : b i = ofN e := by simp (disch := first | omega | (simp only [hS.glob, wraps, plain, Int.ofNat_eq_natCast]; omega)) only [hS.glob, wraps, plain, Int.ofNat_eq_natCast]; exact q4
        simp only [x1, x2]
        have c1 : ilt (ofN o) 0 = false := by simp (disch := first | omega | (simp only [hS.glob, wraps, plain, Int.ofNat_eq_natCast]; omega)) only [hS.glob, wraps, plain, Int.ofNat_eq_natCast]; omega
        have c2 : ige (ofN o) (ofN e) = false := by simp (disch := first | omega | (simp only [hS.glob, wraps, plain, Int.ofNat_eq_natCast]; omega)) only [hS.glob, wraps, plain, Int.ofNat_eq_natCast]; omega
        have c3 : ige (ofN e) (ofN n0) = false := by simp (disch := first | omega | (simp only [hS.glob, wraps, plain, Int.ofNat_eq_natCast]; omega)) only [hS.glob, wraps, plain, Int.ofNat_eq_natCast]; omega
        have c4 : ige (ofN e) (ofN n1) = false := by simp (disch := first | omega | (simp only [hS.glob, wraps, plain, Int.ofNat_eq_natCast]; omega)) only [hS.glob, wraps, plain, Int.ofNat_eq_natCast]; omega
        simp only [c1]
        conv => cbv
        simp only [c2]
        conv => cbv
        simp only [c3]
        conv => cbv
        simp only [c4]
        conv => cbv
        repeat (refine ⟨by first | (rw [hW]; show ordOk _ _ _ = true; kernel_rfl) | (first | trivial | omega | (simp (disch := omega) only [hS.glob, wraps, plain, Int.ofNat_eq_natCast]; first | done | omega | trivial | (simp; done) | (simp; omega) | (constructor <;> omega)) | (simp (disch := omega) only [hS.glob, wraps, plain, Int.ofNat_eq_natCast, Vx.toN]; omega)), ?_⟩)
        simp only [hS.tidy]
        have d1 : ine (kd o) 1 = false := by simp (disch := first | omega | (simp only [hS.glob, wraps, plain, Int.ofNat_eq_natCast]; omega)) only [hS.glob, wraps, plain, Int.ofNat_eq_natCast]; exact f6
        have d2 : ine (kd e) 2 = false := by simp (disch := first | omega | (simp only [hS.glob, wraps, plain, Int.ofNat_eq_natCast]; omega)) only [hS.glob, wraps, plain, Int.ofNat_eq_natCast]; exact f7
        have d3 : ine (id o) (id e) = false := by simp (disch := first | omega | (simp only [hS.glob, wraps, plain, Int.ofNat_eq_natCast]; omega)) only [hS.glob, wraps, plain, Int.ofNat_eq_natCast]; exact f8
        have d4 : ine (l o) 13 = false := by simp (disch := first | omega | (simp only [hS.glob, wraps, plain, Int.ofNat_eq_natCast]; omega)) only [hS.glob, wraps, plain, Int.ofNat_eq_natCast]; exact f4
        have d5 : ine (l e) 13 = false := by simp (disch := first | omega | (simp only [hS.glob, wraps, plain, Int.ofNat_eq_natCast]; omega)) only [hS.glob, wraps, plain, Int.ofNat_eq_natCast]; exact f5
        simp only [d1]
        conv => cbv
        repeat (refine ⟨by first | (rw [hW]; show ordOk _ _ _ = true; kernel_rfl) | (first | trivial | omega | (simp (disch := omega) only [hS.glob, wraps, plain, Int.ofNat_eq_natCast]; first | done | omega | trivial | (simp; done) | (simp; omega) | (constructor <;> omega)) | (simp (disch := omega) only [hS.glob, wraps, plain, Int.ofNat_eq_natCast, Vx.toN]; omega)), ?_⟩)
        simp only [hS.tidy, d2]
        conv => cbv
        repeat (refine ⟨by first | (rw [hW]; show ordOk _ _ _ = true; kernel_rfl) | (first | trivial | omega | (simp (disch := omega) only [hS.glob, wraps, plain, Int.ofNat_eq_natCast]; first | done | omega | trivial | (simp; done) | (simp; omega) | (constructor <;> omega)) | (simp (disch := omega) only [hS.glob, wraps, plain, Int.ofNat_eq_natCast, Vx.toN]; omega)), ?_⟩)
        simp only [hS.tidy, d3]
        conv => cbv
        repeat (refine ⟨by first | (rw [hW]; show ordOk _ _ _ = true; kernel_rfl) | (first | trivial | omega | (simp (disch := omega) only [hS.glob, wraps, plain, Int.ofNat_eq_natCast]; first | done | omega | trivial | (simp; done) | (simp; omega) | (constructor <;> omega)) | (simp (disch := omega) only [hS.glob, wraps, plain, Int.ofNat_eq_natCast, Vx.toN]; omega)), ?_⟩)
        simp only [hS.tidy, d4]
        conv => cbv
        repeat (refine ⟨by first | (rw [hW]; show ordOk _ _ _ = true; kernel_rfl) | (first | trivial | omega | (simp (disch := omega) only [hS.glob, wraps, plain, Int.ofNat_eq_natCast]; first | done | omega | trivial | (simp; done) | (simp; omega) | (constructor <;> omega)) | (simp (disch := omega) only [hS.glob, wraps, plain, Int.ofNat_eq_natCast, Vx.toN]; omega)), ?_⟩)
        simp only [hS.tidy, d5]
        conv => cbv
        cases h2 : igt (ofN i) 0
        · conv => cbv
          simp (disch := first | omega | (simp only [hS.glob, wraps, plain, Int.ofNat_eq_natCast]; omega)) only [hS.glob, wraps, plain, Int.ofNat_eq_natCast] at h2
          rw [hVV]
          clear hVV hVA VV VA hW W c1 c2 c3 c4 d1 d2 d3 d4 d5
          refine V.to (s' := [(9, .int .i64 (ofN 0)), (7, .int .i64 (ofN o)), (8, .int .i64 (ofN e)), (6, .int .i64 (ofN i)), (5, .sl 0 0 m), (0, .rows 1 n0 (icol .i64 l)), (1, .rows 2 n1 (icol2 kd id))]) (H' := [some ⟨41, 2, .arr m (icol2 a b)⟩]) ?_ (by (repeat' first | exact trivial | rfl | (refine And.intro ?_ ?_) | (refine sti ?_; (first | rfl | omega | (simp (disch := omega) only [hS.glob, wraps, plain, Int.ofNat_eq_natCast]; first | done | rfl | omega | (simp; done) | (simp; omega)) | (simp (disch := omega) only [hS.glob, wraps, plain, Int.ofNat_eq_natCast, Vx.toN]; omega))) | (refine slq ?_ ?_ ?_ <;> (first | rfl | omega | (simp (disch := omega) only [hS.glob, wraps, plain, Int.ofNat_eq_natCast]; first | done | rfl | omega | (simp; done) | (simp; omega)) | (simp (disch := omega) only [hS.glob, wraps, plain, Int.ofNat_eq_natCast, Vx.toN]; omega))) | (refine ptq ?_ ?_ ?_ <;> (first | rfl | omega | (simp (disch := omega) only [hS.glob, wraps, plain, Int.ofNat_eq_natCast]; first | done | rfl | omega | (simp; done) | (simp; omega)) | (simp (disch := omega) only [hS.glob, wraps, plain, Int.ofNat_eq_natCast, Vx.toN]; omega))) | (refine blq ?_; (first | rfl | omega | (simp (disch := omega) only [hS.glob, wraps, plain, Int.ofNat_eq_natCast]; first | done | rfl | omega | (simp; done) | (simp; omega)) | (simp (disch := omega) only [hS.glob, wraps, plain, Int.ofNat_eq_natCast, Vx.toN]; omega))))) rfl (by (repeat' first | exact trivial | rfl | exact Nat.le_refl _ | exact (fun _ _ => rfl) | (refine And.intro ?_ ?_) | (simp only [hS.glob, plain]; first | done | omega))) (by rw [hC]; exact Nat.zero_le _)
          refine V.loop (γ := Nat) (fun k => k ≤ i) (fun k => [(9, .int .i64 (ofN k)), (7, .int .i64 (ofN o)), (8, .int .i64 (ofN e)), (6, .int .i64 (ofN i)), (5, .sl 0 0 m), (0, .rows 1 n0 (icol .i64 l)), (1, .rows 2 n1 (icol2 kd id))]) (fun _ => [some ⟨41, 2, .arr m (icol2 a b)⟩]) (fun k => i - k) ?_ 0 (Nat.zero_le _)
          rintro k hk hback2
          refine V.goF (by first | exact trivial | assumption) Try.func5 tl_ok mixed hS.ops [] 400 ?_
          intro VV VA W hVV hVA hW
          conv => cbv
          cases h3 : ilt (ofN k) (ofN i)
          · conv => cbv
            simp (disch := first | omega | (simp only [hS.glob, wraps, plain, Int.ofNat_eq_natCast]; omega)) only [hS.glob, wraps, plain, Int.ofNat_eq_natCast] at h3
            rw [hVV]
            clear hVV hVA VV VA hW W
            exact V.to (hback (i + 1) (by omega) (by omega)) (by (repeat' first | exact trivial | rfl | (refine And.intro ?_ ?_) | (refine sti ?_; (first | rfl | omega | (simp (disch := omega) only [hS.glob, wraps, plain, Int.ofNat_eq_natCast]; first | done | rfl | omega | (simp; done) | (simp; omega)) | (simp (disch := omega) only [hS.glob, wraps, plain, Int.ofNat_eq_natCast, Vx.toN]; omega))) | (refine slq ?_ ?_ ?_ <;> (first | rfl | omega | (simp (disch := omega) only [hS.glob, wraps, plain, Int.ofNat_eq_natCast]; first | done | rfl | omega | (simp; done) | (simp; omega)) | (simp (disch := omega) only [hS.glob, wraps, plain, Int.ofNat_eq_natCast, Vx.toN]; omega))) | (refine ptq ?_ ?_ ?_ <;> (first | rfl | omega | (simp (disch := omega) only [hS.glob, wraps, plain, Int.ofNat_eq_natCast]; first | done | rfl | omega | (simp; done) | (simp; omega)) | (simp (disch := omega) only [hS.glob, wraps, plain, Int.ofNat_eq_natCast, Vx.toN]; omega))) | (refine blq ?_; (first | rfl | omega | (simp (disch := omega) only [hS.glob, wraps, plain, Int.ofNat_eq_natCast]; first | done | rfl | omega | (simp; done) | (simp; omega)) | (simp (disch := omega) only [hS.glob, wraps, plain, Int.ofNat_eq_natCast, Vx.toN]; omega))))) rfl (by (repeat' first | exact trivial | rfl | exact Nat.le_refl _ | exact (fun _ _ => rfl) | (refine And.intro ?_ ?_) | (simp only [hS.glob, plain]; first | done | omega))) (by rw [hC]; exact Nat.zero_le _)
          · conv => cbv
            simp (disch := first | omega | (simp only [hS.glob, wraps, plain, Int.ofNat_eq_natCast]; omega)) only [hS.glob, wraps, plain, Int.ofNat_eq_natCast] at h3
            repeat (refine ⟨by first | (rw [hW]; show ordOk _ _ _ = true; kernel_rfl) | (first | trivial | omega | (simp (disch := omega) only [hS.glob, wraps, plain, Int.ofNat_eq_natCast]; first | done | omega | trivial | (simp; done) | (simp; omega) | (constructor <;> omega)) | (simp (disch := omega) only [hS.glob, wraps, plain, Int.ofNat_eq_natCast, Vx.toN]; omega)), ?_⟩)
            simp only [hS.tidy]
            obtain ⟨o', e', r1, r2, r3, r4, r5, r6⟩ := past k (by omega)
            have y1 : a k = ofN o' := by simp (disch := first | omega | (simp only [hS.glob, wraps, plain, Int.ofNat_eq_natCast]; omega)) only [hS.glob, wraps, plain, Int.ofNat_eq_natCast]; exact r1
            have y2 : b k = ofN e' := by simp (disch := first | omega | (simp only [hS.glob, wraps, plain, Int.ofNat_eq_natCast]; omega)) only [hS.glob, wraps, plain, Int.ofNat_eq_natCast]; exact r2
            simp only [y1, y2]
            have y3 : igt (ofN o) (ofN o') = true := by simp (disch := first | omega | (simp only [hS.glob, wraps, plain, Int.ofNat_eq_natCast]; omega)) only [hS.glob, wraps, plain, Int.ofNat_eq_natCast]; omega
            simp only [y3]
            conv => cbv
            repeat (refine ⟨by first | (rw [hW]; show ordOk _ _ _ = true; kernel_rfl) | (first | trivial | omega | (simp (disch := omega) only [hS.glob, wraps, plain, Int.ofNat_eq_natCast]; first | done | omega | trivial | (simp; done) | (simp; omega) | (constructor <;> omega)) | (simp (disch := omega) only [hS.glob, wraps, plain, Int.ofNat_eq_natCast, Vx.toN]; omega)), ?_⟩)
            simp only [hS.tidy, y2]
            rcases r4 with r4 | r4
            · have y4 : ilt (ofN e) (ofN e') = true := by simp (disch := first | omega | (simp only [hS.glob, wraps, plain, Int.ofNat_eq_natCast]; omega)) only [hS.glob, wraps, plain, Int.ofNat_eq_natCast]; omega
              simp only [y4]
              conv => cbv
              repeat (refine ⟨by first | (rw [hW]; show ordOk _ _ _ = true; kernel_rfl) | (first | trivial | omega | (simp (disch := omega) only [hS.glob, wraps, plain, Int.ofNat_eq_natCast]; first | done | omega | trivial | (simp; done) | (simp; omega) | (constructor <;> omega)) | (simp (disch := omega) only [hS.glob, wraps, plain, Int.ofNat_eq_natCast, Vx.toN]; omega)), ?_⟩)
              try simp only [hS.tidy, y2]
              rw [hVV]
              clear hVV hVA VV VA hW W
              exact V.to (hback2 (k + 1) (by omega) (by omega)) (by (repeat' first | exact trivial | rfl | (refine And.intro ?_ ?_) | (refine sti ?_; (first | rfl | omega | (simp (disch := omega) only [hS.glob, wraps, plain, Int.ofNat_eq_natCast]; first | done | rfl | omega | (simp; done) | (simp; omega)) | (simp (disch := omega) only [hS.glob, wraps, plain, Int.ofNat_eq_natCast, Vx.toN]; omega))) | (refine slq ?_ ?_ ?_ <;> (first | rfl | omega | (simp (disch := omega) only [hS.glob, wraps, plain, Int.ofNat_eq_natCast]; first | done | rfl | omega | (simp; done) | (simp; omega)) | (simp (disch := omega) only [hS.glob, wraps, plain, Int.ofNat_eq_natCast, Vx.toN]; omega))) | (refine ptq ?_ ?_ ?_ <;> (first | rfl | omega | (simp (disch := omega) only [hS.glob, wraps, plain, Int.ofNat_eq_natCast]; first | done | rfl | omega | (simp; done) | (simp; omega)) | (simp (disch := omega) only [hS.glob, wraps, plain, Int.ofNat_eq_natCast, Vx.toN]; omega))) | (refine blq ?_; (first | rfl | omega | (simp (disch := omega) only [hS.glob, wraps, plain, Int.ofNat_eq_natCast]; first | done | rfl | omega | (simp; done) | (simp; omega)) | (simp (disch := omega) only [hS.glob, wraps, plain, Int.ofNat_eq_natCast, Vx.toN]; omega))))) rfl (by (repeat' first | exact trivial | rfl | exact Nat.le_refl _ | exact (fun _ _ => rfl) | (refine And.intro ?_ ?_) | (simp only [hS.glob, plain]; first | done | omega))) (by rw [hC]; exact Nat.zero_le _)
            · cases y4 : ilt (ofN e) (ofN e')
              · conv => cbv
                repeat (refine ⟨by first | (rw [hW]; show ordOk _ _ _ = true; kernel_rfl) | (first | trivial | omega | (simp (disch := omega) only [hS.glob, wraps, plain, Int.ofNat_eq_natCast]; first | done | omega | trivial | (simp; done) | (simp; omega) | (constructor <;> omega)) | (simp (disch := omega) only [hS.glob, wraps, plain, Int.ofNat_eq_natCast, Vx.toN]; omega)), ?_⟩)
                try simp only [hS.tidy, y2]
                have y5 : igt (ofN o) (ofN e') = true := by simp (disch := first | omega | (simp only [hS.glob, wraps, plain, Int.ofNat_eq_natCast]; omega)) only [hS.glob, wraps, plain, Int.ofNat_eq_natCast]; omega
                simp only [y5]
                conv => cbv
                rw [hVV]
                clear hVV hVA VV VA hW W
                exact V.to (hback2 (k + 1) (by omega) (by omega)) (by (repeat' first | exact trivial | rfl | (refine And.intro ?_ ?_) | (refine sti ?_; (first | rfl | omega | (simp (disch := omega) only [hS.glob, wraps, plain, Int.ofNat_eq_natCast]; first | done | rfl | omega | (simp; done) | (simp; omega)) | (simp (disch := omega) only [hS.glob, wraps, plain, Int.ofNat_eq_natCast, Vx.toN]; omega))) | (refine slq ?_ ?_ ?_ <;> (first | rfl | omega | (simp (disch := omega) only [hS.glob, wraps, plain, Int.ofNat_eq_natCast]; first | done | rfl | omega | (simp; done) | (simp; omega)) | (simp (disch := omega) only [hS.glob, wraps, plain, Int.ofNat_eq_natCast, Vx.toN]; omega))) | (refine ptq ?_ ?_ ?_ <;> (first | rfl | omega | (simp (disch := omega) only [hS.glob, wraps, plain, Int.ofNat_eq_natCast]; first | done | rfl | omega | (simp; done) | (simp; omega)) | (simp (disch := omega) only [hS.glob, wraps, plain, Int.ofNat_eq_natCast, Vx.toN]; omega))) | (refine blq ?_; (first | rfl | omega | (simp (disch := omega) only [hS.glob, wraps, plain, Int.ofNat_eq_natCast]; first | done | rfl | omega | (simp; done) | (simp; omega)) | (simp (disch := omega) only [hS.glob, wraps, plain, Int.ofNat_eq_natCast, Vx.toN]; omega))))) rfl (by (repeat' first | exact trivial | rfl | exact Nat.le_refl _ | exact (fun _ _ => rfl) | (refine And.intro ?_ ?_) | (simp only [hS.glob, plain]; first | done | omega))) (by rw [hC]; exact Nat.zero_le _)
              · simp (disch := first | omega | (simp only [hS.glob, wraps, plain, Int.ofNat_eq_natCast]; omega)) only [hS.glob, wraps, plain, Int.ofNat_eq_natCast] at y4
                omega
        · conv => cbv
          simp (disch := first | omega | (simp only [hS.glob, wraps, plain, Int.ofNat_eq_natCast]; omega)) only [hS.glob, wraps, plain, Int.ofNat_eq_natCast] at h2
          repeat (refine ⟨by first | (rw [hW]; show ordOk _ _ _ = true; kernel_rfl) | (first | trivial | omega | (simp (disch := omega) only [hS.glob, wraps, plain, Int.ofNat_eq_natCast]; first | done | omega | trivial | (simp; done) | (simp; omega) | (constructor <;> omega)) | (simp (disch := omega) only [hS.glob, wraps, plain, Int.ofNat_eq_natCast, Vx.toN]; omega)), ?_⟩)
          have z1 : isub .i64 (ofN i) 1 = ofN (i - 1) := by simp (disch := first | omega | (simp only [hS.glob, wraps, plain, Int.ofNat_eq_natCast]; omega)) only [hS.glob, wraps, plain, Int.ofNat_eq_natCast]; omega
          simp only [z1, hS.tidy]
          obtain ⟨o9, e9, t1, t2, t3, t4, t5, t6⟩ := past (i - 1) (by omega)
          have z2 : ile (ofN o) (a (i - 1)) = false := by simp (disch := first | omega | (simp only [hS.glob, wraps, plain, Int.ofNat_eq_natCast]; omega)) only [hS.glob, wraps, plain, Int.ofNat_eq_natCast]; omega
          simp only [z2]
          conv => cbv
          rw [hVV]
          clear hVV hVA VV VA hW W c1 c2 c3 c4 d1 d2 d3 d4 d5
          refine V.to (s' := [(9, .int .i64 (ofN 0)), (7, .int .i64 (ofN o)), (8, .int .i64 (ofN e)), (6, .int .i64 (ofN i)), (5, .sl 0 0 m), (0, .rows 1 n0 (icol .i64 l)), (1, .rows 2 n1 (icol2 kd id))]) (H' := [some ⟨41, 2, .arr m (icol2 a b)⟩]) ?_ (by (repeat' first | exact trivial | rfl | (refine And.intro ?_ ?_) | (refine sti ?_; (first | rfl | omega | (simp (disch := omega) only [hS.glob, wraps, plain, Int.ofNat_eq_natCast]; first | done | rfl | omega | (simp; done) | (simp; omega)) | (simp (disch := omega) only [hS.glob, wraps, plain, Int.ofNat_eq_natCast, Vx.toN]; omega))) | (refine slq ?_ ?_ ?_ <;> (first | rfl | omega | (simp (disch := omega) only [hS.glob, wraps, plain, Int.ofNat_eq_natCast]; first | done | rfl | omega | (simp; done) | (simp; omega)) | (simp (disch := omega) only [hS.glob, wraps, plain, Int.ofNat_eq_natCast, Vx.toN]; omega))) | (refine ptq ?_ ?_ ?_ <;> (first | rfl | omega | (simp (disch := omega) only [hS.glob, wraps, plain, Int.ofNat_eq_natCast]; first | done | rfl | omega | (simp; done) | (simp; omega)) | (simp (disch := omega) only [hS.glob, wraps, plain, Int.ofNat_eq_natCast, Vx.toN]; omega))) | (refine blq ?_; (first | rfl | omega | (simp (disch := omega) only [hS.glob, wraps, plain, Int.ofNat_eq_natCast]; first | done | rfl | omega | (simp; done) | (simp; omega)) | (simp (disch := omega) only [hS.glob, wraps, plain, Int.ofNat_eq_natCast, Vx.toN]; omega))))) rfl (by (repeat' first | exact trivial | rfl | exact Nat.le_refl _ | exact (fun _ _ => rfl) | (refine And.intro ?_ ?_) | (simp only [hS.glob, plain]; first | done | omega))) (by rw [hC]; exact Nat.zero_le _)
          refine V.loop (γ := Nat) (fun k => k ≤ i) (fun k => [(9, .int .i64 (ofN k)), (7, .int .i64 (ofN o)), (8, .int .i64 (ofN e)), (6, .int .i64 (ofN i)), (5, .sl 0 0 m), (0, .rows 1 n0 (icol .i64 l)), (1, .rows 2 n1 (icol2 kd id))]) (fun _ => [some ⟨41, 2, .arr m (icol2 a b)⟩]) (fun k => i - k) ?_ 0 (Nat.zero_le _)
          rintro k hk hback2
          refine V.goF (by first | exact trivial | assumption) Try.func5 tl_ok mixed hS.ops [] 400 ?_
          intro VV VA W hVV hVA hW
          conv => cbv
          cases h3 : ilt (ofN k) (ofN i)
          · conv => cbv
            simp (disch := first | omega | (simp only [hS.glob, wraps, plain, Int.ofNat_eq_natCast]; omega)) only [hS.glob, wraps, plain, Int.ofNat_eq_natCast] at h3
            rw [hVV]
            clear hVV hVA VV VA hW W
            exact V.to (hback (i + 1) (by omega) (by omega)) (by (repeat' first | exact trivial | rfl | (refine And.intro ?_ ?_) | (refine sti ?_; (first | rfl | omega | (simp (disch := omega) only [hS.glob, wraps, plain, Int.ofNat_eq_natCast]; first | done | rfl | omega | (simp; done) | (simp; omega)) | (simp (disch := omega) only [hS.glob, wraps, plain, Int.ofNat_eq_natCast, Vx.toN]; omega))) | (refine slq ?_ ?_ ?_ <;> (first | rfl | omega | (simp (disch := omega) only [hS.glob, wraps, plain, Int.ofNat_eq_natCast]; first | done | rfl | omega | (simp; done) | (simp; omega)) | (simp (disch := omega) only [hS.glob, wraps, plain, Int.ofNat_eq_natCast, Vx.toN]; omega))) | (refine ptq ?_ ?_ ?_ <;> (first | rfl | omega | (simp (disch := omega) only [hS.glob, wraps, plain, Int.ofNat_eq_natCast]; first | done | rfl | omega | (simp; done) | (simp; omega)) | (simp (disch := omega) only [hS.glob, wraps, plain, Int.ofNat_eq_natCast, Vx.toN]; omega))) | (refine blq ?_; (first | rfl | omega | (simp (disch := omega) only [hS.glob, wraps, plain, Int.ofNat_eq_natCast]; first | done | rfl | omega | (simp; done) | (simp; omega)) | (simp (disch := omega) only [hS.glob, wraps, plain, Int.ofNat_eq_natCast, Vx.toN]; omega))))) rfl (by (repeat' first | exact trivial | rfl | exact Nat.le_refl _ | exact (fun _ _ => rfl) | (refine And.intro ?_ ?_) | (simp only [hS.glob, plain]; first | done | omega))) (by rw [hC]; exact Nat.zero_le _)
          · conv => cbv
            simp (disch := first | omega | (simp only [hS.glob, wraps, plain, Int.ofNat_eq_natCast]; omega)) only [hS.glob, wraps, plain, Int.ofNat_eq_natCast] at h3
            repeat (refine ⟨by first | (rw [hW]; show ordOk _ _ _ = true; kernel_rfl) | (first | trivial | omega | (simp (disch := omega) only [hS.glob, wraps, plain, Int.ofNat_eq_natCast]; first | done | omega | trivial | (simp; done) | (simp; omega) | (constructor <;> omega)) | (simp (disch := omega) only [hS.glob, wraps, plain, Int.ofNat_eq_natCast, Vx.toN]; omega)), ?_⟩)
            simp only [hS.tidy]
            obtain ⟨o', e', r1, r2, r3, r4, r5, r6⟩ := past k (by omega)
            have y1 : a k = ofN o' := by simp (disch := first | omega | (simp only [hS.glob, wraps, plain, Int.ofNat_eq_natCast]; omega)) only [hS.glob, wraps, plain, Int.ofNat_eq_natCast]; exact r1
            have y2 : b k = ofN e' := by simp (disch := first | omega | (simp only [hS.glob, wraps, plain, Int.ofNat_eq_natCast]; omega)) only [hS.glob, wraps, plain, Int.ofNat_eq_natCast]; exact r2
            simp only [y1, y2]
            have y3 : igt (ofN o) (ofN o') = true := by simp (disch := first | omega | (simp only [hS.glob, wraps, plain, Int.ofNat_eq_natCast]; omega)) only [hS.glob, wraps, plain, Int.ofNat_eq_natCast]; omega
            simp only [y3]
            conv => cbv
            repeat (refine ⟨by first | (rw [hW]; show ordOk _ _ _ = true; kernel_rfl) | (first | trivial | omega | (simp (disch := omega) only [hS.glob, wraps, plain, Int.ofNat_eq_natCast]; first | done | omega | trivial | (simp; done) | (simp; omega) | (constructor <;> omega)) | (simp (disch := omega) only [hS.glob, wraps, plain, Int.ofNat_eq_natCast, Vx.toN]; omega)), ?_⟩)
            simp only [hS.tidy, y2]
            rcases r4 with r4 | r4
            · have y4 : ilt (ofN e) (ofN e') = true := by simp (disch := first | omega | (simp only [hS.glob, wraps, plain, Int.ofNat_eq_natCast]; omega)) only [hS.glob, wraps, plain, Int.ofNat_eq_natCast]; omega
              simp only [y4]
              conv => cbv
              repeat (refine ⟨by first | (rw [hW]; show ordOk _ _ _ = true; kernel_rfl) | (first | trivial | omega | (simp (disch := omega) only [hS.glob, wraps, plain, Int.ofNat_eq_natCast]; first | done | omega | trivial | (simp; done) | (simp; omega) | (constructor <;> omega)) | (simp (disch := omega) only [hS.glob, wraps, plain, Int.ofNat_eq_natCast, Vx.toN]; omega)), ?_⟩)
              try simp only [hS.tidy, y2]
              rw [hVV]
              clear hVV hVA VV VA hW W
              exact V.to (hback2 (k + 1) (by omega) (by omega)) (by (repeat' first | exact trivial | rfl | (refine And.intro ?_ ?_) | (refine sti ?_; (first | rfl | omega | (simp (disch := omega) only [hS.glob, wraps, plain, Int.ofNat_eq_natCast]; first | done | rfl | omega | (simp; done) | (simp; omega)) | (simp (disch := omega) only [hS.glob, wraps, plain, Int.ofNat_eq_natCast, Vx.toN]; omega))) | (refine slq ?_ ?_ ?_ <;> (first | rfl | omega | (simp (disch := omega) only [hS.glob, wraps, plain, Int.ofNat_eq_natCast]; first | done | rfl | omega | (simp; done) | (simp; omega)) | (simp (disch := omega) only [hS.glob, wraps, plain, Int.ofNat_eq_natCast, Vx.toN]; omega))) | (refine ptq ?_ ?_ ?_ <;> (first | rfl | omega | (simp (disch := omega) only [hS.glob, wraps, plain, Int.ofNat_eq_natCast]; first | done | rfl | omega | (simp; done) | (simp; omega)) | (simp (disch := omega) only [hS.glob, wraps, plain, Int.ofNat_eq_natCast, Vx.toN]; omega))) | (refine blq ?_; (first | rfl | omega | (simp (disch := omega) only [hS.glob, wraps, plain, Int.ofNat_eq_natCast]; first | done | rfl | omega | (simp; done) | (simp; omega)) | (simp (disch := omega) only [hS.glob, wraps, plain, Int.ofNat_eq_natCast, Vx.toN]; omega))))) rfl (by (repeat' first | exact trivial | rfl | exact Nat.le_refl _ | exact (fun _ _ => rfl) | (refine And.intro ?_ ?_) | (simp only [hS.glob, plain]; first | done | omega))) (by rw [hC]; exact Nat.zero_le _)
            · cases y4 : ilt (ofN e) (ofN e')
              · conv => cbv
                repeat (refine ⟨by first | (rw [hW]; show ordOk _ _ _ = true; kernel_rfl) | (first | trivial | omega | (simp (disch := omega) only [hS.glob, wraps, plain, Int.ofNat_eq_natCast]; first | done | omega | trivial | (simp; done) | (simp; omega) | (constructor <;> omega)) | (simp (disch := omega) only [hS.glob, wraps, plain, Int.ofNat_eq_natCast, Vx.toN]; omega)), ?_⟩)
                try simp only [hS.tidy, y2]
                have y5 : igt (ofN o) (ofN e') = true := by simp (disch := first | omega | (simp only [hS.glob, wraps, plain, Int.ofNat_eq_natCast]; omega)) only [hS.glob, wraps, plain, Int.ofNat_eq_natCast]; omega
                simp only [y5]
                conv => cbv
                rw [hVV]
                clear hVV hVA VV VA hW W
                exact V.to (hback2 (k + 1) (by omega) (by omega)) (by (repeat' first | exact trivial | rfl | (refine And.intro ?_ ?_) | (refine sti ?_; (first | rfl | omega | (simp (disch := omega) only [hS.glob, wraps, plain, Int.ofNat_eq_natCast]; first | done | rfl | omega | (simp; done) | (simp; omega)) | (simp (disch := omega) only [hS.glob, wraps, plain, Int.ofNat_eq_natCast, Vx.toN]; omega))) | (refine slq ?_ ?_ ?_ <;> (first | rfl | omega | (simp (disch := omega) only [hS.glob, wraps, plain, Int.ofNat_eq_natCast]; first | done | rfl | omega | (simp; done) | (simp; omega)) | (simp (disch := omega) only [hS.glob, wraps, plain, Int.ofNat_eq_natCast, Vx.toN]; omega))) | (refine ptq ?_ ?_ ?_ <;> (first | rfl | omega | (simp (disch := omega) only [hS.glob, wraps, plain, Int.ofNat_eq_natCast]; first | done | rfl | omega | (simp; done) | (simp; omega)) | (simp (disch := omega) only [hS.glob, wraps, plain, Int.ofNat_eq_natCast, Vx.toN]; omega))) | (refine blq ?_; (first | rfl | omega | (simp (disch := omega) only [hS.glob, wraps, plain, Int.ofNat_eq_natCast]; first | done | rfl | omega | (simp; done) | (simp; omega)) | (simp (disch := omega) only [hS.glob, wraps, plain, Int.ofNat_eq_natCast, Vx.toN]; omega))))) rfl (by (repeat' first | exact trivial | rfl | exact Nat.le_refl _ | exact (fun _ _ => rfl) | (refine And.intro ?_ ?_) | (simp only [hS.glob, plain]; first | done | omega))) (by rw [hC]; exact Nat.zero_le _)
              · simp (disch := first | omega | (simp only [hS.glob, wraps, plain, Int.ofNat_eq_natCast]; omega)) only [hS.glob, wraps, plain, Int.ofNat_eq_natCast] at y4
                omega
    · conv => cbv
      rw [hVV]
      clear hVV hVA VV VA hW W
      refine V.call rfl rfl rfl rfl rfl Try.func8 rfl (by decide) [] (by simp) (by simp) (by (first | rfl | ((conv => cbv); (repeat' apply And.intro) <;> first | rfl | trivial | (first | rfl | omega | (simp (disch := omega) only [hS.glob, wraps, plain, Int.ofNat_eq_natCast]; first | done | rfl | omega | (simp; done) | (simp; omega)) | (simp (disch := omega) only [hS.glob, wraps, plain, Int.ofNat_eq_natCast, Vx.toN]; omega))))) rfl h8 ?_
      rintro r Hc ⟨rfl, rfl⟩
      refine V.goF (by first | exact trivial | assumption) Try.func5 tl_ok mixed hS.ops [] 400 ?_
      intro VV VA W hVV hVA hW
      conv => cbv
      trivial
  · conv => cbv
    rw [hVV]
    clear hVV hVA VV VA hW W
    refine V.call rfl rfl rfl rfl rfl Try.func8 rfl (by decide) [] (by simp) (by simp) (by (first | rfl | ((conv => cbv); (repeat' apply And.intro) <;> first | rfl | trivial | (first | rfl | omega | (simp (disch := omega) only [hS.glob, wraps, plain, Int.ofNat_eq_natCast]; first | done | rfl | omega | (simp; done) | (simp; omega)) | (simp (disch := omega) only [hS.glob, wraps, plain, Int.ofNat_eq_natCast, Vx.toN]; omega))))) rfl h8 ?_
    rintro r Hc ⟨rfl, rfl⟩
    refine V.goF (by first | exact trivial | assumption) Try.func5 tl_ok mixed hS.ops [] 400 ?_
    intro VV VA W hVV hVA hW
    conv => cbv
    trivial
theorem f5_ok (n0 n1 : Nat) (l kd id : Nat → Int) (m0 : n0 ≤ 140737488355328) (m1 : n1 ≤ 140737488355328) : FSpec Try.prog 5 [.rows 1 n0 (icol .i64 l), .rows 2 n1 (icol2 kd id)] [] (fun r H' => r = .bool true ∧ H' = []) := by
  refine (f5_ok1 n0 n1 l kd id m0 m1).weaken ?_
  rintro r H' rfl
  exact ⟨[], by cases H' <;> simp [heapCov], rfl, Nat.le_refl _, rfl, rfl⟩
end Go.Proofs.Ytcoanfhjgmndcaa
