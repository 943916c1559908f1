/- Contracts of functions by an evaluator of the model: its part T3. -/
import Derived.Test.YtihmolafajmbjaaT2
set_option linter.all false
/- The law that no level is too deep. -/
namespace Go.Proofs.Ytihmolafajmbjaa
open Go Vx

/-! ### The plain law -/
def okLv (base c x : Int) : Prop := (remC c = true → x = -1) ∧ (remC c = false → base ≤ x ∧ x ≤ 125)
theorem top_of {base : Int} {st : List (Int × Int × Bool)} (lev : ∀ p ∈ st, base ≤ p.1 ∧ p.1 ≤ 125) (hd : (st.headD (0, 0, true)).2.2 = false) : base ≤ (st.getLastD (0, 13, false)).1 ∧ (st.getLastD (0, 13, false)).1 ≤ 125 := by
  obtain ⟨s, x, rfl⟩ := snoc_of (hd_ne hd)
  have := lev x (by simp)
  simpa using this
theorem close_top {base : Int} {i : Nat} {m : Ms} (h : Good base i m) : base ≤ (topM (closeM m)).1 ∧ (topM (closeM m)).1 ≤ 125 := by
  unfold closeM
  split
  · exact top_of h.lev h.hd
  · split
    · rename_i h1 h2
      have hc : 0 < m.st.countP (fun p => p.2.2) := by have := h.opn; omega
      obtain ⟨c1, c2, c3, c4⟩ := good_cut m.st.length m.st (Nat.le_refl _) h.lev h.hd hc
      exact top_of c2 c3
    · exact top_of h.lev h.hd
theorem step_lv {base : Int} (hb : 0 ≤ base ∧ base ≤ 1) {i : Nat} {m : Ms} (h : Good base i m) (odd c : Int) : ∃ x, (stepM base odd c m).xs = m.xs ++ [x] ∧ okLv base c x := by
  have rem : ∀ (m' : Ms), m'.xs = m.xs → remC c = true → ∃ x, (removedM c m').xs = m.xs ++ [x] ∧ okLv base c x := fun m' h1 h2 => ⟨-1, by simp [removedM, putM, h1], ⟨fun _ => rfl, fun h3 => by rw [h2] at h3; cases h3⟩⟩
  have pl : ∀ (m' : Ms), m'.xs = m.xs → (base ≤ (topM m').1 ∧ (topM m').1 ≤ 125) → remC c = false → ∃ x, (plainM c m').xs = m.xs ++ [x] ∧ okLv base c x := fun m' h1 h2 h3 => ⟨(topM m').1, by simp [plainM, putM, h1], ⟨fun h4 => by (rw [h3] at h4; cases h4), fun _ => h2⟩⟩
  unfold stepM
  split
  · rename_i hc
    refine rem _ (by split <;> (try split) <;> rfl) ?_
    rcases hc with rfl | rfl | rfl | rfl <;> rfl
  split
  · rename_i hc
    obtain ⟨x, h1, h2⟩ := pl m rfl h.top (by rcases hc with rfl | rfl | rfl <;> rfl)
    refine ⟨x, ?_, h2⟩
    rw [← h1]
    unfold isoM
    dsimp only
    split <;> rfl
  split
  · rename_i hc
    exact pl _ (by unfold closeM; split <;> (try split) <;> rfl) (close_top h) (by subst hc; rfl)
  split
  · rename_i hc
    exact rem _ (by split <;> (try split) <;> (try split) <;> rfl) (by subst hc; rfl)
  split
  · rename_i hc
    exact ⟨base, rfl, ⟨fun h1 => by (subst hc; cases h1), fun _ => by omega⟩⟩
  split
  · rename_i hc
    exact rem m rfl (by subst hc; rfl)
  · rename_i h1 h2 h3 h4 h5 h6
    refine pl m rfl h.top ?_
    simp only [remC, Bool.or_eq_false_iff, beq_eq_false_iff_ne, ne_eq]
    omega
theorem run_lv {base : Int} (hb : 0 ≤ base ∧ base ≤ 1) (odd l : Nat → Int) (ho : ∀ i, 0 ≤ odd i ∧ odd i ≤ 1) : ∀ (i j : Nat) (x : Int), (runM base odd l i).xs[j]? = some x → okLv base (l j) x
  | 0, j, x, h => by simp [runM] at h
  | i + 1, j, x, h => by
    have g := good_run hb odd l ho i
    obtain ⟨y, h1, h2⟩ := step_lv hb g (odd i) (l i)
    have h3 : (runM base odd l (i + 1)).xs = (runM base odd l i).xs ++ [y] := h1
    rw [h3, List.getElem?_append] at h
    split at h
    · exact run_lv hb odd l ho i j x h
    · rename_i hlt
      have hj : j = i := by
        have h4 := (List.getElem?_eq_some_iff.1 h).1
        have := g.xs
        simp at h4; omega
      subst hj
      rw [g.xs, Nat.sub_self] at h
      simp at h
      subst h
      exact h2
theorem rem_known (c : Int) : remC (knownC c) = remC c := by
  unfold knownC
  split
  · have : remC c = false := by simp only [remC, Bool.or_eq_false_iff, beq_eq_false_iff_ne, ne_eq]; omega
    rw [this]; rfl
  · rfl
/-- Each level of 'Levels'. -/
theorem lev_deep (ln : Nat) (l : Nat → Int) (base : Int) (hb : 0 ≤ base ∧ base ≤ 1) (xs : Nat → Int) (h : tab ln xs = (levM ln l base).xs) (j : Nat) (hj : j < ln) : okLv base (l j) (xs j) := by
  have h1 := tab_get ln xs j hj
  rw [h] at h1
  have h2 := run_lv hb (oddsOf ln l) (kn l) (fun i => oddI_01 _ _ _ _) ln j (xs j) h1
  unfold okLv at h2 ⊢
  simpa only [kn, rem_known] using h2
theorem band_le (a : Int) (m : Nat) (hm : m < 1000) : ∃ r : Nat, Vx.iband .i64 a m = r ∧ r ≤ m := by
  have h1 : (BitVec.ofInt 64 (m : Int)).toNat = m := by rw [BitVec.toNat_ofInt]; omega
  refine ⟨(BitVec.ofInt 64 a).toNat &&& m, ?_, Nat.and_le_right⟩
  show IntKind.i64.wrap _ = _
  have h2 : ((BitVec.ofInt 64 a &&& BitVec.ofInt 64 (m : Int)).toNat : Int) = (((BitVec.ofInt 64 a).toNat &&& m : Nat) : Int) := by rw [BitVec.toNat_and, h1]
  have h3 : (BitVec.ofInt 64 a).toNat &&& m ≤ m := Nat.and_le_right
  show IntKind.i64.wrap ((BitVec.ofInt 64 a &&& BitVec.ofInt 64 (m : Int)).toNat : Int) = _
  rw [h2, IntWalk.i64_in _ (by omega)]
end Go.Proofs.Ytihmolafajmbjaa

/- The law that no level is too deep: the walk. -/
namespace Go.Proofs.Ytihmolafajmbjaa
open Go Vx

theorem f5_ok1 (ln : Nat) (l : Nat → Int) (c a b : Int) : FSpec Try.prog 5 [.rows 1 ln (icol .i64 l), .int .i64 c, .agg [.int .i64 a, .int .i64 b]] [] (fun r H' => r = .bool true) := by
  have h8 := f8_ok
  obtain ⟨m, hm, hm2⟩ := band_le a 255 (by decide)
  obtain ⟨base, hbs, hbs2⟩ := band_le b 1 (by decide)
  refine FSpec.of (fn := Try.f5) Try.func5 rfl rfl (by simp) fun C hC => ?_
  obtain ⟨iadd, isub, imul, iquo, irem, iband, ibor, ibxor, ibandn, ishl, ishr, iconv, ieq, ine, ilt, ile, igt, ige, bbeq, bbne, bnot, bband, sseq, ssne, sscat, sssub, sslen, sssz, ssbyte, toN, ofN, addN, subN, eqN, ltB, leN, imx, imn, inb, leb, sslt, ltN, fit, ne0, ge0, ssfit, minN, inR, hS⟩ := names
  have em : iband .i64 a 255 = ofN m := by simp only [hS.glob]; exact hm
  have eb : iband .i64 b 1 = ofN base := by simp only [hS.glob]; exact hbs
  clear hm hbs
  refine V.go Try.func5 tl_ok mixed hS.ops [] 400 ?_
  intro VV VA W hVV hVA hW
  conv => cbv
  split <;> rename_i h1
  rotate_left
  · conv => cbv
    simp (disch := first | omega | (simp only [hS.glob, wraps, plain, Int.ofNat_eq_natCast]; omega)) only [hS.glob, wraps, plain, Int.ofNat_eq_natCast] at h1
    simp only [eb]
    rw [hVV]
    clear hVV hVA VV VA hW W eb
    refine V.phantom 8 34 1 (icol .i64 fun _ => c) rfl ?_
    refine V.to (s' := [(9, .int .i64 (ofN 0)), (8, .sl 1 0 0), (7, .int .i64 (ofN base)), (5, .ptr 0 0 0), (0, .rows 1 ln (icol .i64 l)), (1, .int .i64 c)]) (H' := [some ⟨35, 2, .lit [[.int .i64 a, .int .i64 b]]⟩, some ⟨34, 1, .arr 0 (icol .i64 fun _ => c)⟩]) ?_ (by (repeat' first | exact trivial | rfl | (refine And.intro ?_ ?_) | (refine sti ?_; (first | rfl | omega | (simp (disch := omega) only [hS.glob, wraps, plain, Int.ofNat_eq_natCast]; first | done | rfl | omega | (simp; done) | (simp; omega)) | (simp (disch := omega) only [hS.glob, wraps, plain, Int.ofNat_eq_natCast, Vx.toN]; omega))) | (refine slq ?_ ?_ ?_ <;> (first | rfl | omega | (simp (disch := omega) only [hS.glob, wraps, plain, Int.ofNat_eq_natCast]; first | done | rfl | omega | (simp; done) | (simp; omega)) | (simp (disch := omega) only [hS.glob, wraps, plain, Int.ofNat_eq_natCast, Vx.toN]; omega))) | (refine ptq ?_ ?_ ?_ <;> (first | rfl | omega | (simp (disch := omega) only [hS.glob, wraps, plain, Int.ofNat_eq_natCast]; first | done | rfl | omega | (simp; done) | (simp; omega)) | (simp (disch := omega) only [hS.glob, wraps, plain, Int.ofNat_eq_natCast, Vx.toN]; omega))) | (refine blq ?_; (first | rfl | omega | (simp (disch := omega) only [hS.glob, wraps, plain, Int.ofNat_eq_natCast]; first | done | rfl | omega | (simp; done) | (simp; omega)) | (simp (disch := omega) only [hS.glob, wraps, plain, Int.ofNat_eq_natCast, Vx.toN]; omega))))) rfl (by (repeat' first | exact trivial | rfl | exact Nat.le_refl _ | exact (fun _ _ => rfl) | (refine And.intro ?_ ?_) | (simp only [hS.glob, plain]; first | done | omega))) (by rw [hC]; simp)
    refine V.loop (γ := Nat) (fun i => i ≤ m) (fun i => [(9, .int .i64 (ofN i)), (8, .sl 1 0 i), (7, .int .i64 (ofN base)), (5, .ptr 0 0 0), (0, .rows 1 ln (icol .i64 l)), (1, .int .i64 c)]) (fun i => [some ⟨35, 2, .lit [[.int .i64 a, .int .i64 b]]⟩, some ⟨34, 1, .arr i (icol .i64 fun _ => c)⟩]) (fun i => m - i) ?_ 0 (Nat.zero_le _)
    rintro i hi hback
    refine V.go Try.func5 tl_ok mixed hS.ops [] 17 ?_
    intro VV VA W hVV hVA hW
    conv => cbv
    simp only [em]
    split <;> rename_i h2
    · conv => cbv
      simp (disch := first | omega | (simp only [hS.glob, wraps, plain, Int.ofNat_eq_natCast]; omega)) only [hS.glob, wraps, plain, Int.ofNat_eq_natCast] at h2
      repeat (refine ⟨by first | (rw [hW]; show ordOk _ _ _ = true; kernel_rfl) | (first | trivial | omega | (simp (disch := omega) only [hS.glob, wraps, plain, Int.ofNat_eq_natCast]; first | done | omega | trivial | (simp; done) | (simp; omega) | (constructor <;> omega)) | (simp (disch := omega) only [hS.glob, wraps, plain, Int.ofNat_eq_natCast, Vx.toN]; omega)), ?_⟩)
      rw [hVV]
      clear hVV hVA VV VA hW W
      refine V.go Try.func5 tl_ok mixed hS.ops [] 400 ?_
      intro VV VA W hVV hVA hW
      conv => cbv
      repeat (refine ⟨by first | (rw [hW]; show ordOk _ _ _ = true; kernel_rfl) | (first | trivial | omega | (simp (disch := omega) only [hS.glob, wraps, plain, Int.ofNat_eq_natCast]; first | done | omega | trivial | (simp; done) | (simp; omega) | (constructor <;> omega)) | (simp (disch := omega) only [hS.glob, wraps, plain, Int.ofNat_eq_natCast, Vx.toN]; omega)), ?_⟩)
      rw [hVV]
      refine V.pick [0, 3] (by decide) (by rw [hC]; exact begins_of rfl) (by rfl) (by rfl) ?_
      refine V.to (hback (i + 1) (by omega) (by omega)) (by (repeat' first | exact trivial | rfl | (refine And.intro ?_ ?_) | (refine sti ?_; (first | rfl | omega | (simp (disch := omega) only [hS.glob, wraps, plain, Int.ofNat_eq_natCast]; first | done | rfl | omega | (simp; done) | (simp; omega)) | (simp (disch := omega) only [hS.glob, wraps, plain, Int.ofNat_eq_natCast, Vx.toN]; omega))) | (refine slq ?_ ?_ ?_ <;> (first | rfl | omega | (simp (disch := omega) only [hS.glob, wraps, plain, Int.ofNat_eq_natCast]; first | done | rfl | omega | (simp; done) | (simp; omega)) | (simp (disch := omega) only [hS.glob, wraps, plain, Int.ofNat_eq_natCast, Vx.toN]; omega))) | (refine ptq ?_ ?_ ?_ <;> (first | rfl | omega | (simp (disch := omega) only [hS.glob, wraps, plain, Int.ofNat_eq_natCast]; first | done | rfl | omega | (simp; done) | (simp; omega)) | (simp (disch := omega) only [hS.glob, wraps, plain, Int.ofNat_eq_natCast, Vx.toN]; omega))) | (refine blq ?_; (first | rfl | omega | (simp (disch := omega) only [hS.glob, wraps, plain, Int.ofNat_eq_natCast]; first | done | rfl | omega | (simp; done) | (simp; omega)) | (simp (disch := omega) only [hS.glob, wraps, plain, Int.ofNat_eq_natCast, Vx.toN]; omega))))) rfl ?_ (by rw [hC]; simp)
      (repeat' first | exact trivial | rfl | exact Nat.le_refl _ | exact (fun _ _ => rfl) | (refine And.intro ?_ ?_) | (simp only [hS.glob, plain]; first | done | omega))
      intro j hj
      simp only [icol] at hj ⊢
      cases hr : ltB j i
      · simp (disch := first | omega | (simp only [hS.glob, wraps, plain, Int.ofNat_eq_natCast]; omega)) only [hS.glob, wraps, plain, Int.ofNat_eq_natCast] at hr
        obtain rfl : j = i := by omega
        simp [hS.glob, Vx.subN]
      · rfl
    · conv => cbv
      simp (disch := first | omega | (simp only [hS.glob, wraps, plain, Int.ofNat_eq_natCast]; omega)) only [hS.glob, wraps, plain, Int.ofNat_eq_natCast] at h2
      obtain rfl : i = m := by omega
      clear hback
      repeat (refine ⟨by first | (rw [hW]; show ordOk _ _ _ = true; kernel_rfl) | (first | trivial | omega | (simp (disch := omega) only [hS.glob, wraps, plain, Int.ofNat_eq_natCast]; first | done | omega | trivial | (simp; done) | (simp; omega) | (constructor <;> omega)) | (simp (disch := omega) only [hS.glob, wraps, plain, Int.ofNat_eq_natCast, Vx.toN]; omega)), ?_⟩)
      rw [hVV]
      clear hVV hVA VV VA hW W
      obtain ⟨n, hn⟩ : ∃ n, n = i + ln := ⟨_, rfl⟩
      obtain ⟨A, hA⟩ : ∃ A : Nat → Int, A = fun j => if j < i then c else l (j - i) := ⟨_, rfl⟩
      refine V.to (s' := [(8, .sl 2 0 n), (7, .int .i64 (ofN base))]) (H' := [none, none, some ⟨34, 1, .arr n (icol .i64 A)⟩]) ?_ (by (repeat' first | exact trivial | rfl | (refine And.intro ?_ ?_) | (refine sti ?_; (first | rfl | omega | (simp (disch := omega) only [hS.glob, wraps, plain, Int.ofNat_eq_natCast]; first | done | rfl | omega | (simp; done) | (simp; omega)) | (simp (disch := omega) only [hS.glob, wraps, plain, Int.ofNat_eq_natCast, Vx.toN]; omega))) | (refine slq ?_ ?_ ?_ <;> (first | rfl | omega | (simp (disch := omega) only [hS.glob, wraps, plain, Int.ofNat_eq_natCast]; first | done | rfl | omega | (simp; done) | (simp; omega)) | (simp (disch := omega) only [hS.glob, wraps, plain, Int.ofNat_eq_natCast, Vx.toN]; omega))) | (refine ptq ?_ ?_ ?_ <;> (first | rfl | omega | (simp (disch := omega) only [hS.glob, wraps, plain, Int.ofNat_eq_natCast]; first | done | rfl | omega | (simp; done) | (simp; omega)) | (simp (disch := omega) only [hS.glob, wraps, plain, Int.ofNat_eq_natCast, Vx.toN]; omega))) | (refine blq ?_; (first | rfl | omega | (simp (disch := omega) only [hS.glob, wraps, plain, Int.ofNat_eq_natCast]; first | done | rfl | omega | (simp; done) | (simp; omega)) | (simp (disch := omega) only [hS.glob, wraps, plain, Int.ofNat_eq_natCast, Vx.toN]; omega))))) rfl ⟨⟨rfl, rfl, ⟨by (first | trivial | omega | (simp (disch := omega) only [hS.glob, wraps, plain, Int.ofNat_eq_natCast]; first | done | omega | trivial | (simp; done) | (simp; omega) | (constructor <;> omega)) | (simp (disch := omega) only [hS.glob, wraps, plain, Int.ofNat_eq_natCast, Vx.toN]; omega)), fun j hj => ?_⟩, rfl⟩, trivial⟩ (by rw [hC]; simp)
      rotate_left
      · show icol .i64 A j = match ltB j i with | true => icol .i64 (fun _ => c) j | false => icol .i64 l (subN j i)
        simp only [icol, hA]
        cases hr : ltB j i
        · simp (disch := first | omega | (simp only [hS.glob, wraps, plain, Int.ofNat_eq_natCast]; omega)) only [hS.glob, wraps, plain, Int.ofNat_eq_natCast] at hr
          rw [if_neg (by omega)]
          simp [hS.glob, Vx.subN]
        · simp (disch := first | omega | (simp only [hS.glob, wraps, plain, Int.ofNat_eq_natCast]; omega)) only [hS.glob, wraps, plain, Int.ofNat_eq_natCast] at hr
          rw [if_pos (by omega)]
      refine V.freeze0 8 2 n (by rfl) (by rfl) (by rfl) (by first | decide | omega | exact Nat.zero_lt_one) (by rfl) (by rfl) (by first | exact Nat.le_refl _ | decide | omega | (simp only [Cont.n]; omega)) ?_
      refine V.pick [] (by decide) (by rw [hC]; exact begins_of rfl) (by rfl) (by rfl) ?_
      refine V.go Try.func5 tl_ok mixed hS.ops [] 400 ?_
      intro VV VA W hVV hVA hW
      conv => cbv
      rw [hVV]
      have hn2 : n ≤ 999999 := by omega
      have hb : (0 : Int) ≤ base ∧ (base : Int) ≤ 1 := by omega
      obtain ⟨bz, hbz⟩ : ∃ bz : Int, bz = base := ⟨_, rfl⟩
      rw [← hbz] at hb
      have hdeep := fun xs h j hj => lev_deep n A bz hb xs h j hj
      have h15 := f15_ok n A hn2 bz (by omega)
      rw [show baseOf n A bz = bz by unfold baseOf; rw [if_neg (by omega)]] at h15
      generalize levM n A bz = M at hdeep h15
      have hzb : ofN base = bz := by simp (disch := first | omega | (simp only [hS.glob, wraps, plain, Int.ofNat_eq_natCast]; omega)) only [hS.glob, wraps, plain, Int.ofNat_eq_natCast]; exact hbz.symm
      rw [hzb]
      clear hVV hVA VV VA hW W hzb hA
      refine V.call rfl rfl rfl rfl rfl Try.func15 rfl (by decide) [] (by simp) (by simp) (by (first | rfl | ((conv => cbv); (repeat' apply And.intro) <;> first | rfl | trivial | (first | rfl | omega | (simp (disch := omega) only [hS.glob, wraps, plain, Int.ofNat_eq_natCast]; first | done | rfl | omega | (simp; done) | (simp; omega)) | (simp (disch := omega) only [hS.glob, wraps, plain, Int.ofNat_eq_natCast, Vx.toN]; omega))))) rfl h15 ?_
      rintro r Hc ⟨xs, cs, rfl, rfl, g1, g2⟩
      replace hdeep := hdeep xs g1
      clear g1 g2 h15
      refine V.go Try.func5 tl_ok mixed hS.ops [] 400 ?_
      intro VV VA W hVV hVA hW
      conv => cbv
      have e1 : ine 0 0 = false := by simp (disch := first | omega | (simp only [hS.glob, wraps, plain, Int.ofNat_eq_natCast]; omega)) only [hS.glob, wraps, plain, Int.ofNat_eq_natCast]
      have e2 : ine (ofN n) (ofN n) = false := by simp (disch := first | omega | (simp only [hS.glob, wraps, plain, Int.ofNat_eq_natCast]; omega)) only [hS.glob, wraps, plain, Int.ofNat_eq_natCast]
      simp only [e1]
      conv => cbv
      simp only [e2]
      conv => cbv
      simp only [e2]
      conv => cbv
      rw [hVV]
      clear hVV hVA VV VA hW W e1 e2
      refine V.to (s' := [(13, .int .i64 (ofN 0)), (10, .sl 0 0 n), (8, .rows 1 n (icol .i64 A)), (7, .int .i64 bz)]) (H' := [some ⟨3, 1, .arr n (icol .i64 xs)⟩]) ?_ (by (repeat' first | exact trivial | rfl | (refine And.intro ?_ ?_) | (refine sti ?_; (first | rfl | omega | (simp (disch := omega) only [hS.glob, wraps, plain, Int.ofNat_eq_natCast]; first | done | rfl | omega | (simp; done) | (simp; omega)) | (simp (disch := omega) only [hS.glob, wraps, plain, Int.ofNat_eq_natCast, Vx.toN]; omega))) | (refine slq ?_ ?_ ?_ <;> (first | rfl | omega | (simp (disch := omega) only [hS.glob, wraps, plain, Int.ofNat_eq_natCast]; first | done | rfl | omega | (simp; done) | (simp; omega)) | (simp (disch := omega) only [hS.glob, wraps, plain, Int.ofNat_eq_natCast, Vx.toN]; omega))) | (refine ptq ?_ ?_ ?_ <;> (first | rfl | omega | (simp (disch := omega) only [hS.glob, wraps, plain, Int.ofNat_eq_natCast]; first | done | rfl | omega | (simp; done) | (simp; omega)) | (simp (disch := omega) only [hS.glob, wraps, plain, Int.ofNat_eq_natCast, Vx.toN]; omega))) | (refine blq ?_; (first | rfl | omega | (simp (disch := omega) only [hS.glob, wraps, plain, Int.ofNat_eq_natCast]; first | done | rfl | omega | (simp; done) | (simp; omega)) | (simp (disch := omega) only [hS.glob, wraps, plain, Int.ofNat_eq_natCast, Vx.toN]; omega))))) rfl (by (repeat' first | exact trivial | rfl | exact Nat.le_refl _ | exact (fun _ _ => rfl) | (refine And.intro ?_ ?_) | (simp only [hS.glob, plain]; first | done | omega))) (by rw [hC]; simp)
      refine V.freeze0 10 0 n (by rfl) (by rfl) (by rfl) (by first | decide | omega | exact Nat.zero_lt_one) (by rfl) (by rfl) (by first | exact Nat.le_refl _ | decide | omega | (simp only [Cont.n]; omega)) ?_
      refine V.to (s' := [(13, .int .i64 (ofN 0)), (10, .rows 1 n (icol .i64 xs)), (8, .rows 1 n (icol .i64 A)), (7, .int .i64 bz)]) (H' := []) ?_ (by (repeat' first | exact trivial | rfl | (refine And.intro ?_ ?_) | (refine sti ?_; (first | rfl | omega | (simp (disch := omega) only [hS.glob, wraps, plain, Int.ofNat_eq_natCast]; first | done | rfl | omega | (simp; done) | (simp; omega)) | (simp (disch := omega) only [hS.glob, wraps, plain, Int.ofNat_eq_natCast, Vx.toN]; omega))) | (refine slq ?_ ?_ ?_ <;> (first | rfl | omega | (simp (disch := omega) only [hS.glob, wraps, plain, Int.ofNat_eq_natCast]; first | done | rfl | omega | (simp; done) | (simp; omega)) | (simp (disch := omega) only [hS.glob, wraps, plain, Int.ofNat_eq_natCast, Vx.toN]; omega))) | (refine ptq ?_ ?_ ?_ <;> (first | rfl | omega | (simp (disch := omega) only [hS.glob, wraps, plain, Int.ofNat_eq_natCast]; first | done | rfl | omega | (simp; done) | (simp; omega)) | (simp (disch := omega) only [hS.glob, wraps, plain, Int.ofNat_eq_natCast, Vx.toN]; omega))) | (refine blq ?_; (first | rfl | omega | (simp (disch := omega) only [hS.glob, wraps, plain, Int.ofNat_eq_natCast]; first | done | rfl | omega | (simp; done) | (simp; omega)) | (simp (disch := omega) only [hS.glob, wraps, plain, Int.ofNat_eq_natCast, Vx.toN]; omega))))) rfl (by (repeat' first | exact trivial | rfl | exact Nat.le_refl _ | exact (fun _ _ => rfl) | (refine And.intro ?_ ?_) | (simp only [hS.glob, plain]; first | done | omega))) (by rw [hC]; simp)
      refine V.loop (γ := Nat) (fun i => i ≤ n) (fun i => [(13, .int .i64 (ofN i)), (10, .rows 1 n (icol .i64 xs)), (8, .rows 1 n (icol .i64 A)), (7, .int .i64 bz)]) (fun _ => []) (fun i => n - i) ?_ 0 (Nat.zero_le _)
      clear hi hn
      rintro j hj hback
      refine V.go Try.func5 tl_ok mixed hS.ops [] 400 ?_
      intro VV VA W hVV hVA hW
      conv => cbv
      split <;> rename_i h2
      · conv => cbv
        simp (disch := first | omega | (simp only [hS.glob, wraps, plain, Int.ofNat_eq_natCast]; omega)) only [hS.glob, wraps, plain, Int.ofNat_eq_natCast] at h2
        repeat (refine ⟨by first | (rw [hW]; show ordOk _ _ _ = true; kernel_rfl) | (first | trivial | omega | (simp (disch := omega) only [hS.glob, wraps, plain, Int.ofNat_eq_natCast]; first | done | omega | trivial | (simp; done) | (simp; omega) | (constructor <;> omega)) | (simp (disch := omega) only [hS.glob, wraps, plain, Int.ofNat_eq_natCast, Vx.toN]; omega)), ?_⟩)
        simp only [hS.tidy]
        have hd := hdeep j (by omega)
        obtain ⟨R, hR⟩ : ∃ R, R = remC (A j) := ⟨_, rfl⟩
        unfold okLv at hd
        rw [← hR] at hd
        rw [hVV]
        clear hVV hVA VV VA hW W
        refine V.call rfl rfl rfl rfl rfl Try.func17 rfl (by decide) [] (by simp) (by simp) (by (first | rfl | ((conv => cbv); (repeat' apply And.intro) <;> first | rfl | trivial | (first | rfl | omega | (simp (disch := omega) only [hS.glob, wraps, plain, Int.ofNat_eq_natCast]; first | done | rfl | omega | (simp; done) | (simp; omega)) | (simp (disch := omega) only [hS.glob, wraps, plain, Int.ofNat_eq_natCast, Vx.toN]; omega))))) rfl (f17_ok (A j) R hR) ?_
        rintro r Hc ⟨rfl, rfl⟩
        refine V.go Try.func5 tl_ok mixed hS.ops [] 400 ?_
        intro VV VA W hVV hVA hW
        conv => cbv
        repeat (refine ⟨by first | (rw [hW]; show ordOk _ _ _ = true; kernel_rfl) | (first | trivial | omega | (simp (disch := omega) only [hS.glob, wraps, plain, Int.ofNat_eq_natCast]; first | done | omega | trivial | (simp; done) | (simp; omega) | (constructor <;> omega)) | (simp (disch := omega) only [hS.glob, wraps, plain, Int.ofNat_eq_natCast, Vx.toN]; omega)), ?_⟩)
        simp only [hS.tidy]
        cases R
        · have hx := hd.2 rfl
          have e1 : bbne false (ieq (xs j) (-1)) = false := by
            have : ieq (xs j) (-1) = false := by simp (disch := first | omega | (simp only [hS.glob, wraps, plain, Int.ofNat_eq_natCast]; omega)) only [hS.glob, wraps, plain, Int.ofNat_eq_natCast]; omega
            rw [this]; simp [hS.glob, Vx.bbne]
          have e2 : bnot false = true := by simp [hS.glob, Vx.bnot]
          have e3 : ilt (xs j) bz = false := by simp (disch := first | omega | (simp only [hS.glob, wraps, plain, Int.ofNat_eq_natCast]; omega)) only [hS.glob, wraps, plain, Int.ofNat_eq_natCast]; omega
          have e4 : igt (xs j) 125 = false := by simp (disch := first | omega | (simp only [hS.glob, wraps, plain, Int.ofNat_eq_natCast]; omega)) only [hS.glob, wraps, plain, Int.ofNat_eq_natCast]; omega
          simp only [e1]
          conv => cbv
          simp only [e2]
          conv => cbv
          repeat (refine ⟨by first | (rw [hW]; show ordOk _ _ _ = true; kernel_rfl) | (first | trivial | omega | (simp (disch := omega) only [hS.glob, wraps, plain, Int.ofNat_eq_natCast]; first | done | omega | trivial | (simp; done) | (simp; omega) | (constructor <;> omega)) | (simp (disch := omega) only [hS.glob, wraps, plain, Int.ofNat_eq_natCast, Vx.toN]; omega)), ?_⟩)
          simp only [hS.tidy, e3]
          conv => cbv
          repeat (refine ⟨by first | (rw [hW]; show ordOk _ _ _ = true; kernel_rfl) | (first | trivial | omega | (simp (disch := omega) only [hS.glob, wraps, plain, Int.ofNat_eq_natCast]; first | done | omega | trivial | (simp; done) | (simp; omega) | (constructor <;> omega)) | (simp (disch := omega) only [hS.glob, wraps, plain, Int.ofNat_eq_natCast, Vx.toN]; omega)), ?_⟩)
          simp only [hS.tidy, e4]
          conv => cbv
          rw [hVV]
          exact V.to (hback (j + 1) (by omega) (by omega)) (by (repeat' first | exact trivial | rfl | (refine And.intro ?_ ?_) | (refine sti ?_; (first | rfl | omega | (simp (disch := omega) only [hS.glob, wraps, plain, Int.ofNat_eq_natCast]; first | done | rfl | omega | (simp; done) | (simp; omega)) | (simp (disch := omega) only [hS.glob, wraps, plain, Int.ofNat_eq_natCast, Vx.toN]; omega))) | (refine slq ?_ ?_ ?_ <;> (first | rfl | omega | (simp (disch := omega) only [hS.glob, wraps, plain, Int.ofNat_eq_natCast]; first | done | rfl | omega | (simp; done) | (simp; omega)) | (simp (disch := omega) only [hS.glob, wraps, plain, Int.ofNat_eq_natCast, Vx.toN]; omega))) | (refine ptq ?_ ?_ ?_ <;> (first | rfl | omega | (simp (disch := omega) only [hS.glob, wraps, plain, Int.ofNat_eq_natCast]; first | done | rfl | omega | (simp; done) | (simp; omega)) | (simp (disch := omega) only [hS.glob, wraps, plain, Int.ofNat_eq_natCast, Vx.toN]; omega))) | (refine blq ?_; (first | rfl | omega | (simp (disch := omega) only [hS.glob, wraps, plain, Int.ofNat_eq_natCast]; first | done | rfl | omega | (simp; done) | (simp; omega)) | (simp (disch := omega) only [hS.glob, wraps, plain, Int.ofNat_eq_natCast, Vx.toN]; omega))))) rfl (by (repeat' first | exact trivial | rfl | exact Nat.le_refl _ | exact (fun _ _ => rfl) | (refine And.intro ?_ ?_) | (simp only [hS.glob, plain]; first | done | omega))) (by rw [hC]; simp)
        · have hx := hd.1 rfl
          have e1 : bbne true (ieq (xs j) (-1)) = false := by
            have : ieq (xs j) (-1) = true := by simp (disch := first | omega | (simp only [hS.glob, wraps, plain, Int.ofNat_eq_natCast]; omega)) only [hS.glob, wraps, plain, Int.ofNat_eq_natCast]; omega
            rw [this]; simp [hS.glob, Vx.bbne]
          have e2 : bnot true = false := by simp [hS.glob, Vx.bnot]
          simp only [e1]
          conv => cbv
          rw [hVV]
          exact V.to (hback (j + 1) (by omega) (by omega)) (by (repeat' first | exact trivial | rfl | (refine And.intro ?_ ?_) | (refine sti ?_; (first | rfl | omega | (simp (disch := omega) only [hS.glob, wraps, plain, Int.ofNat_eq_natCast]; first | done | rfl | omega | (simp; done) | (simp; omega)) | (simp (disch := omega) only [hS.glob, wraps, plain, Int.ofNat_eq_natCast, Vx.toN]; omega))) | (refine slq ?_ ?_ ?_ <;> (first | rfl | omega | (simp (disch := omega) only [hS.glob, wraps, plain, Int.ofNat_eq_natCast]; first | done | rfl | omega | (simp; done) | (simp; omega)) | (simp (disch := omega) only [hS.glob, wraps, plain, Int.ofNat_eq_natCast, Vx.toN]; omega))) | (refine ptq ?_ ?_ ?_ <;> (first | rfl | omega | (simp (disch := omega) only [hS.glob, wraps, plain, Int.ofNat_eq_natCast]; first | done | rfl | omega | (simp; done) | (simp; omega)) | (simp (disch := omega) only [hS.glob, wraps, plain, Int.ofNat_eq_natCast, Vx.toN]; omega))) | (refine blq ?_; (first | rfl | omega | (simp (disch := omega) only [hS.glob, wraps, plain, Int.ofNat_eq_natCast]; first | done | rfl | omega | (simp; done) | (simp; omega)) | (simp (disch := omega) only [hS.glob, wraps, plain, Int.ofNat_eq_natCast, Vx.toN]; omega))))) rfl (by (repeat' first | exact trivial | rfl | exact Nat.le_refl _ | exact (fun _ _ => rfl) | (refine And.intro ?_ ?_) | (simp only [hS.glob, plain]; first | done | omega))) (by rw [hC]; simp)
      · conv => cbv
        rw [hVV]
        clear hVV hVA VV VA hW W
        refine V.call rfl rfl rfl rfl rfl Try.func8 rfl (by decide) [] (by simp) (by simp) (by (first | rfl | ((conv => cbv); (repeat' apply And.intro) <;> first | rfl | trivial | (first | rfl | omega | (simp (disch := omega) only [hS.glob, wraps, plain, Int.ofNat_eq_natCast]; first | done | rfl | omega | (simp; done) | (simp; omega)) | (simp (disch := omega) only [hS.glob, wraps, plain, Int.ofNat_eq_natCast, Vx.toN]; omega))))) rfl h8 ?_
        rintro r Hc ⟨rfl, rfl⟩
        refine V.go Try.func5 tl_ok mixed hS.ops [] 400 ?_
        intro VV VA W hVV hVA hW
        conv => cbv
        trivial
  · conv => cbv
    rw [hVV]
    refine V.call rfl rfl rfl rfl rfl Try.func8 rfl (by decide) [] (by simp) (by simp) (by (first | rfl | ((conv => cbv); (repeat' apply And.intro) <;> first | rfl | trivial | (first | rfl | omega | (simp (disch := omega) only [hS.glob, wraps, plain, Int.ofNat_eq_natCast]; first | done | rfl | omega | (simp; done) | (simp; omega)) | (simp (disch := omega) only [hS.glob, wraps, plain, Int.ofNat_eq_natCast, Vx.toN]; omega))))) rfl h8 ?_
    rintro r Hc ⟨rfl, rfl⟩
    refine V.go Try.func5 tl_ok mixed hS.ops [] 400 ?_
    intro VV VA W hVV hVA hW
    conv => cbv
    trivial
theorem f5_ok (ln : Nat) (l : Nat → Int) (c a b : Int) : FSpec Try.prog 5 [.rows 1 ln (icol .i64 l), .int .i64 c, .agg [.int .i64 a, .int .i64 b]] [] (fun r H' => r = .bool true ∧ H' = []) := by
  refine (f5_ok1 ln l c a b).weaken ?_
  rintro r H' rfl
  exact ⟨[], by cases H' <;> simp [heapCov], rfl, Nat.le_refl _, rfl, rfl⟩
end Go.Proofs.Ytihmolafajmbjaa

/- The law that behind a B all begins anew: plain. -/
namespace Go.Proofs.Ytihmolafajmbjaa
open Go Vx

def preM (X Y : List Int) (m : Ms) : Ms := { m with xs := X ++ m.xs, cs := Y ++ m.cs }
theorem rem_pre (X Y : List Int) (c : Int) (m : Ms) : removedM c (preM X Y m) = preM X Y (removedM c m) := by simp [removedM, putM, preM]
theorem plain_pre (X Y : List Int) (c : Int) (m : Ms) : plainM c (preM X Y m) = preM X Y (plainM c m) := by simp [plainM, topM, putM, preM]
theorem emb_pre (X Y : List Int) (c : Int) (m : Ms) : embM c (preM X Y m) = preM X Y (embM c m) := by
  unfold embM
  rw [← rem_pre]
  congr 1
  have h1 : canP (oddM c) (preM X Y m) = canP (oddM c) m := rfl
  have h2 : (preM X Y m).iso = m.iso := rfl
  rw [h1, h2]
  by_cases h : canP (oddM c) m = true
  · rw [if_pos h, if_pos h]; rfl
  · rw [if_neg h, if_neg h]
    by_cases h3 : m.iso = 0
    · rw [if_pos h3, if_pos h3]; rfl
    · rw [if_neg h3, if_neg h3]
theorem iso_pre (X Y : List Int) (odd c : Int) (m : Ms) : isoM odd c (preM X Y m) = preM X Y (isoM odd c m) := by
  unfold isoM
  dsimp only
  rw [plain_pre]
  have h1 : canP odd (preM X Y (plainM c m)) = canP odd (plainM c m) := rfl
  rw [h1]
  by_cases h : canP odd (plainM c m) = true
  · rw [if_pos h, if_pos h]; rfl
  · rw [if_neg h, if_neg h]; rfl
theorem close_pre (X Y : List Int) (m : Ms) : closeM (preM X Y m) = preM X Y (closeM m) := by
  unfold closeM
  have h1 : (preM X Y m).iso = m.iso := rfl
  have h2 : (preM X Y m).opn = m.opn := rfl
  rw [h1, h2]
  by_cases h : 0 < m.iso
  · rw [if_pos h, if_pos h]; rfl
  · rw [if_neg h, if_neg h]
    by_cases h3 : 0 < m.opn
    · rw [if_pos h3, if_pos h3]; rfl
    · rw [if_neg h3, if_neg h3]
theorem pop_pre (X Y : List Int) (c : Int) (m : Ms) : popM c (preM X Y m) = preM X Y (popM c m) := by
  unfold popM
  rw [← rem_pre]
  congr 1
  have h1 : (preM X Y m).iso = m.iso := rfl
  have h2 : (preM X Y m).emb = m.emb := rfl
  have h3 : (preM X Y m).st = m.st := rfl
  have h4 : topM (preM X Y m) = topM m := rfl
  rw [h1, h2, h3, h4]
  by_cases h : 0 < m.iso
  · rw [if_pos h, if_pos h]
  · rw [if_neg h, if_neg h]
    by_cases h5 : 0 < m.emb
    · rw [if_pos h5, if_pos h5]; rfl
    · rw [if_neg h5, if_neg h5]
      by_cases h6 : 1 < m.st.length ∧ (topM m).2.2 = false
      · rw [if_pos h6, if_pos h6]; rfl
      · rw [if_neg h6, if_neg h6]
theorem step_pre (X Y : List Int) (base odd c : Int) (m : Ms) : stepM base odd c (preM X Y m) = preM X Y (stepM base odd c m) := by
  unfold stepM
  split
  · exact emb_pre X Y c m
  split
  · exact iso_pre X Y odd c m
  split
  · unfold closingM; rw [close_pre, plain_pre]
  split
  · exact pop_pre X Y c m
  split
  · simp [parM, freshM, putM, preM]
  split
  · exact rem_pre X Y c m
  · exact plain_pre X Y c m
theorem run_congr (base : Int) {odd odd' l l' : Nat → Int} : ∀ i, (∀ j, j < i → odd j = odd' j) → (∀ j, j < i → l j = l' j) → runM base odd l i = runM base odd' l' i
  | 0, _, _ => rfl
  | i + 1, h1, h2 => by
    rw [runM, runM, run_congr base i (fun j hj => h1 j (by omega)) (fun j hj => h2 j (by omega)), h1 i (by omega), h2 i (by omega)]
theorem run_pre (base : Int) (odd l : Nat → Int) (i : Nat) (X Y : List Int) (h : runM base odd l i = preM X Y ⟨[(base, 13, false)], 0, 0, 0, [], []⟩) :
    ∀ p, runM base odd l (i + p) = preM X Y (runM base (fun q => odd (i + q)) (fun q => l (i + q)) p)
  | 0 => h
  | p + 1 => by
    show stepM base (odd (i + p)) (l (i + p)) (runM base odd l (i + p)) = _
    rw [run_pre base odd l i X Y h p, step_pre]
    rfl
theorem run_par (base : Int) (odd l : Nat → Int) (i : Nat) (h0 : 0 < i) (h : l (i - 1) = 10) : runM base odd l i = preM (runM base odd l i).xs (runM base odd l i).cs ⟨[(base, 13, false)], 0, 0, 0, [], []⟩ := by
  obtain ⟨k, rfl⟩ : ∃ k, i = k + 1 := ⟨i - 1, by omega⟩
  have hk : l k = 10 := h
  have : runM base odd l (k + 1) = parM base 10 (runM base odd l k) := by
    rw [runM, hk]; rfl
  rw [this]
  simp [preM, parM, freshM, putM]

def shI (i : Nat) (x : Int) : Int := if x = -1 then -1 else x + i
theorem mrun_shift (l : Nat → Int) (i : Nat) (h : (mrun l i).1 = []) : ∀ p, (mrun l (i + p)).1 = (mrun (fun q => l (i + q)) p).1.map (fun x => x + (i : Int)) ∧ (∀ j, j < i → (mrun l (i + p)).2 j = (mrun l i).2 j) ∧
    ∀ j, (mrun l (i + p)).2 (i + j) = shI i ((mrun (fun q => l (i + q)) p).2 j)
  | 0 => ⟨by rw [Nat.add_zero, h]; rfl, fun _ _ => rfl, fun j => by
      have := mrun_out l i (i + j)
      show (mrun l i).2 (i + j) = shI i (-1)
      unfold shI
      rw [if_pos rfl]; omega⟩
  | p + 1 => by
    obtain ⟨h1, h2, h3⟩ := mrun_shift l i h p
    have hlt := mrun_lt (fun q => l (i + q)) p
    have r1 : mrun l (i + (p + 1)) = mstep (l (i + p)) (i + p) (mrun l (i + p)) := rfl
    have r2 : mrun (fun q => l (i + q)) (p + 1) = mstep (l (i + p)) p (mrun (fun q => l (i + q)) p) := rfl
    rw [r1, r2]
    generalize mrun l (i + p) = m at h1 h2 h3
    generalize mrun (fun q => l (i + q)) p = m' at h1 h3 hlt
    obtain ⟨st, out⟩ := m
    obtain ⟨st', out'⟩ := m'
    simp only at h1 h2 h3 hlt
    subst h1
    simp only [mstep]
    split
    · exact ⟨rfl, h2, h3⟩
    split
    · exact ⟨by simp [Int.add_comm], h2, h3⟩
    split
    · by_cases hst : st' = []
      · subst hst
        simp only [List.map_nil, if_true]
        exact ⟨trivial, h2, h3⟩
      · rw [if_neg (by simpa using hst), if_neg hst]
        obtain ⟨s, x, rfl⟩ := snoc_of hst
        have hx := hlt s.length (by simp)
        have hx2 : (s ++ [x]).getD s.length 0 = x := by simp
        rw [hx2] at hx
        refine ⟨by simp, fun j hj => ?_, fun j => ?_⟩
        · simp only [List.map_append, List.map_cons, List.map_nil, List.length_append, List.length_map, List.length_cons, List.length_nil]
          have : (s.map (fun x => x + (i : Int)) ++ [x + (i : Int)]).getD (s.length + (0 + 1) - 1) 0 = x + i := by
            rw [show s.length + (0 + 1) - 1 = (s.map (fun x => x + (i : Int))).length by simp]
            simp
          rw [this, if_neg (by omega)]
          exact h2 j hj
        · simp only [List.map_append, List.map_cons, List.map_nil, List.length_append, List.length_map, List.length_cons, List.length_nil]
          have : (s.map (fun x => x + (i : Int)) ++ [x + (i : Int)]).getD (s.length + (0 + 1) - 1) 0 = x + i := by
            rw [show s.length + (0 + 1) - 1 = (s.map (fun x => x + (i : Int))).length by simp]
            simp
          rw [this, show s.length + (0 + 1) - 1 = s.length by omega, hx2]
          by_cases hj : (j : Int) = x
          · rw [if_pos (by omega), if_pos hj]
            unfold shI
            rw [if_neg (by omega)]; omega
          · rw [if_neg (by omega), if_neg hj]
            exact h3 j
    · exact ⟨rfl, h2, h3⟩

theorem sgo_cut (l e : Nat → Int) (i to : Nat) (hB : l (i - 1) = 10) (he : ∀ p, p < i → e p = -1 ∨ ((p : Int) < e p ∧ e p + 1 < i)) (hto : i ≤ to) :
    ∀ f f2 p, p + 1 ≤ i → i ≤ p + f → i ≤ p + f2 → sgo l e to f p = sgo l e i f2 p
  | 0, f2, p, h1, h2, h3 => by omega
  | f + 1, 0, p, h1, h2, h3 => by omega
  | f + 1, f2 + 1, p, h1, h2, h3 => by
    have t1 : p < to := by omega
    have t2 : p < i := by omega
    rw [sgo, sgo]
    simp only [if_pos t1, if_pos t2]
    split
    · rfl
    rename_i n1
    split
    · rfl
    have hp : p + 1 ≠ i := fun e1 => n1 (.inl (by rw [← hB, ← e1]; rfl))
    have hep := he p (by omega)
    split
    · by_cases h4 : e p = -1
      · rw [if_pos (.inl h4), if_pos (.inl h4)]
      · rw [if_neg (by omega), if_neg (by omega)]
        exact sgo_cut l e i to hB he hto f f2 _ (by omega) (by omega) (by omega)
    · exact sgo_cut l e i to hB he hto f f2 _ (by omega) (by omega) (by omega)
theorem sgo_shift (l e l' e' : Nat → Int) (i t : Nat) (hl : ∀ q, l (i + q) = l' q) (he : ∀ q, e (i + q) = shI i (e' q)) (hr : ∀ q, e' q = -1 ∨ (q : Int) < e' q) : ∀ f q, sgo l e (i + t) f (i + q) = sgo l' e' t f q
  | 0, _ => rfl
  | f + 1, q => by
    have ih := sgo_shift l e l' e' i t hl he hr f
    rw [sgo, sgo]
    have hq := hr q
    by_cases h1 : q < t
    · have t1 : i + q < i + t := by omega
      simp only [if_pos h1, if_pos t1, hl, he]
      split
      · rfl
      split
      · rfl
      split
      · unfold shI
        by_cases h4 : e' q = -1
        · rw [if_pos (.inl (by rw [if_pos h4])), if_pos (.inl h4)]
        · by_cases h5 : (t : Int) ≤ e' q
          · rw [if_neg h4, if_pos (.inr (by omega)), if_pos (.inr h5)]
          · rw [if_neg h4, if_neg (by omega), if_neg (by omega)]
            have : (e' q + i).toNat + 1 = i + ((e' q).toNat + 1) := by omega
            rw [this, ih]
      · rw [Nat.add_assoc, ih]
    · have t1 : ¬ i + q < i + t := by omega
      simp only [if_neg h1, if_neg t1]

theorem known_B {c : Int} (h : c = 10) : knownC c = 10 := by subst h; rfl
/-- The first part of a list that is cut behind a B. -/
theorem odds_first (ln : Nat) (l : Nat → Int) (i : Nat) (h0 : 0 < i) (hi : i ≤ ln) (hB : l (i - 1) = 10) (j : Nat) (hj : j < i) : oddsOf ln l j = oddsOf i l j := by
  obtain ⟨k, rfl⟩ : ∃ k, i = k + 1 := ⟨i - 1, by omega⟩
  have hk : l k = 10 := hB
  have hm : mrun l (k + 1) = ([], (mrun l k).2) := by
    show mstep (l k) k (mrun l k) = _
    rw [mstep, if_pos hk]
  obtain ⟨p, rfl⟩ : ∃ p, ln = k + 1 + p := ⟨ln - (k + 1), by omega⟩
  obtain ⟨_, h2, _⟩ := mrun_shift l (k + 1) (by rw [hm]) p
  have he : ∀ q, q < k + 1 → (mrun l (k + 1 + p)).2 q = (mrun l k).2 q := fun q hq => by rw [h2 q hq, hm]
  have ho := mrun_out l k
  unfold oddsOf
  rw [hm]
  simp only
  generalize (mrun l (k + 1 + p)).2 = e at he
  generalize (mrun l k).2 = e1 at he ho
  unfold oddI
  have hKB : kn l (k + 1 - 1) = 10 := known_B hk
  by_cases hj2 : kn l j = 21
  · have hjk : j ≠ k := fun e2 => by subst e2; rw [show j + 1 - 1 = j from rfl] at hKB; rw [hKB] at hj2; cases hj2
    have hs : sgo (kn l) e (toI (k + 1 + p) e j) (toI (k + 1 + p) e j - (j + 1)) (j + 1) = sgo (kn l) e1 (toI (k + 1) e1 j) (toI (k + 1) e1 j - (j + 1)) (j + 1) := by
      have hej := he j hj
      unfold toI
      rw [hej]
      by_cases h4 : e1 j = -1
      · rw [if_pos h4, if_pos h4]
        rw [sgo_cut (kn l) e (k + 1) (k + 1 + p) hKB (fun q hq => by rw [he q hq]; have := ho q; omega) (by omega) _ (k + 1 - (j + 1)) (j + 1) (by omega) (by omega) (by omega)]
        exact sgo_congr _ _ _ _ he _ _
      · rw [if_neg h4, if_neg h4]
        have := ho j
        exact sgo_congr _ _ _ _ (fun q hq => he q (by omega)) _ _
    rw [hs]
  · have : ∀ P : Prop, (kn l j = 20 ∨ (kn l j = 21 ∧ P)) ↔ kn l j = 20 := fun P => by simp [hj2]
    simp only [this]
/-- The second part. -/
theorem odds_second (ln : Nat) (l : Nat → Int) (i : Nat) (h0 : 0 < i) (hi : i ≤ ln) (hB : l (i - 1) = 10) (q : Nat) : oddsOf ln l (i + q) = oddsOf (ln - i) (fun p => l (i + p)) q := by
  obtain ⟨p, rfl⟩ : ∃ p, ln = i + p := ⟨ln - i, by omega⟩
  have hm : (mrun l i).1 = [] := by
    obtain ⟨k, rfl⟩ : ∃ k, i = k + 1 := ⟨i - 1, by omega⟩
    show (mstep (l k) k (mrun l k)).1 = _
    have hk : l k = 10 := hB
    rw [mstep, if_pos hk]
  obtain ⟨_, _, h3⟩ := mrun_shift l i hm p
  have ho := mrun_out (fun q => l (i + q)) p
  rw [Nat.add_sub_cancel_left]
  unfold oddsOf
  generalize (mrun l (i + p)).2 = e at h3
  generalize (mrun (fun q => l (i + q)) p).2 = e' at h3 ho
  have hto : toI (i + p) e (i + q) = i + toI p e' q := by
    unfold toI
    rw [h3]
    unfold shI
    by_cases h4 : e' q = -1
    · rw [if_pos h4, if_pos rfl, if_pos h4]
    · have := ho q
      rw [if_neg h4, if_neg (by omega), if_neg h4]; omega
  unfold oddI
  rw [hto, show i + toI p e' q - (i + q + 1) = toI p e' q - (q + 1) by omega, Nat.add_assoc i q 1,
    sgo_shift (kn l) e (kn fun p => l (i + p)) e' i (toI p e' q) (fun _ => rfl) h3 (fun q => by have := ho q; omega)]
  rfl
/-- Levels, and classes, of a list that is cut behind a B. -/
theorem parts_law (ln : Nat) (l : Nat → Int) (base : Int) (i : Nat) (h0 : 0 < i) (hi : i ≤ ln) (hB : l (i - 1) = 10) :
    (levM ln l base).xs = (levM i l base).xs ++ (levM (ln - i) (fun p => l (i + p)) base).xs ∧ (levM ln l base).cs = (levM i l base).cs ++ (levM (ln - i) (fun p => l (i + p)) base).cs := by
  have hKB : kn l (i - 1) = 10 := known_B hB
  have e1 : levM i l base = runM base (oddsOf ln l) (kn l) i := run_congr base i (fun j hj => (odds_first ln l i h0 hi hB j hj).symm) (fun _ _ => rfl)
  have hp := run_par base (oddsOf ln l) (kn l) i h0 hKB
  rw [← e1] at hp
  have h2 := run_pre base (oddsOf ln l) (kn l) i _ _ (e1.symm.trans hp) (ln - i)
  rw [show i + (ln - i) = ln by omega] at h2
  have e2 : runM base (fun q => oddsOf ln l (i + q)) (fun q => kn l (i + q)) (ln - i) = levM (ln - i) (fun p => l (i + p)) base :=
    run_congr base _ (fun q _ => odds_second ln l i h0 hi hB q) (fun _ _ => rfl)
  rw [e2] at h2
  have h3 : levM ln l base = preM (levM i l base).xs (levM i l base).cs (levM (ln - i) (fun p => l (i + p)) base) := h2
  rw [h3]
  exact ⟨rfl, rfl⟩
end Go.Proofs.Ytihmolafajmbjaa

/- The law that behind a B all begins anew: the walk. -/
namespace Go.Proofs.Ytihmolafajmbjaa
open Go Vx

theorem tab_app {α : Type} {n k m : Nat} {f g h : Nat → α} (e : tab n f = tab k g ++ tab m h) : ∀ j, j < n → f j = if j < k then g j else h (j - k) := by
  intro j hj
  have h1 : (tab n f)[j]? = (tab k g ++ tab m h)[j]? := by rw [e]
  have hl : n = k + m := by
    have := congrArg List.length e
    simpa [tab] using this
  rw [List.getElem?_append] at h1
  by_cases hk : j < k
  · rw [if_pos (by simpa [tab] using hk)] at h1
    rw [if_pos hk]
    simpa [tab, hj, hk] using h1
  · rw [if_neg (by simpa [tab] using hk)] at h1
    rw [if_neg hk]
    simpa [tab, hj, show j - k < m by omega] using h1
theorem f7_ok1 (ln : Nat) (l : Nat → Int) (z b : Int) : FSpec Try.prog 7 [.rows 1 ln (icol .i64 l), .int .i64 z, .int .i64 b] [] (fun r H' => r = .bool true) := by
  have h8 := f8_ok
  obtain ⟨base, hbs, hbs2⟩ := band_le b 1 (by decide)
  refine FSpec.of (fn := Try.f7) Try.func7 rfl rfl (by simp) fun C hC => ?_
  obtain ⟨iadd, isub, imul, iquo, irem, iband, ibor, ibxor, ibandn, ishl, ishr, iconv, ieq, ine, ilt, ile, igt, ige, bbeq, bbne, bnot, bband, sseq, ssne, sscat, sssub, sslen, sssz, ssbyte, toN, ofN, addN, subN, eqN, ltB, leN, imx, imn, inb, leb, sslt, ltN, fit, ne0, ge0, ssfit, minN, inR, hS⟩ := names
  obtain ⟨bz, hbz⟩ : ∃ bz : Int, bz = base := ⟨_, rfl⟩
  have eb : iband .i64 b 1 = bz := by simp only [hS.glob]; rw [hbz]; exact hbs
  have hb : 0 ≤ bz ∧ bz ≤ 1 := by omega
  clear hbs hbs2 hbz
  refine V.go Try.func7 tl_ok mixed hS.ops [] 400 ?_
  intro VV VA W hVV hVA hW
  conv => cbv
  simp only [eb]
  cases h1 : igt (ofN ln) 400
  rotate_left
  · conv => cbv
    rw [hVV]
    clear hVV hVA VV VA hW W
    refine V.call rfl rfl rfl rfl rfl Try.func8 rfl (by decide) [] (by simp) (by simp) (by (first | rfl | ((conv => cbv); (repeat' apply And.intro) <;> first | rfl | trivial | (first | rfl | omega | (simp (disch := omega) only [hS.glob, wraps, plain, Int.ofNat_eq_natCast]; first | done | rfl | omega | (simp; done) | (simp; omega)) | (simp (disch := omega) only [hS.glob, wraps, plain, Int.ofNat_eq_natCast, Vx.toN]; omega))))) rfl h8 ?_
    rintro r Hc ⟨rfl, rfl⟩
    refine V.go Try.func7 tl_ok mixed hS.ops [] 400 ?_
    intro VV VA W hVV hVA hW
    conv => cbv
    trivial
  conv => cbv
  cases h2 : ilt z 1
  rotate_left
  · conv => cbv
    rw [hVV]
    clear hVV hVA VV VA hW W
    refine V.call rfl rfl rfl rfl rfl Try.func8 rfl (by decide) [] (by simp) (by simp) (by (first | rfl | ((conv => cbv); (repeat' apply And.intro) <;> first | rfl | trivial | (first | rfl | omega | (simp (disch := omega) only [hS.glob, wraps, plain, Int.ofNat_eq_natCast]; first | done | rfl | omega | (simp; done) | (simp; omega)) | (simp (disch := omega) only [hS.glob, wraps, plain, Int.ofNat_eq_natCast, Vx.toN]; omega))))) rfl h8 ?_
    rintro r Hc ⟨rfl, rfl⟩
    refine V.go Try.func7 tl_ok mixed hS.ops [] 400 ?_
    intro VV VA W hVV hVA hW
    conv => cbv
    trivial
  conv => cbv
  cases h3 : igt z (ofN ln)
  rotate_left
  · conv => cbv
    rw [hVV]
    clear hVV hVA VV VA hW W
    refine V.call rfl rfl rfl rfl rfl Try.func8 rfl (by decide) [] (by simp) (by simp) (by (first | rfl | ((conv => cbv); (repeat' apply And.intro) <;> first | rfl | trivial | (first | rfl | omega | (simp (disch := omega) only [hS.glob, wraps, plain, Int.ofNat_eq_natCast]; first | done | rfl | omega | (simp; done) | (simp; omega)) | (simp (disch := omega) only [hS.glob, wraps, plain, Int.ofNat_eq_natCast, Vx.toN]; omega))))) rfl h8 ?_
    rintro r Hc ⟨rfl, rfl⟩
    refine V.go Try.func7 tl_ok mixed hS.ops [] 400 ?_
    intro VV VA W hVV hVA hW
    conv => cbv
    trivial
  conv => cbv
  simp (disch := first | omega | (simp only [hS.glob, wraps, plain, Int.ofNat_eq_natCast]; omega)) only [hS.glob, wraps, plain, Int.ofNat_eq_natCast] at h1 h2 h3
  obtain ⟨k, hk⟩ : ∃ k : Nat, z = k := ⟨z.toNat, by omega⟩
  obtain rfl : z = ofN k := by simp (disch := first | omega | (simp only [hS.glob, wraps, plain, Int.ofNat_eq_natCast]; omega)) only [hS.glob, wraps, plain, Int.ofNat_eq_natCast]; exact hk
  clear hk
  simp (disch := first | omega | (simp only [hS.glob, wraps, plain, Int.ofNat_eq_natCast]; omega)) only [hS.glob, wraps, plain, Int.ofNat_eq_natCast] at h2 h3
  repeat (refine ⟨by first | (rw [hW]; show ordOk _ _ _ = true; kernel_rfl) | (first | trivial | omega | (simp (disch := omega) only [hS.glob, wraps, plain, Int.ofNat_eq_natCast]; first | done | omega | trivial | (simp; done) | (simp; omega) | (constructor <;> omega)) | (simp (disch := omega) only [hS.glob, wraps, plain, Int.ofNat_eq_natCast, Vx.toN]; omega)), ?_⟩)

  have e1 : toN (isub .i64 (ofN k) 1) = k - 1 := by simp (disch := first | omega | (simp only [hS.glob, wraps, plain, Int.ofNat_eq_natCast]; omega)) only [hS.glob, wraps, plain, Int.ofNat_eq_natCast]
  simp only [e1]
  cases h4 : ine (l (k - 1)) 10
  rotate_left
  · conv => cbv
    rw [hVV]
    clear hVV hVA VV VA hW W
    refine V.call rfl rfl rfl rfl rfl Try.func8 rfl (by decide) [] (by simp) (by simp) (by (first | rfl | ((conv => cbv); (repeat' apply And.intro) <;> first | rfl | trivial | (first | rfl | omega | (simp (disch := omega) only [hS.glob, wraps, plain, Int.ofNat_eq_natCast]; first | done | rfl | omega | (simp; done) | (simp; omega)) | (simp (disch := omega) only [hS.glob, wraps, plain, Int.ofNat_eq_natCast, Vx.toN]; omega))))) rfl h8 ?_
    rintro r Hc ⟨rfl, rfl⟩
    refine V.go Try.func7 tl_ok mixed hS.ops [] 400 ?_
    intro VV VA W hVV hVA hW
    conv => cbv
    trivial
  conv => cbv
  simp (disch := first | omega | (simp only [hS.glob, wraps, plain, Int.ofNat_eq_natCast]; omega)) only [hS.glob, wraps, plain, Int.ofNat_eq_natCast] at h4
  obtain ⟨p1, p2⟩ := parts_law ln l bz k (by omega) (by omega) h4
  have h15 : ∀ (n : Nat) (A : Nat → Int), n ≤ ln → FSpec Try.prog 15 [.rows 1 n (icol .i64 A), .int .i64 bz] [] (LQ n (levM n A bz)) := fun n A hn => by
    have h := f15_ok n A (by omega) bz (by omega)
    rw [show baseOf n A bz = bz by unfold baseOf; rw [if_neg (by omega)]] at h
    exact h
  obtain ⟨L2, hL2⟩ : ∃ L2 : Nat → Int, L2 = fun p => l (k + p) := ⟨_, rfl⟩
  obtain ⟨n2, hn2⟩ : ∃ n2, n2 = ln - k := ⟨_, rfl⟩
  rw [← hL2, ← hn2] at p1 p2
  have h15a := h15 ln l (by omega)
  have h15b := h15 k l (by omega)
  have h15c := h15 n2 L2 (by omega)
  generalize levM ln l bz = M at p1 p2 h15a
  generalize levM k l bz = M1 at p1 p2 h15b
  generalize levM n2 L2 bz = M2 at p1 p2 h15c
  rw [hVV]
  clear hVV hVA VV VA hW W h15 e1
  refine V.call rfl rfl rfl rfl rfl Try.func15 rfl (by decide) [] (by simp) (by simp) (by (first | rfl | ((conv => cbv); (repeat' apply And.intro) <;> first | rfl | trivial | (first | rfl | omega | (simp (disch := omega) only [hS.glob, wraps, plain, Int.ofNat_eq_natCast]; first | done | rfl | omega | (simp; done) | (simp; omega)) | (simp (disch := omega) only [hS.glob, wraps, plain, Int.ofNat_eq_natCast, Vx.toN]; omega))))) rfl h15a ?_
  rintro r Hc ⟨xs, cs, rfl, rfl, x1, c1⟩
  clear h15a
  refine V.go Try.func7 tl_ok mixed hS.ops [] 400 ?_
  intro VV VA W hVV hVA hW
  conv => cbv
  repeat (refine ⟨by first | (rw [hW]; show ordOk _ _ _ = true; kernel_rfl) | (first | trivial | omega | (simp (disch := omega) only [hS.glob, wraps, plain, Int.ofNat_eq_natCast]; first | done | omega | trivial | (simp; done) | (simp; omega) | (constructor <;> omega)) | (simp (disch := omega) only [hS.glob, wraps, plain, Int.ofNat_eq_natCast, Vx.toN]; omega)), ?_⟩)
  rw [hVV]
  clear hVV hVA VV VA hW W
  simp only [hS.tidy]
  refine V.to (s' := [(52, .rows 1 k (icol .i64 l)), (53, .int .i64 bz), (8, .sl 0 0 ln), (9, .sl 1 0 ln), (10, .int .i64 0), (7, .int .i64 bz), (0, .rows 1 ln (icol .i64 l)), (1, .int .i64 (ofN k))]) (H' := [some ⟨3, 1, .arr ln (icol .i64 xs)⟩, some ⟨34, 1, .arr ln (icol .i64 cs)⟩]) ?_ (by (repeat' first | exact trivial | rfl | (refine And.intro ?_ ?_) | (refine sti ?_; (first | rfl | omega | (simp (disch := omega) only [hS.glob, wraps, plain, Int.ofNat_eq_natCast]; first | done | rfl | omega | (simp; done) | (simp; omega)) | (simp (disch := omega) only [hS.glob, wraps, plain, Int.ofNat_eq_natCast, Vx.toN]; omega))) | (refine slq ?_ ?_ ?_ <;> (first | rfl | omega | (simp (disch := omega) only [hS.glob, wraps, plain, Int.ofNat_eq_natCast]; first | done | rfl | omega | (simp; done) | (simp; omega)) | (simp (disch := omega) only [hS.glob, wraps, plain, Int.ofNat_eq_natCast, Vx.toN]; omega))) | (refine ptq ?_ ?_ ?_ <;> (first | rfl | omega | (simp (disch := omega) only [hS.glob, wraps, plain, Int.ofNat_eq_natCast]; first | done | rfl | omega | (simp; done) | (simp; omega)) | (simp (disch := omega) only [hS.glob, wraps, plain, Int.ofNat_eq_natCast, Vx.toN]; omega))) | (refine blq ?_; (first | rfl | omega | (simp (disch := omega) only [hS.glob, wraps, plain, Int.ofNat_eq_natCast]; first | done | rfl | omega | (simp; done) | (simp; omega)) | (simp (disch := omega) only [hS.glob, wraps, plain, Int.ofNat_eq_natCast, Vx.toN]; omega))))) rfl (by (repeat' first | exact trivial | rfl | exact Nat.le_refl _ | exact (fun _ _ => rfl) | (refine And.intro ?_ ?_) | (simp only [hS.glob, plain]; first | done | omega))) (by rw [hC]; simp)
  refine V.freeze0 8 0 ln (by rfl) (by rfl) (by rfl) (by first | decide | omega | exact Nat.zero_lt_one) (by rfl) (by rfl) (by first | exact Nat.le_refl _ | decide | omega | (simp only [Cont.n]; omega)) ?_
  refine V.freeze0 9 1 ln (by rfl) (by rfl) (by rfl) (by first | decide | omega | exact Nat.zero_lt_one) (by rfl) (by rfl) (by first | exact Nat.le_refl _ | decide | omega | (simp only [Cont.n]; omega)) ?_
  refine V.to (s' := [(52, .rows 1 k (icol .i64 l)), (53, .int .i64 bz), (8, .rows 1 ln (icol .i64 xs)), (9, .rows 1 ln (icol .i64 cs)), (10, .int .i64 0), (7, .int .i64 bz), (0, .rows 1 ln (icol .i64 l)), (1, .int .i64 (ofN k))]) (H' := []) ?_ (by (repeat' first | exact trivial | rfl | (refine And.intro ?_ ?_) | (refine sti ?_; (first | rfl | omega | (simp (disch := omega) only [hS.glob, wraps, plain, Int.ofNat_eq_natCast]; first | done | rfl | omega | (simp; done) | (simp; omega)) | (simp (disch := omega) only [hS.glob, wraps, plain, Int.ofNat_eq_natCast, Vx.toN]; omega))) | (refine slq ?_ ?_ ?_ <;> (first | rfl | omega | (simp (disch := omega) only [hS.glob, wraps, plain, Int.ofNat_eq_natCast]; first | done | rfl | omega | (simp; done) | (simp; omega)) | (simp (disch := omega) only [hS.glob, wraps, plain, Int.ofNat_eq_natCast, Vx.toN]; omega))) | (refine ptq ?_ ?_ ?_ <;> (first | rfl | omega | (simp (disch := omega) only [hS.glob, wraps, plain, Int.ofNat_eq_natCast]; first | done | rfl | omega | (simp; done) | (simp; omega)) | (simp (disch := omega) only [hS.glob, wraps, plain, Int.ofNat_eq_natCast, Vx.toN]; omega))) | (refine blq ?_; (first | rfl | omega | (simp (disch := omega) only [hS.glob, wraps, plain, Int.ofNat_eq_natCast]; first | done | rfl | omega | (simp; done) | (simp; omega)) | (simp (disch := omega) only [hS.glob, wraps, plain, Int.ofNat_eq_natCast, Vx.toN]; omega))))) rfl (by (repeat' first | exact trivial | rfl | exact Nat.le_refl _ | exact (fun _ _ => rfl) | (refine And.intro ?_ ?_) | (simp only [hS.glob, plain]; first | done | omega))) (by rw [hC]; simp)
  refine V.call rfl rfl rfl rfl rfl Try.func15 rfl (by decide) [] (by simp) (by simp) (by (first | rfl | ((conv => cbv); (repeat' apply And.intro) <;> first | rfl | trivial | (first | rfl | omega | (simp (disch := omega) only [hS.glob, wraps, plain, Int.ofNat_eq_natCast]; first | done | rfl | omega | (simp; done) | (simp; omega)) | (simp (disch := omega) only [hS.glob, wraps, plain, Int.ofNat_eq_natCast, Vx.toN]; omega))))) rfl h15b ?_
  rintro r Hc ⟨xs1, cs1, rfl, rfl, x2, c2⟩
  clear h15b
  refine V.go Try.func7 tl_ok mixed hS.ops [] 400 ?_
  intro VV VA W hVV hVA hW
  conv => cbv
  repeat (refine ⟨by first | (rw [hW]; show ordOk _ _ _ = true; kernel_rfl) | (first | trivial | omega | (simp (disch := omega) only [hS.glob, wraps, plain, Int.ofNat_eq_natCast]; first | done | omega | trivial | (simp; done) | (simp; omega) | (constructor <;> omega)) | (simp (disch := omega) only [hS.glob, wraps, plain, Int.ofNat_eq_natCast, Vx.toN]; omega)), ?_⟩)
  rw [hVV]
  clear hVV hVA VV VA hW W
  have e4 : ∀ (n : Nat) (f : Nat → List AV), n = n2 → (∀ j, f j = [.int .i64 (L2 j)]) → AV.rows 1 n f = AV.rows 1 n2 (icol .i64 L2) := by
    rintro n f rfl h
    rw [funext h]; rfl
  refine V.to (s' := [(61, .rows 1 n2 (icol .i64 L2)), (62, .int .i64 bz), (8, .rows 1 ln (icol .i64 xs)), (9, .rows 1 ln (icol .i64 cs)), (10, .int .i64 0), (11, .sl 0 0 k), (12, .sl 1 0 k), (13, .int .i64 0)]) (H' := [some ⟨3, 1, .arr k (icol .i64 xs1)⟩, some ⟨34, 1, .arr k (icol .i64 cs1)⟩]) ?_ ⟨e4 _ _ (by rw [hn2]; simp (disch := first | omega | (simp only [hS.glob, wraps, plain, Int.ofNat_eq_natCast]; omega)) only [hS.glob, wraps, plain, Int.ofNat_eq_natCast]; first | done | omega) (fun j => ?_), by (repeat' first | exact trivial | rfl | (refine And.intro ?_ ?_) | (refine sti ?_; (first | rfl | omega | (simp (disch := omega) only [hS.glob, wraps, plain, Int.ofNat_eq_natCast]; first | done | rfl | omega | (simp; done) | (simp; omega)) | (simp (disch := omega) only [hS.glob, wraps, plain, Int.ofNat_eq_natCast, Vx.toN]; omega))) | (refine slq ?_ ?_ ?_ <;> (first | rfl | omega | (simp (disch := omega) only [hS.glob, wraps, plain, Int.ofNat_eq_natCast]; first | done | rfl | omega | (simp; done) | (simp; omega)) | (simp (disch := omega) only [hS.glob, wraps, plain, Int.ofNat_eq_natCast, Vx.toN]; omega))) | (refine ptq ?_ ?_ ?_ <;> (first | rfl | omega | (simp (disch := omega) only [hS.glob, wraps, plain, Int.ofNat_eq_natCast]; first | done | rfl | omega | (simp; done) | (simp; omega)) | (simp (disch := omega) only [hS.glob, wraps, plain, Int.ofNat_eq_natCast, Vx.toN]; omega))) | (refine blq ?_; (first | rfl | omega | (simp (disch := omega) only [hS.glob, wraps, plain, Int.ofNat_eq_natCast]; first | done | rfl | omega | (simp; done) | (simp; omega)) | (simp (disch := omega) only [hS.glob, wraps, plain, Int.ofNat_eq_natCast, Vx.toN]; omega))))⟩ rfl (by (repeat' first | exact trivial | rfl | exact Nat.le_refl _ | exact (fun _ _ => rfl) | (refine And.intro ?_ ?_) | (simp only [hS.glob, plain]; first | done | omega))) (by rw [hC]; simp)
  rotate_left
  · show [AV.int .i64 (l (addN (toN (ofN k)) j))] = _
    rw [hL2]
    simp only [hS.tidy]
    have : addN k j = k + j := by simp (disch := first | omega | (simp only [hS.glob, wraps, plain, Int.ofNat_eq_natCast]; omega)) only [hS.glob, wraps, plain, Int.ofNat_eq_natCast]
    rw [this]
  refine V.call rfl rfl rfl rfl rfl Try.func15 rfl (by decide) [] (by simp) (by simp) (by (first | rfl | ((conv => cbv); (repeat' apply And.intro) <;> first | rfl | trivial | (first | rfl | omega | (simp (disch := omega) only [hS.glob, wraps, plain, Int.ofNat_eq_natCast]; first | done | rfl | omega | (simp; done) | (simp; omega)) | (simp (disch := omega) only [hS.glob, wraps, plain, Int.ofNat_eq_natCast, Vx.toN]; omega))))) rfl h15c ?_
  rintro r Hc ⟨xs2, cs2, rfl, rfl, x3, c3⟩
  clear h15c
  refine V.go Try.func7 tl_ok mixed hS.ops [] 400 ?_
  intro VV VA W hVV hVA hW
  conv => cbv
  repeat (refine ⟨by first | (rw [hW]; show ordOk _ _ _ = true; kernel_rfl) | (first | trivial | omega | (simp (disch := omega) only [hS.glob, wraps, plain, Int.ofNat_eq_natCast]; first | done | omega | trivial | (simp; done) | (simp; omega) | (constructor <;> omega)) | (simp (disch := omega) only [hS.glob, wraps, plain, Int.ofNat_eq_natCast, Vx.toN]; omega)), ?_⟩)
  rw [hVV]
  clear hVV hVA VV VA hW W
  have hx := tab_app (n := ln) (k := k) (m := n2) (f := xs) (g := xs1) (h := xs2) (by rw [x1, p1, x2, x3])
  have hc := tab_app (n := ln) (k := k) (m := n2) (f := cs) (g := cs1) (h := cs2) (by rw [c1, p2, c2, c3])
  refine V.to (s' := [(73, .rows 1 ln (icol .i64 cs)), (74, .sl 5 0 ln), (8, .rows 1 ln (icol .i64 xs)), (11, .sl 4 0 ln), (10, .int .i64 0), (13, .int .i64 0), (16, .int .i64 0)]) (H' := [none, none, none, none, some ⟨3, 1, .arr ln (icol .i64 xs)⟩, some ⟨34, 1, .arr ln (icol .i64 cs)⟩]) ?_ (by (repeat' first | exact trivial | rfl | (refine And.intro ?_ ?_) | (refine sti ?_; (first | rfl | omega | (simp (disch := omega) only [hS.glob, wraps, plain, Int.ofNat_eq_natCast]; first | done | rfl | omega | (simp; done) | (simp; omega)) | (simp (disch := omega) only [hS.glob, wraps, plain, Int.ofNat_eq_natCast, Vx.toN]; omega))) | (refine slq ?_ ?_ ?_ <;> (first | rfl | omega | (simp (disch := omega) only [hS.glob, wraps, plain, Int.ofNat_eq_natCast]; first | done | rfl | omega | (simp; done) | (simp; omega)) | (simp (disch := omega) only [hS.glob, wraps, plain, Int.ofNat_eq_natCast, Vx.toN]; omega))) | (refine ptq ?_ ?_ ?_ <;> (first | rfl | omega | (simp (disch := omega) only [hS.glob, wraps, plain, Int.ofNat_eq_natCast]; first | done | rfl | omega | (simp; done) | (simp; omega)) | (simp (disch := omega) only [hS.glob, wraps, plain, Int.ofNat_eq_natCast, Vx.toN]; omega))) | (refine blq ?_; (first | rfl | omega | (simp (disch := omega) only [hS.glob, wraps, plain, Int.ofNat_eq_natCast]; first | done | rfl | omega | (simp; done) | (simp; omega)) | (simp (disch := omega) only [hS.glob, wraps, plain, Int.ofNat_eq_natCast, Vx.toN]; omega))))) rfl ⟨⟨rfl, rfl, ⟨by (first | trivial | omega | (simp (disch := omega) only [hS.glob, wraps, plain, Int.ofNat_eq_natCast]; first | done | omega | trivial | (simp; done) | (simp; omega) | (constructor <;> omega)) | (simp (disch := omega) only [hS.glob, wraps, plain, Int.ofNat_eq_natCast, Vx.toN]; omega)), fun j hj => ?_⟩, rfl⟩, ⟨rfl, rfl, ⟨by (first | trivial | omega | (simp (disch := omega) only [hS.glob, wraps, plain, Int.ofNat_eq_natCast]; first | done | omega | trivial | (simp; done) | (simp; omega) | (constructor <;> omega)) | (simp (disch := omega) only [hS.glob, wraps, plain, Int.ofNat_eq_natCast, Vx.toN]; omega)), fun j hj => ?_⟩, rfl⟩, trivial⟩ (by rw [hC]; simp)
  rotate_left
  · show icol .i64 xs j = match ltB j k with | true => icol .i64 xs1 j | false => icol .i64 xs2 (addN 0 (subN j k))
    have h := hx j hj
    simp only [icol, hS.tidy]
    cases hr : ltB j k
    · simp (disch := first | omega | (simp only [hS.glob, wraps, plain, Int.ofNat_eq_natCast]; omega)) only [hS.glob, wraps, plain, Int.ofNat_eq_natCast] at hr
      show [AV.int .i64 (xs j)] = [AV.int .i64 (xs2 (subN j k))]
      have e5 : subN j k = j - k := by simp (disch := first | omega | (simp only [hS.glob, wraps, plain, Int.ofNat_eq_natCast]; omega)) only [hS.glob, wraps, plain, Int.ofNat_eq_natCast]
      rw [e5, h, if_neg (by omega)]
    · simp (disch := first | omega | (simp only [hS.glob, wraps, plain, Int.ofNat_eq_natCast]; omega)) only [hS.glob, wraps, plain, Int.ofNat_eq_natCast] at hr
      show [AV.int .i64 (xs j)] = [AV.int .i64 (xs1 j)]
      rw [h, if_pos (by omega)]
  · show icol .i64 cs j = match ltB j k with | true => icol .i64 cs1 j | false => icol .i64 cs2 (addN 0 (subN j k))
    have h := hc j hj
    simp only [icol, hS.tidy]
    cases hr : ltB j k
    · simp (disch := first | omega | (simp only [hS.glob, wraps, plain, Int.ofNat_eq_natCast]; omega)) only [hS.glob, wraps, plain, Int.ofNat_eq_natCast] at hr
      show [AV.int .i64 (cs j)] = [AV.int .i64 (cs2 (subN j k))]
      have e5 : subN j k = j - k := by simp (disch := first | omega | (simp only [hS.glob, wraps, plain, Int.ofNat_eq_natCast]; omega)) only [hS.glob, wraps, plain, Int.ofNat_eq_natCast]
      rw [e5, h, if_neg (by omega)]
    · simp (disch := first | omega | (simp only [hS.glob, wraps, plain, Int.ofNat_eq_natCast]; omega)) only [hS.glob, wraps, plain, Int.ofNat_eq_natCast] at hr
      show [AV.int .i64 (cs j)] = [AV.int .i64 (cs1 j)]
      rw [h, if_pos (by omega)]
  clear hx hc x1 x2 x3 c1 c2 c3 p1 p2
  refine V.freeze0 74 5 ln (by rfl) (by rfl) (by rfl) (by first | decide | omega | exact Nat.zero_lt_one) (by rfl) (by rfl) (by first | exact Nat.le_refl _ | decide | omega | (simp only [Cont.n]; omega)) ?_
  refine V.freeze0 11 4 ln (by rfl) (by rfl) (by rfl) (by first | decide | omega | exact Nat.zero_lt_one) (by rfl) (by rfl) (by first | exact Nat.le_refl _ | decide | omega | (simp only [Cont.n]; omega)) ?_
  refine V.call rfl rfl rfl rfl rfl Try.func12 rfl (by decide) [] (by simp) (by simp) (by (first | rfl | ((conv => cbv); (repeat' apply And.intro) <;> first | rfl | trivial | (first | rfl | omega | (simp (disch := omega) only [hS.glob, wraps, plain, Int.ofNat_eq_natCast]; first | done | rfl | omega | (simp; done) | (simp; omega)) | (simp (disch := omega) only [hS.glob, wraps, plain, Int.ofNat_eq_natCast, Vx.toN]; omega))))) rfl (f12_ok ln ln cs cs true ⟨fun _ => ⟨rfl, fun _ _ => rfl⟩, fun _ => rfl⟩) ?_
  rintro r Hc ⟨rfl, rfl⟩
  refine V.go Try.func7 tl_ok mixed hS.ops [] 400 ?_
  intro VV VA W hVV hVA hW
  conv => cbv
  rw [hVV]
  clear hVV hVA VV VA hW W
  refine V.call rfl rfl rfl rfl rfl Try.func8 rfl (by decide) [] (by simp) (by simp) (by (first | rfl | ((conv => cbv); (repeat' apply And.intro) <;> first | rfl | trivial | (first | rfl | omega | (simp (disch := omega) only [hS.glob, wraps, plain, Int.ofNat_eq_natCast]; first | done | rfl | omega | (simp; done) | (simp; omega)) | (simp (disch := omega) only [hS.glob, wraps, plain, Int.ofNat_eq_natCast, Vx.toN]; omega))))) rfl h8 ?_
  rintro r Hc ⟨rfl, rfl⟩
  refine V.go Try.func7 tl_ok mixed hS.ops [] 400 ?_
  intro VV VA W hVV hVA hW
  conv => cbv
  have e0 : ieq 0 0 = true := by simp (disch := first | omega | (simp only [hS.glob, wraps, plain, Int.ofNat_eq_natCast]; omega)) only [hS.glob, wraps, plain, Int.ofNat_eq_natCast]
  simp only [e0]
  conv => cbv
  simp only [e0]
  conv => cbv
  simp only [e0]
  conv => cbv
  rw [hVV]
  clear hVV hVA VV VA hW W e0
  refine V.call rfl rfl rfl rfl rfl Try.func9 rfl (by decide) [] (by simp) (by simp) (by (first | rfl | ((conv => cbv); (repeat' apply And.intro) <;> first | rfl | trivial | (first | rfl | omega | (simp (disch := omega) only [hS.glob, wraps, plain, Int.ofNat_eq_natCast]; first | done | rfl | omega | (simp; done) | (simp; omega)) | (simp (disch := omega) only [hS.glob, wraps, plain, Int.ofNat_eq_natCast, Vx.toN]; omega))))) rfl (f9_ok ln ln xs xs true ⟨fun _ => ⟨rfl, fun _ _ => rfl⟩, fun _ => rfl⟩) ?_
  rintro r Hc ⟨rfl, rfl⟩
  refine V.go Try.func7 tl_ok mixed hS.ops [] 400 ?_
  intro VV VA W hVV hVA hW
  conv => cbv
  trivial
theorem f7_ok (ln : Nat) (l : Nat → Int) (z b : Int) : FSpec Try.prog 7 [.rows 1 ln (icol .i64 l), .int .i64 z, .int .i64 b] [] (fun r H' => r = .bool true ∧ H' = []) := by
  refine (f7_ok1 ln l z b).weaken ?_
  rintro r H' rfl
  exact ⟨[], by cases H' <;> simp [heapCov], rfl, Nat.le_refl _, rfl, rfl⟩
end Go.Proofs.Ytihmolafajmbjaa
