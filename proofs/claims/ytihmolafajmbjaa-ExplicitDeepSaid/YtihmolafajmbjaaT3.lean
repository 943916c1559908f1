/- Contracts of functions by an evaluator of the model: its part T3. -/
import Derived.Test.YtihmolafajmbjaaT2
set_option linter.all false
/- The law that no level is too deep. -/
namespace Go.Proofs.Ytihmolafajmbjaa
open Go Vx

/-! ### The plain law -/
def okLv (base c x : Int) : Prop := (remC c = true → x = -1) ∧ (remC c = false → base ≤ x ∧ x ≤ 125)
theorem top_of {base : Int} {st : List (Int × Int × Bool)} (lev : ∀ p ∈ st, base ≤ p.1 ∧ p.1 ≤ 125) (hd : (st.headD (0, 0, true)).2.2 = false) : base ≤ (st.getLastD (0, 13, false)).1 ∧ (st.getLastD (0, 13, false)).1 ≤ 125 := by
  obtain ⟨s, x, rfl⟩ := snoc_of (hd_ne hd)
  have := lev x (by simp)
  simpa using this
theorem close_top {base : Int} {i : Nat} {m : Ms} (h : Good base i m) : base ≤ (topM (closeM m)).1 ∧ (topM (closeM m)).1 ≤ 125 := by
  unfold closeM
  split
  · exact top_of h.lev h.hd
  · split
    · rename_i h1 h2
      have hc : 0 < m.st.countP (fun p => p.2.2) := by have := h.opn; omega
      obtain ⟨c1, c2, c3, c4⟩ := good_cut m.st.length m.st (Nat.le_refl _) h.lev h.hd hc
      exact top_of c2 c3
    · exact top_of h.lev h.hd
theorem step_lv {base : Int} (hb : 0 ≤ base ∧ base ≤ 1) {i : Nat} {m : Ms} (h : Good base i m) (odd c : Int) : ∃ x, (stepM base odd c m).xs = m.xs ++ [x] ∧ okLv base c x := by
  have rem : ∀ (m' : Ms), m'.xs = m.xs → remC c = true → ∃ x, (removedM c m').xs = m.xs ++ [x] ∧ okLv base c x := fun m' h1 h2 => ⟨-1, by simp [removedM, putM, h1], ⟨fun _ => rfl, fun h3 => by rw [h2] at h3; cases h3⟩⟩
  have pl : ∀ (m' : Ms), m'.xs = m.xs → (base ≤ (topM m').1 ∧ (topM m').1 ≤ 125) → remC c = false → ∃ x, (plainM c m').xs = m.xs ++ [x] ∧ okLv base c x := fun m' h1 h2 h3 => ⟨(topM m').1, by simp [plainM, putM, h1], ⟨fun h4 => by (rw [h3] at h4; cases h4), fun _ => h2⟩⟩
  unfold stepM
  split
  · rename_i hc
    refine rem _ (by split <;> (try split) <;> rfl) ?_
    rcases hc with rfl | rfl | rfl | rfl <;> rfl
  split
  · rename_i hc
    obtain ⟨x, h1, h2⟩ := pl m rfl h.top (by rcases hc with rfl | rfl | rfl <;> rfl)
    refine ⟨x, ?_, h2⟩
    rw [← h1]
    unfold isoM
    dsimp only
    split <;> rfl
  split
  · rename_i hc
    exact pl _ (by unfold closeM; split <;> (try split) <;> rfl) (close_top h) (by subst hc; rfl)
  split
  · rename_i hc
    exact rem _ (by split <;> (try split) <;> (try split) <;> rfl) (by subst hc; rfl)
  split
  · rename_i hc
    exact ⟨base, rfl, ⟨fun h1 => by (subst hc; cases h1), fun _ => by omega⟩⟩
  split
  · rename_i hc
    exact rem m rfl (by subst hc; rfl)
  · rename_i h1 h2 h3 h4 h5 h6
    refine pl m rfl h.top ?_
    simp only [remC, Bool.or_eq_false_iff, beq_eq_false_iff_ne, ne_eq]
    omega
theorem run_lv {base : Int} (hb : 0 ≤ base ∧ base ≤ 1) (odd l : Nat → Int) (ho : ∀ i, 0 ≤ odd i ∧ odd i ≤ 1) : ∀ (i j : Nat) (x : Int), (runM base odd l i).xs[j]? = some x → okLv base (l j) x
  | 0, j, x, h => by simp [runM] at h
  | i + 1, j, x, h => by
    have g := good_run hb odd l ho i
    obtain ⟨y, h1, h2⟩ := step_lv hb g (odd i) (l i)
    have h3 : (runM base odd l (i + 1)).xs = (runM base odd l i).xs ++ [y] := h1
    rw [h3, List.getElem?_append] at h
    split at h
    · exact run_lv hb odd l ho i j x h
    · rename_i hlt
      have hj : j = i := by
        have h4 := (List.getElem?_eq_some_iff.1 h).1
        have := g.xs
        simp at h4; omega
      subst hj
      rw [g.xs, Nat.sub_self] at h
      simp at h
      subst h
      exact h2
theorem rem_known (c : Int) : remC (knownC c) = remC c := by
  unfold knownC
  split
  · have : remC c = false := by simp only [remC, Bool.or_eq_false_iff, beq_eq_false_iff_ne, ne_eq]; omega
    rw [this]; rfl
  · rfl
/-- Each level of 'Levels'. -/
theorem lev_deep (ln : Nat) (l : Nat → Int) (base : Int) (hb : 0 ≤ base ∧ base ≤ 1) (xs : Nat → Int) (h : tab ln xs = (levM ln l base).xs) (j : Nat) (hj : j < ln) : okLv base (l j) (xs j) := by
  have h1 := tab_get ln xs j hj
  rw [h] at h1
  have h2 := run_lv hb (oddsOf ln l) (kn l) (fun i => oddI_01 _ _ _ _) ln j (xs j) h1
  unfold okLv at h2 ⊢
  simpa only [kn, rem_known] using h2
theorem band_le (a : Int) (m : Nat) (hm : m < 1000) : ∃ r : Nat, Vx.iband .i64 a m = r ∧ r ≤ m := by
  have h1 : (BitVec.ofInt 64 (m : Int)).toNat = m := by rw [BitVec.toNat_ofInt]; omega
  refine ⟨(BitVec.ofInt 64 a).toNat &&& m, ?_, Nat.and_le_right⟩
  show IntKind.i64.wrap _ = _
  have h2 : ((BitVec.ofInt 64 a &&& BitVec.ofInt 64 (m : Int)).toNat : Int) = (((BitVec.ofInt 64 a).toNat &&& m : Nat) : Int) := by rw [BitVec.toNat_and, h1]
  have h3 : (BitVec.ofInt 64 a).toNat &&& m ≤ m := Nat.and_le_right
  show IntKind.i64.wrap ((BitVec.ofInt 64 a &&& BitVec.ofInt 64 (m : Int)).toNat : Int) = _
  rw [h2, IntWalk.i64_in _ (by omega)]
end Go.Proofs.Ytihmolafajmbjaa

/- The law that no level is too deep: the walk. -/
namespace Go.Proofs.Ytihmolafajmbjaa
open Go Vx

theorem f5_ok1 (ln : Nat) (l : Nat → Int) (c a b : Int) : FSpec Try.prog 5 [.rows 1 ln (icol .i64 l), .int .i64 c, .agg [.int .i64 a, .int .i64 b]] [] (fun r H' => r = .bool true) := by
  have h8 := f8_ok
  obtain ⟨m, hm, hm2⟩ := band_le a 255 (by decide)
  obtain ⟨base, hbs, hbs2⟩ := band_le b 1 (by decide)
  refine FSpec.of (fn := Try.f5) Try.func5 rfl rfl (by simp) fun C hC => ?_
  obtain ⟨iadd, isub, imul, iquo, irem, iband, ibor, ibxor, ibandn, ishl, ishr, iconv, ieq, ine, ilt, ile, igt, ige, bbeq, bbne, bnot, bband, sseq, ssne, sscat, sssub, sslen, sssz, ssbyte, toN, ofN, addN, subN, eqN, ltB, leN, imx, imn, inb, leb, sslt, ltN, fit, ne0, ge0, ssfit, minN, inR, hS⟩ := names
  have em : iband .i64 a 255 = ofN m := by simp only [hS.glob]; exact hm
  have eb : iband .i64 b 1 = ofN base := by simp only [hS.glob]; exact hbs
  clear hm hbs
  refine V.go Try.func5 tl_ok mixed hS.ops [] 400 ?_
  intro VV VA W hVV hVA hW
  conv => cbv
  split <;> rename_i h1
  rotate_left
  · conv => cbv
    simp (disch := first | omega | (simp only [hS.glob, wraps, plain, Int.ofNat_eq_natCast]; omega)) only [hS.glob, wraps, plain, Int.ofNat_eq_natCast] at h1
    simp only [eb]
    rw [hVV]
    clear hVV hVA VV VA hW W eb
    refine V.phantom 8 34 1 (icol .i64 fun _ => c) rfl ?_
    refine V.to (s' := [(9, .int .i64 (ofN 0)), (8, .sl 1 0 0), (7, .int .i64 (ofN base)), (5, .ptr 0 0 0), (0, .rows 1 ln (icol .i64 l)), (1, .int .i64 c)]) (H' := [some ⟨35, 2, .lit [[.int .i64 a, .int .i64 b]]⟩, some ⟨34, 1, .arr 0 (icol .i64 fun _ => c)⟩]) ?_ (by (repeat' first | exact trivial | rfl | (refine And.intro ?_ ?_) | (refine sti ?_; (first | rfl | omega | (simp (disch := omega) only [hS.glob, wraps, plain, Int.ofNat_eq_natCast]; first | done | rfl | omega | (simp; done) | (simp; omega)) | (simp (disch := omega) only [hS.glob, wraps, plain, Int.ofNat_eq_natCast, Vx.toN]; omega))) | (refine slq ?_ ?_ ?_ <;> (first | rfl | omega | (simp (disch := omega) only [hS.glob, wraps, plain, Int.ofNat_eq_natCast]; first | done | rfl | omega | (simp; done) | (simp; omega)) | (simp (disch := omega) only [hS.glob, wraps, plain, Int.ofNat_eq_natCast, Vx.toN]; omega))) | (refine ptq ?_ ?_ ?_ <;> (first | rfl | omega | (simp (disch := omega) only [hS.glob, wraps, plain, Int.ofNat_eq_natCast]; first | done | rfl | omega | (simp; done) | (simp; omega)) | (simp (disch := omega) only [hS.glob, wraps, plain, Int.ofNat_eq_natCast, Vx.toN]; omega))) | (refine blq ?_; (first | rfl | omega | (simp (disch := omega) only [hS.glob, wraps, plain, Int.ofNat_eq_natCast]; first | done | rfl | omega | (simp; done) | (simp; omega)) | (simp (disch := omega) only [hS.glob, wraps, plain, Int.ofNat_eq_natCast, Vx.toN]; omega))))) rfl (by (repeat' first | exact trivial | rfl | exact Nat.le_refl _ | exact (fun _ _ => rfl) | (refine And.intro ?_ ?_) | (simp only [hS.glob, plain]; first | done | omega))) (by rw [hC]; simp)
    refine V.loop (γ := Nat) (fun i => i ≤ m) (fun i => [(9, .int .i64 (ofN i)), (8, .sl 1 0 i), (7, .int .i64 (ofN base)), (5, .ptr 0 0 0), (0, .rows 1 ln (icol .i64 l)), (1, .int .i64 c)]) (fun i => [some ⟨35, 2, .lit [[.int .i64 a, .int .i64 b]]⟩, some ⟨34, 1, .arr i (icol .i64 fun _ => c)⟩]) (fun i => m - i) ?_ 0 (Nat.zero_le _)
    rintro i hi hback
    refine V.go Try.func5 tl_ok mixed hS.ops [] 17 ?_
    intro VV VA W hVV hVA hW
    conv => cbv
    simp only [em]
    split <;> rename_i h2
    · conv => cbv
      simp (disch := first | omega | (simp only [hS.glob, wraps, plain, Int.ofNat_eq_natCast]; omega)) only [hS.glob, wraps, plain, Int.ofNat_eq_natCast] at h2
      repeat (refine ⟨by first | (rw [hW]; show ordOk _ _ _ = true; kernel_rfl) | (first | trivial | omega | (simp (disch := omega) only [hS.glob, wraps, plain, Int.ofNat_eq_natCast]; first | done | omega | trivial | (simp; done) | (simp; omega) | (constructor <;> omega)) | (simp (disch := omega) only [hS.glob, wraps, plain, Int.ofNat_eq_natCast, Vx.toN]; omega)), ?_⟩)
      rw [hVV]
      clear hVV hVA VV VA hW W
      refine V.go Try.func5 tl_ok mixed hS.ops [] 400 ?_
      intro VV VA W hVV hVA hW
      conv => cbv
      repeat (refine ⟨by first | (rw [hW]; show ordOk _ _ _ = true; kernel_rfl) | (first | trivial | omega | (simp (disch := omega) only [hS.glob, wraps, plain, Int.ofNat_eq_natCast]; first | done | omega | trivial | (simp; done) | (simp; omega) | (constructor <;> omega)) | (simp (disch := omega) only [hS.glob, wraps, plain, Int.ofNat_eq_natCast, Vx.toN]; omega)), ?_⟩)
      rw [hVV]
      refine V.pick [0, 3] (by decide) (by rw [hC]; exact begins_of rfl) (by rfl) (by rfl) ?_
      refine V.to (hback (i + 1) (by omega) (by omega)) (by (repeat' first | exact trivial | rfl | (refine And.intro ?_ ?_) | (refine sti ?_; (first | rfl | omega | (simp (disch := omega) only [hS.glob, wraps, plain, Int.ofNat_eq_natCast]; first | done | rfl | omega | (simp; done) | (simp; omega)) | (simp (disch := omega) only [hS.glob, wraps, plain, Int.ofNat_eq_natCast, Vx.toN]; omega))) | (refine slq ?_ ?_ ?_ <;> (first | rfl | omega | (simp (disch := omega) only [hS.glob, wraps, plain, Int.ofNat_eq_natCast]; first | done | rfl | omega | (simp; done) | (simp; omega)) | (simp (disch := omega) only [hS.glob, wraps, plain, Int.ofNat_eq_natCast, Vx.toN]; omega))) | (refine ptq ?_ ?_ ?_ <;> (first | rfl | omega | (simp (disch := omega) only [hS.glob, wraps, plain, Int.ofNat_eq_natCast]; first | done | rfl | omega | (simp; done) | (simp; omega)) | (simp (disch := omega) only [hS.glob, wraps, plain, Int.ofNat_eq_natCast, Vx.toN]; omega))) | (refine blq ?_; (first | rfl | omega | (simp (disch := omega) only [hS.glob, wraps, plain, Int.ofNat_eq_natCast]; first | done | rfl | omega | (simp; done) | (simp; omega)) | (simp (disch := omega) only [hS.glob, wraps, plain, Int.ofNat_eq_natCast, Vx.toN]; omega))))) rfl ?_ (by rw [hC]; simp)
      (repeat' first | exact trivial | rfl | exact Nat.le_refl _ | exact (fun _ _ => rfl) | (refine And.intro ?_ ?_) | (simp only [hS.glob, plain]; first | done | omega))
      intro j hj
      simp only [icol] at hj ⊢
      cases hr : ltB j i
      · simp (disch := first | omega | (simp only [hS.glob, wraps, plain, Int.ofNat_eq_natCast]; omega)) only [hS.glob, wraps, plain, Int.ofNat_eq_natCast] at hr
        obtain rfl : j = i := by omega
        simp [hS.glob, Vx.subN]
      · rfl
    · conv => cbv
      simp (disch := first | omega | (simp only [hS.glob, wraps, plain, Int.ofNat_eq_natCast]; omega)) only [hS.glob, wraps, plain, Int.ofNat_eq_natCast] at h2
      obtain rfl : i = m := by omega
      clear hback
      repeat (refine ⟨by first | (rw [hW]; show ordOk _ _ _ = true; kernel_rfl) | (first | trivial | omega | (simp (disch := omega) only [hS.glob, wraps, plain, Int.ofNat_eq_natCast]; first | done | omega | trivial | (simp; done) | (simp; omega) | (constructor <;> omega)) | (simp (disch := omega) only [hS.glob, wraps, plain, Int.ofNat_eq_natCast, Vx.toN]; omega)), ?_⟩)
      rw [hVV]
      clear hVV hVA VV VA hW W
      obtain ⟨n, hn⟩ : ∃ n, n = i + ln := ⟨_, rfl⟩
      obtain ⟨A, hA⟩ : ∃ A : Nat → Int, A = fun j => if j < i then c else l (j - i) := ⟨_, rfl⟩
      refine V.to (s' := [(8, .sl 2 0 n), (7, .int .i64 (ofN base))]) (H' := [none, none, some ⟨34, 1, .arr n (icol .i64 A)⟩]) ?_ (by (repeat' first | exact trivial | rfl | (refine And.intro ?_ ?_) | (refine sti ?_; (first | rfl | omega | (simp (disch := omega) only [hS.glob, wraps, plain, Int.ofNat_eq_natCast]; first | done | rfl | omega | (simp; done) | (simp; omega)) | (simp (disch := omega) only [hS.glob, wraps, plain, Int.ofNat_eq_natCast, Vx.toN]; omega))) | (refine slq ?_ ?_ ?_ <;> (first | rfl | omega | (simp (disch := omega) only [hS.glob, wraps, plain, Int.ofNat_eq_natCast]; first | done | rfl | omega | (simp; done) | (simp; omega)) | (simp (disch := omega) only [hS.glob, wraps, plain, Int.ofNat_eq_natCast, Vx.toN]; omega))) | (refine ptq ?_ ?_ ?_ <;> (first | rfl | omega | (simp (disch := omega) only [hS.glob, wraps, plain, Int.ofNat_eq_natCast]; first | done | rfl | omega | (simp; done) | (simp; omega)) | (simp (disch := omega) only [hS.glob, wraps, plain, Int.ofNat_eq_natCast, Vx.toN]; omega))) | (refine blq ?_; (first | rfl | omega | (simp (disch := omega) only [hS.glob, wraps, plain, Int.ofNat_eq_natCast]; first | done | rfl | omega | (simp; done) | (simp; omega)) | (simp (disch := omega) only [hS.glob, wraps, plain, Int.ofNat_eq_natCast, Vx.toN]; omega))))) rfl ⟨⟨rfl, rfl, ⟨by (first | trivial | omega | (simp (disch := omega) only [hS.glob, wraps, plain, Int.ofNat_eq_natCast]; first | done | omega | trivial | (simp; done) | (simp; omega) | (constructor <;> omega)) | (simp (disch := omega) only [hS.glob, wraps, plain, Int.ofNat_eq_natCast, Vx.toN]; omega)), fun j hj => ?_⟩, rfl⟩, trivial⟩ (by rw [hC]; simp)
      rotate_left
      · show icol .i64 A j = match ltB j i with | true => icol .i64 (fun _ => c) j | false => icol .i64 l (subN j i)
        simp only [icol, hA]
        cases hr : ltB j i
        · simp (disch := first | omega | (simp only [hS.glob, wraps, plain, Int.ofNat_eq_natCast]; omega)) only [hS.glob, wraps, plain, Int.ofNat_eq_natCast] at hr
          rw [if_neg (by omega)]
          simp [hS.glob, Vx.subN]
        · simp (disch := first | omega | (simp only [hS.glob, wraps, plain, Int.ofNat_eq_natCast]; omega)) only [hS.glob, wraps, plain, Int.ofNat_eq_natCast] at hr
          rw [if_pos (by omega)]
      refine V.freeze0 8 2 n (by rfl) (by rfl) (by rfl) (by first | decide | omega | exact Nat.zero_lt_one) (by rfl) (by rfl) (by first | exact Nat.le_refl _ | decide | omega | (simp only [Cont.n]; omega)) ?_
      refine V.pick [] (by decide) (by rw [hC]; exact begins_of rfl) (by rfl) (by rfl) ?_
      refine V.go Try.func5 tl_ok mixed hS.ops [] 400 ?_
      intro VV VA W hVV hVA hW
      conv => cbv
      rw [hVV]
      have hn2 : n ≤ 999999 := by omega
      have hb : (0 : Int) ≤ base ∧ (base : Int) ≤ 1 := by omega
      obtain ⟨bz, hbz⟩ : ∃ bz : Int, bz = base := ⟨_, rfl⟩
      rw [← hbz] at hb
      have hdeep := fun xs h j hj => lev_deep n A bz hb xs h j hj
      have h15 := f15_ok n A hn2 bz (by omega)
      rw [show baseOf n A bz = bz by unfold baseOf; rw [if_neg (by omega)]] at h15
      generalize levM n A bz = M at hdeep h15
      have hzb : ofN base = bz := by simp (disch := first | omega | (simp only [hS.glob, wraps, plain, Int.ofNat_eq_natCast]; omega)) only [hS.glob, wraps, plain, Int.ofNat_eq_natCast]; exact hbz.symm
      rw [hzb]
      clear hVV hVA VV VA hW W hzb hA
      refine V.call rfl rfl rfl rfl rfl Try.func15 rfl (by decide) [] (by simp) (by simp) (by (first | rfl | ((conv => cbv); (repeat' apply And.intro) <;> first | rfl | trivial | (first | rfl | omega | (simp (disch := omega) only [hS.glob, wraps, plain, Int.ofNat_eq_natCast]; first | done | rfl | omega | (simp; done) | (simp; omega)) | (simp (disch := omega) only [hS.glob, wraps, plain, Int.ofNat_eq_natCast, Vx.toN]; omega))))) rfl h15 ?_
      rintro r Hc ⟨xs, cs, rfl, rfl, g1, g2⟩
      replace hdeep := hdeep xs g1
      clear g1 g2 h15
      refine V.go Try.func5 tl_ok mixed hS.ops [] 400 ?_
      intro VV VA W hVV hVA hW
      conv => cbv
      have e1 : ine 0 0 = false := by simp (disch := first | omega | (simp only [hS.glob, wraps, plain, Int.ofNat_eq_natCast]; omega)) only [hS.glob, wraps, plain, Int.ofNat_eq_natCast]
      have e2 : ine (ofN n) (ofN n) = false := by simp (disch := first | omega | (simp only [hS.glob, wraps, plain, Int.ofNat_eq_natCast]; omega)) only [hS.glob, wraps, plain, Int.ofNat_eq_natCast]
      simp only [e1]
      conv => cbv
      simp only [e2]
      conv => cbv
      simp only [e2]
      conv => cbv
      rw [hVV]
      clear hVV hVA VV VA hW W e1 e2
      refine V.to (s' := [(13, .int .i64 (ofN 0)), (10, .sl 0 0 n), (8, .rows 1 n (icol .i64 A)), (7, .int .i64 bz)]) (H' := [some ⟨3, 1, .arr n (icol .i64 xs)⟩]) ?_ (by (repeat' first | exact trivial | rfl | (refine And.intro ?_ ?_) | (refine sti ?_; (first | rfl | omega | (simp (disch := omega) only [hS.glob, wraps, plain, Int.ofNat_eq_natCast]; first | done | rfl | omega | (simp; done) | (simp; omega)) | (simp (disch := omega) only [hS.glob, wraps, plain, Int.ofNat_eq_natCast, Vx.toN]; omega))) | (refine slq ?_ ?_ ?_ <;> (first | rfl | omega | (simp (disch := omega) only [hS.glob, wraps, plain, Int.ofNat_eq_natCast]; first | done | rfl | omega | (simp; done) | (simp; omega)) | (simp (disch := omega) only [hS.glob, wraps, plain, Int.ofNat_eq_natCast, Vx.toN]; omega))) | (refine ptq ?_ ?_ ?_ <;> (first | rfl | omega | (simp (disch := omega) only [hS.glob, wraps, plain, Int.ofNat_eq_natCast]; first | done | rfl | omega | (simp; done) | (simp; omega)) | (simp (disch := omega) only [hS.glob, wraps, plain, Int.ofNat_eq_natCast, Vx.toN]; omega))) | (refine blq ?_; (first | rfl | omega | (simp (disch := omega) only [hS.glob, wraps, plain, Int.ofNat_eq_natCast]; first | done | rfl | omega | (simp; done) | (simp; omega)) | (simp (disch := omega) only [hS.glob, wraps, plain, Int.ofNat_eq_natCast, Vx.toN]; omega))))) rfl (by (repeat' first | exact trivial | rfl | exact Nat.le_refl _ | exact (fun _ _ => rfl) | (refine And.intro ?_ ?_) | (simp only [hS.glob, plain]; first | done | omega))) (by rw [hC]; simp)
      refine V.freeze0 10 0 n (by rfl) (by rfl) (by rfl) (by first | decide | omega | exact Nat.zero_lt_one) (by rfl) (by rfl) (by first | exact Nat.le_refl _ | decide | omega | (simp only [Cont.n]; omega)) ?_
      refine V.to (s' := [(13, .int .i64 (ofN 0)), (10, .rows 1 n (icol .i64 xs)), (8, .rows 1 n (icol .i64 A)), (7, .int .i64 bz)]) (H' := []) ?_ (by (repeat' first | exact trivial | rfl | (refine And.intro ?_ ?_) | (refine sti ?_; (first | rfl | omega | (simp (disch := omega) only [hS.glob, wraps, plain, Int.ofNat_eq_natCast]; first | done | rfl | omega | (simp; done) | (simp; omega)) | (simp (disch := omega) only [hS.glob, wraps, plain, Int.ofNat_eq_natCast, Vx.toN]; omega))) | (refine slq ?_ ?_ ?_ <;> (first | rfl | omega | (simp (disch := omega) only [hS.glob, wraps, plain, Int.ofNat_eq_natCast]; first | done | rfl | omega | (simp; done) | (simp; omega)) | (simp (disch := omega) only [hS.glob, wraps, plain, Int.ofNat_eq_natCast, Vx.toN]; omega))) | (refine ptq ?_ ?_ ?_ <;> (first | rfl | omega | (simp (disch := omega) only [hS.glob, wraps, plain, Int.ofNat_eq_natCast]; first | done | rfl | omega | (simp; done) | (simp; omega)) | (simp (disch := omega) only [hS.glob, wraps, plain, Int.ofNat_eq_natCast, Vx.toN]; omega))) | (refine blq ?_; (first | rfl | omega | (simp (disch := omega) only [hS.glob, wraps, plain, Int.ofNat_eq_natCast]; first | done | rfl | omega | (simp; done) | (simp; omega)) | (simp (disch := omega) only [hS.glob, wraps, plain, Int.ofNat_eq_natCast, Vx.toN]; omega))))) rfl (by (repeat' first | exact trivial | rfl | exact Nat.le_refl _ | exact (fun _ _ => rfl) | (refine And.intro ?_ ?_) | (simp only [hS.glob, plain]; first | done | omega))) (by rw [hC]; simp)
      refine V.loop (γ := Nat) (fun i => i ≤ n) (fun i => [(13, .int .i64 (ofN i)), (10, .rows 1 n (icol .i64 xs)), (8, .rows 1 n (icol .i64 A)), (7, .int .i64 bz)]) (fun _ => []) (fun i => n - i) ?_ 0 (Nat.zero_le _)
      clear hi hn
      rintro j hj hback
      refine V.go Try.func5 tl_ok mixed hS.ops [] 400 ?_
      intro VV VA W hVV hVA hW
      conv => cbv
      split <;> rename_i h2
      · conv => cbv
        simp (disch := first | omega | (simp only [hS.glob, wraps, plain, Int.ofNat_eq_natCast]; omega)) only [hS.glob, wraps, plain, Int.ofNat_eq_natCast] at h2
        repeat (refine ⟨by first | (rw [hW]; show ordOk _ _ _ = true; kernel_rfl) | (first | trivial | omega | (simp (disch := omega) only [hS.glob, wraps, plain, Int.ofNat_eq_natCast]; first | done | omega | trivial | (simp; done) | (simp; omega) | (constructor <;> omega)) | (simp (disch := omega) only [hS.glob, wraps, plain, Int.ofNat_eq_natCast, Vx.toN]; omega)), ?_⟩)
        simp only [hS.tidy]
        have hd := hdeep j (by omega)
        obtain ⟨R, hR⟩ : ∃ R, R = remC (A j) := ⟨_, rfl⟩
        unfold okLv at hd
        rw [← hR] at hd
        rw [hVV]
        clear hVV hVA VV VA hW W
        refine V.call rfl rfl rfl rfl rfl Try.func17 rfl (by decide) [] (by simp) (by simp) (by (first | rfl | ((conv => cbv); (repeat' apply And.intro) <;> first | rfl | trivial | (first | rfl | omega | (simp (disch := omega) only [hS.glob, wraps, plain, Int.ofNat_eq_natCast]; first | done | rfl | omega | (simp; done) | (simp; omega)) | (simp (disch := omega) only [hS.glob, wraps, plain, Int.ofNat_eq_natCast, Vx.toN]; omega))))) rfl (f17_ok (A j) R hR) ?_
        rintro r Hc ⟨rfl, rfl⟩
        refine V.go Try.func5 tl_ok mixed hS.ops [] 400 ?_
        intro VV VA W hVV hVA hW
        conv => cbv
        repeat (refine ⟨by first | (rw [hW]; show ordOk _ _ _ = true; kernel_rfl) | (first | trivial | omega | (simp (disch := omega) only [hS.glob, wraps, plain, Int.ofNat_eq_natCast]; first | done | omega | trivial | (simp; done) | (simp; omega) | (constructor <;> omega)) | (simp (disch := omega) only [hS.glob, wraps, plain, Int.ofNat_eq_natCast, Vx.toN]; omega)), ?_⟩)
        simp only [hS.tidy]
        cases R
        · have hx := hd.2 rfl
          have e1 : bbne false (ieq (xs j) (-1)) = false := by
            have : ieq (xs j) (-1) = false := by simp (disch := first | omega | (simp only [hS.glob, wraps, plain, Int.ofNat_eq_natCast]; omega)) only [hS.glob, wraps, plain, Int.ofNat_eq_natCast]; omega
            rw [this]; simp [hS.glob, Vx.bbne]
          have e2 : bnot false = true := by simp [hS.glob, Vx.bnot]
          have e3 : ilt (xs j) bz = false := by simp (disch := first | omega | (simp only [hS.glob, wraps, plain, Int.ofNat_eq_natCast]; omega)) only [hS.glob, wraps, plain, Int.ofNat_eq_natCast]; omega
          have e4 : igt (xs j) 125 = false := by simp (disch := first | omega | (simp only [hS.glob, wraps, plain, Int.ofNat_eq_natCast]; omega)) only [hS.glob, wraps, plain, Int.ofNat_eq_natCast]; omega
          simp only [e1]
          conv => cbv
          simp only [e2]
          conv => cbv
          repeat (refine ⟨by first | (rw [hW]; show ordOk _ _ _ = true; kernel_rfl) | (first | trivial | omega | (simp (disch := omega) only [hS.glob, wraps, plain, Int.ofNat_eq_natCast]; first | done | omega | trivial | (simp; done) | (simp; omega) | (constructor <;> omega)) | (simp (disch := omega) only [hS.glob, wraps, plain, Int.ofNat_eq_natCast, Vx.toN]; omega)), ?_⟩)
          simp only [hS.tidy, e3]
          conv => cbv
          repeat (refine ⟨by first | (rw [hW]; show ordOk _ _ _ = true; kernel_rfl) | (first | trivial | omega | (simp (disch := omega) only [hS.glob, wraps, plain, Int.ofNat_eq_natCast]; first | done | omega | trivial | (simp; done) | (simp; omega) | (constructor <;> omega)) | (simp (disch := omega) only [hS.glob, wraps, plain, Int.ofNat_eq_natCast, Vx.toN]; omega)), ?_⟩)
          simp only [hS.tidy, e4]
          conv => cbv
          rw [hVV]
          exact V.to (hback (j + 1) (by omega) (by omega)) (by (repeat' first | exact trivial | rfl | (refine And.intro ?_ ?_) | (refine sti ?_; (first | rfl | omega | (simp (disch := omega) only [hS.glob, wraps, plain, Int.ofNat_eq_natCast]; first | done | rfl | omega | (simp; done) | (simp; omega)) | (simp (disch := omega) only [hS.glob, wraps, plain, Int.ofNat_eq_natCast, Vx.toN]; omega))) | (refine slq ?_ ?_ ?_ <;> (first | rfl | omega | (simp (disch := omega) only [hS.glob, wraps, plain, Int.ofNat_eq_natCast]; first | done | rfl | omega | (simp; done) | (simp; omega)) | (simp (disch := omega) only [hS.glob, wraps, plain, Int.ofNat_eq_natCast, Vx.toN]; omega))) | (refine ptq ?_ ?_ ?_ <;> (first | rfl | omega | (simp (disch := omega) only [hS.glob, wraps, plain, Int.ofNat_eq_natCast]; first | done | rfl | omega | (simp; done) | (simp; omega)) | (simp (disch := omega) only [hS.glob, wraps, plain, Int.ofNat_eq_natCast, Vx.toN]; omega))) | (refine blq ?_; (first | rfl | omega | (simp (disch := omega) only [hS.glob, wraps, plain, Int.ofNat_eq_natCast]; first | done | rfl | omega | (simp; done) | (simp; omega)) | (simp (disch := omega) only [hS.glob, wraps, plain, Int.ofNat_eq_natCast, Vx.toN]; omega))))) rfl (by (repeat' first | exact trivial | rfl | exact Nat.le_refl _ | exact (fun _ _ => rfl) | (refine And.intro ?_ ?_) | (simp only [hS.glob, plain]; first | done | omega))) (by rw [hC]; simp)
        · have hx := hd.1 rfl
          have e1 : bbne true (ieq (xs j) (-1)) = false := by
            have : ieq (xs j) (-1) = true := by simp (disch := first | omega | (simp only [hS.glob, wraps, plain, Int.ofNat_eq_natCast]; omega)) only [hS.glob, wraps, plain, Int.ofNat_eq_natCast]; omega
            rw [this]; simp [hS.glob, Vx.bbne]
          have e2 : bnot true = false := by simp [hS.glob, Vx.bnot]
          simp only [e1]
          conv => cbv
          rw [hVV]
          exact V.to (hback (j + 1) (by omega) (by omega)) (by (repeat' first | exact trivial | rfl | (refine And.intro ?_ ?_) | (refine sti ?_; (first | rfl | omega | (simp (disch := omega) only [hS.glob, wraps, plain, Int.ofNat_eq_natCast]; first | done | rfl | omega | (simp; done) | (simp; omega)) | (simp (disch := omega) only [hS.glob, wraps, plain, Int.ofNat_eq_natCast, Vx.toN]; omega))) | (refine slq ?_ ?_ ?_ <;> (first | rfl | omega | (simp (disch := omega) only [hS.glob, wraps, plain, Int.ofNat_eq_natCast]; first | done | rfl | omega | (simp; done) | (simp; omega)) | (simp (disch := omega) only [hS.glob, wraps, plain, Int.ofNat_eq_natCast, Vx.toN]; omega))) | (refine ptq ?_ ?_ ?_ <;> (first | rfl | omega | (simp (disch := omega) only [hS.glob, wraps, plain, Int.ofNat_eq_natCast]; first | done | rfl | omega | (simp; done) | (simp; omega)) | (simp (disch := omega) only [hS.glob, wraps, plain, Int.ofNat_eq_natCast, Vx.toN]; omega))) | (refine blq ?_; (first | rfl | omega | (simp (disch := omega) only [hS.glob, wraps, plain, Int.ofNat_eq_natCast]; first | done | rfl | omega | (simp; done) | (simp; omega)) | (simp (disch := omega) only [hS.glob, wraps, plain, Int.ofNat_eq_natCast, Vx.toN]; omega))))) rfl (by (repeat' first | exact trivial | rfl | exact Nat.le_refl _ | exact (fun _ _ => rfl) | (refine And.intro ?_ ?_) | (simp only [hS.glob, plain]; first | done | omega))) (by rw [hC]; simp)
      · conv => cbv
        rw [hVV]
        clear hVV hVA VV VA hW W
        refine V.call rfl rfl rfl rfl rfl Try.func8 rfl (by decide) [] (by simp) (by simp) (by (first | rfl | ((conv => cbv); (repeat' apply And.intro) <;> first | rfl | trivial | (first | rfl | omega | (simp (disch := omega) only [hS.glob, wraps, plain, Int.ofNat_eq_natCast]; first | done | rfl | omega | (simp; done) | (simp; omega)) | (simp (disch := omega) only [hS.glob, wraps, plain, Int.ofNat_eq_natCast, Vx.toN]; omega))))) rfl h8 ?_
        rintro r Hc ⟨rfl, rfl⟩
        refine V.go Try.func5 tl_ok mixed hS.ops [] 400 ?_
        intro VV VA W hVV hVA hW
        conv => cbv
        trivial
  · conv => cbv
    rw [hVV]
    refine V.call rfl rfl rfl rfl rfl Try.func8 rfl (by decide) [] (by simp) (by simp) (by (first | rfl | ((conv => cbv); (repeat' apply And.intro) <;> first | rfl | trivial | (first | rfl | omega | (simp (disch := omega) only [hS.glob, wraps, plain, Int.ofNat_eq_natCast]; first | done | rfl | omega | (simp; done) | (simp; omega)) | (simp (disch := omega) only [hS.glob, wraps, plain, Int.ofNat_eq_natCast, Vx.toN]; omega))))) rfl h8 ?_
    rintro r Hc ⟨rfl, rfl⟩
    refine V.go Try.func5 tl_ok mixed hS.ops [] 400 ?_
    intro VV VA W hVV hVA hW
    conv => cbv
    trivial
theorem f5_ok (ln : Nat) (l : Nat → Int) (c a b : Int) : FSpec Try.prog 5 [.rows 1 ln (icol .i64 l), .int .i64 c, .agg [.int .i64 a, .int .i64 b]] [] (fun r H' => r = .bool true ∧ H' = []) := by
  refine (f5_ok1 ln l c a b).weaken ?_
  rintro r H' rfl
  exact ⟨[], by cases H' <;> simp [heapCov], rfl, Nat.le_refl _, rfl, rfl⟩
end Go.Proofs.Ytihmolafajmbjaa
