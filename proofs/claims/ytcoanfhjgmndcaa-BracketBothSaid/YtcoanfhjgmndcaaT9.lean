/- Contracts of functions by an evaluator of the model: its part T9. -/
import Derived.Test.YtcoanfhjgmndcaaT8
set_option linter.all false
/- Both of a pair: plain. -/
namespace Go.Proofs.Ytcoanfhjgmndcaa
open Go Vx

theorem setF_at (came l : Nat → Int) (a : Nat) (v : Int) : setF came l a v a = v := by unfold setF; rw [if_pos (.inl rfl)]
theorem setF_else (came l : Nat → Int) (a j : Nat) (v : Int) : setF came l a v j = v ∨ setF came l a v j = l j := by
  unfold setF
  split
  · exact .inl rfl
  · exact .inr rfl
theorem setF_off (came l : Nat → Int) (a j : Nat) (v : Int) (h : j ≠ a) (hc : came j ≠ 8) : setF came l a v j = l j := by
  unfold setF
  rw [if_neg]
  rintro (h1 | ⟨h1, h2⟩)
  · exact h h1
  · exact hc (h2 j h1 (Nat.le_refl _))
theorem stepR_cases (came : Nat → Int) (side first : Int) (hs : side = 0 ∨ side = 1) (l : Nat → Int) (p : Nat × Nat) : (∀ j, stepR came side first l p j = l j) ∨ ∃ v, (v = 0 ∨ v = 1) ∧ stepR came side first l p p.1 = v ∧ stepR came side first l p p.2 = v ∧ (∀ j, stepR came side first l p j = v ∨ stepR came side first l p j = l j) ∧ ∀ j, j ≠ p.1 → j ≠ p.2 → came j ≠ 8 → stepR came side first l p j = l j := by
  unfold stepR
  generalize hP : pairSd _ _ _ _ = P
  cases P with
  | none => exact .inl fun j => rfl
  | some v =>
    refine .inr ⟨v, ?_, ?_, ?_, fun j => ?_, fun j h1 h2 hc => ?_⟩
    · have ht : turnC side = 0 ∨ turnC side = 1 := by unfold turnC; split <;> simp
      unfold pairSd at hP
      split at hP
      · injection hP with hP; omega
      · split at hP
        · injection hP with hP
          split at hP <;> omega
        · cases hP
    · simp only [pairL]
      rcases setF_else came (setF came l p.1 v) p.2 p.1 v with h | h
      · exact h
      · rw [h, setF_at]
    · simp only [pairL, setF_at]
    · simp only [pairL]
      rcases setF_else came (setF came l p.1 v) p.2 j v with h | h
      · exact .inl h
      · rw [h]; exact setF_else came l p.1 j v
    · simp only [pairL]
      rw [setF_off _ _ _ _ _ h2 hc, setF_off _ _ _ _ _ h1 hc]
theorem both_law {ln mn : Nat} {l kd id : Nat → Int} {ps : List (Nat × Nat)} (hps : ps = pairsL ln mn l kd id) (came : Nat → Int) (side first : Int) (hs : side = 0 ∨ side = 1) (x : Nat → Int) (hx : x = resR came side first l ps) :
    (∀ i (h : i < ps.length), came ps[i].1 ≠ 8 → came ps[i].2 ≠ 8 → x ps[i].1 = x ps[i].2) ∧ (∀ j, came j ≠ 8 → (∀ i (h : i < ps.length), ps[i].1 ≠ j ∧ ps[i].2 ≠ j) → x j = l j) ∧ ∀ j, x j ≠ l j → x j = 0 ∨ x j = 1 := by
  obtain ⟨G, hG0, hGs, hGm⟩ := foldG came side first l ps
  have apart : ∀ i k (hi : i < ps.length) (hk : k < ps.length), i ≠ k → ps[i].1 ≠ ps[k].1 ∧ ps[i].2 ≠ ps[k].1 ∧ ps[i].1 ≠ ps[k].2 ∧ ps[i].2 ≠ ps[k].2 := by
    intro i k hi hk hne
    obtain ⟨a1, a2, a3, a4, a5, a6, a7, a8, a9⟩ := pairs_facts hps i hi
    obtain ⟨b1, b2, b3, b4, b5, b6, b7, b8, b9⟩ := pairs_facts hps k hk
    have c1 : ps[i].2 ≠ ps[k].1 := fun e => by rw [e] at a7; omega
    have c2 : ps[i].1 ≠ ps[k].2 := fun e => by rw [e] at a6; omega
    rcases Nat.lt_or_gt_of_ne hne with h | h
    · have := b9 i h; omega
    · have := a9 k h; omega
  refine ⟨fun i hi h1 h2 => ?_, fun j hc hj => ?_, fun j hne => ?_⟩
  · have key : ∀ t, t ≤ ps.length → (t ≤ i → G t ps[i].1 = l ps[i].1 ∧ G t ps[i].2 = l ps[i].2) ∧ (i < t → G t ps[i].1 = G t ps[i].2) := by
      intro t
      induction t with
      | zero => exact fun _ => ⟨fun _ => by rw [hG0]; exact ⟨rfl, rfl⟩, fun h => by omega⟩
      | succ t ih =>
        intro ht
        obtain ⟨i1, i2⟩ := ih (by omega)
        rw [hGs t (by omega)]
        by_cases e : t = i
        · subst e
          refine ⟨fun h => by omega, fun _ => ?_⟩
          rcases stepR_cases came side first hs (G t) ps[t] with h | ⟨v, _, q1, q2, _⟩
          · rw [h, h, (i1 (Nat.le_refl _)).1, (i1 (Nat.le_refl _)).2]
            obtain ⟨_, _, _, a4, a5, _⟩ := pairs_facts hps t hi
            rw [a4, a5]
          · rw [q1, q2]
        · have ap := apart i t hi (by omega) (fun h => e h.symm)
          have keep : stepR came side first (G t) ps[t] ps[i].1 = G t ps[i].1 ∧ stepR came side first (G t) ps[t] ps[i].2 = G t ps[i].2 := by
            rcases stepR_cases came side first hs (G t) ps[t] with h | ⟨v, _, _, _, _, q⟩
            · exact ⟨h _, h _⟩
            · exact ⟨q _ ap.1 ap.2.2.1 h1, q _ ap.2.1 ap.2.2.2 h2⟩
          rw [keep.1, keep.2]
          exact ⟨fun h => i1 (by omega), fun h => i2 (by omega)⟩
    rw [hx, ← hGm]
    exact (key ps.length (Nat.le_refl _)).2 hi
  · have key : ∀ t, t ≤ ps.length → G t j = l j := by
      intro t
      induction t with
      | zero => exact fun _ => by rw [hG0]
      | succ t ih =>
        intro ht
        rw [hGs t (by omega)]
        rcases stepR_cases came side first hs (G t) ps[t] with h | ⟨v, _, _, _, _, q⟩
        · rw [h]; exact ih (by omega)
        · rw [q j (hj t (by omega)).1.symm (hj t (by omega)).2.symm hc]; exact ih (by omega)
    rw [hx, ← hGm]
    exact key _ (Nat.le_refl _)
  · have key : ∀ t, t ≤ ps.length → G t j = l j ∨ G t j = 0 ∨ G t j = 1 := by
      intro t
      induction t with
      | zero => exact fun _ => .inl (by rw [hG0])
      | succ t ih =>
        intro ht
        rw [hGs t (by omega)]
        rcases stepR_cases came side first hs (G t) ps[t] with h | ⟨v, hv, _, _, q, _⟩
        · rw [h]; exact ih (by omega)
        · rcases q j with h | h
          · rw [h]; exact .inr hv
          · rw [h]; exact ih (by omega)
    rcases key ps.length (Nat.le_refl _) with h | h
    · rw [hGm, ← hx] at h; exact absurd h hne
    · rw [hGm, ← hx] at h; exact h
end Go.Proofs.Ytcoanfhjgmndcaa

/- Both of a pair: the walk. -/
namespace Go.Proofs.Ytcoanfhjgmndcaa
open Go Vx

theorem leafS2 {eqN : Nat → Nat → Bool} (he : eqN = Vx.eqN) (inn n1 n2 : Nat → Int) (o e : Nat) (h1 : ∀ j, n1 j = if j = o then 1 else inn j) (h2 : ∀ j, n2 j = if j = e then 1 else n1 j) (j : Nat) : icol .i64 n2 j = (match eqN j e with | true => splice (match eqN j o with | true => splice (icol .i64 inn j) 0 (cellsOf (AV.int .i64 1)) | false => icol .i64 inn j) 0 (cellsOf (AV.int .i64 1)) | false => match eqN j o with | true => splice (icol .i64 inn j) 0 (cellsOf (AV.int .i64 1)) | false => icol .i64 inn j) := by
  subst he
  simp only [icol, h1, h2]
  cases hr : Vx.eqN j e <;> cases hq : Vx.eqN j o <;> simp only [plain] at hr hq
  · rw [if_neg hr, if_neg hq]
  · rw [if_neg hr, if_pos hq]; rfl
  · rw [if_pos hr]; rfl
  · rw [if_pos hr]; rfl
set_option maxHeartbeats 4000000 in
set_option maxRecDepth 100000 in
theorem f6_ok1 (cn ln mn : Nat) (came l kd id : Nat → Int) (level first : Int) (m0 : cn ≤ 17592186044416) (m1 : ln ≤ 17592186044416) (m2 : mn ≤ 8796093022208) : FSpec Try.prog 6 [.agg [.rows 1 cn (icol .i64 came), .rows 1 ln (icol .i64 l), .int .i64 level, .int .i64 first], .rows 2 mn (icol2 kd id)] [] (fun r H' => r = .bool true) := by
  have h8 := f8_ok
  obtain ⟨bad, hbad⟩ := bool_of (cn ≠ ln ∨ level < 0 ∨ (first ≠ 0 ∧ first ≠ 1))
  obtain ⟨x, hx⟩ : ∃ x, x = resR came (sideOf level) first l (pairsL ln mn l kd id) := ⟨_, rfl⟩
  have h13 := f13_ok cn ln mn (by omega) (by omega) (by omega) came l kd id level first bad hbad x hx
  have h11 := FSpec.freeze (by decide) (f11_ok mn (by omega) kd id)
  refine FSpec.of (fn := Try.f6) Try.func6 rfl rfl (by simp) fun C hC => ?_
  obtain ⟨iadd, isub, imul, iquo, irem, iband, ibor, ibxor, ibandn, ishl, ishr, iconv, ieq, ine, ilt, ile, igt, ige, bbeq, bbne, bnot, bband, sseq, ssne, sscat, sssub, sslen, sssz, ssbyte, toN, ofN, addN, subN, eqN, ltB, leN, imx, imn, inb, leb, sslt, ltN, fit, ne0, ge0, ssfit, minN, inR, hS⟩ := names
  refine V.goF (by first | exact trivial | assumption) Try.func6 tl_ok mixed hS.ops [] 6 ?_
  intro VV VA W hVV hVA hW
  conv => cbv
  rw [hVV]
  clear hVV hVA VV VA hW W
  refine V.to (s' := [(2, .ptr 0 0 0), (1, .rows 2 mn (icol2 kd id))]) (H' := [some ⟨34, 4, .lit [[.rows 1 cn (icol .i64 came), .rows 1 ln (icol .i64 l), .int .i64 level, .int .i64 first]]⟩]) ?_ (by (repeat' first | exact trivial | rfl | (refine And.intro ?_ ?_) | (refine sti ?_; (first | rfl | omega | (simp (disch := omega) only [hS.glob, wraps, plain, Int.ofNat_eq_natCast]; first | done | rfl | omega | (simp; done) | (simp; omega)) | (simp (disch := omega) only [hS.glob, wraps, plain, Int.ofNat_eq_natCast, Vx.toN]; omega))) | (refine slq ?_ ?_ ?_ <;> (first | rfl | omega | (simp (disch := omega) only [hS.glob, wraps, plain, Int.ofNat_eq_natCast]; first | done | rfl | omega | (simp; done) | (simp; omega)) | (simp (disch := omega) only [hS.glob, wraps, plain, Int.ofNat_eq_natCast, Vx.toN]; omega))) | (refine ptq ?_ ?_ ?_ <;> (first | rfl | omega | (simp (disch := omega) only [hS.glob, wraps, plain, Int.ofNat_eq_natCast]; first | done | rfl | omega | (simp; done) | (simp; omega)) | (simp (disch := omega) only [hS.glob, wraps, plain, Int.ofNat_eq_natCast, Vx.toN]; omega))) | (refine blq ?_; (first | rfl | omega | (simp (disch := omega) only [hS.glob, wraps, plain, Int.ofNat_eq_natCast]; first | done | rfl | omega | (simp; done) | (simp; omega)) | (simp (disch := omega) only [hS.glob, wraps, plain, Int.ofNat_eq_natCast, Vx.toN]; omega))))) rfl (by (repeat' first | exact trivial | rfl | exact Nat.le_refl _ | exact (fun _ _ => rfl) | (refine And.intro ?_ ?_) | (simp only [hS.glob, plain]; first | done | omega))) (by rw [hC]; exact Nat.zero_le _)
  refine V.drawnK tl_ok mixed (.one 0 .none (.one 2 .none (.one 4 .none (.one 6 .none (.one 8 .none (.alt 1 (.alt 3 (.alt 5 (.one 7 .none (.one 9 .none (.one 10 .none (.one 11 .none (.one 12 .none (.one 13 .none (.one 14 .none (.one 15 .none .done)))))))) (.alt 7 (.alt 5 (.one 9 .none (.one 10 .none (.one 11 .none (.one 12 .none (.one 13 .none (.one 14 .none (.one 15 .none .done))))))) (.alt 9 (.one 5 .none (.one 10 .none (.one 11 .none (.one 12 .none (.one 13 .none (.one 14 .none (.one 15 .none .done))))))) .none)) (.alt 9 (.alt 5 (.one 7 .none (.one 10 .none (.one 11 .none (.one 12 .none (.one 13 .none (.one 14 .none (.one 15 .none .done))))))) (.alt 7 (.one 5 .none (.one 10 .none (.one 11 .none (.one 12 .none (.one 13 .none (.one 14 .none (.one 15 .none .done))))))) .none)) .none))) (.alt 5 (.one 3 .none (.one 7 .none (.one 9 .none (.one 10 .none (.one 11 .none (.one 12 .none (.one 13 .none (.one 14 .none (.one 15 .none .done))))))))) (.alt 7 (.alt 3 (.alt 5 (.one 9 .none (.one 10 .none (.one 11 .none (.one 12 .none (.one 13 .none (.one 14 .none (.one 15 .none .done))))))) (.alt 9 (.one 5 .none (.one 10 .none (.one 11 .none (.one 12 .none (.one 13 .none (.one 14 .none (.one 15 .none .done))))))) .none)) (.alt 5 (.one 3 .none (.one 9 .none (.one 10 .none (.one 11 .none (.one 12 .none (.one 13 .none (.one 14 .none (.one 15 .none .done)))))))) (.alt 9 (.alt 3 (.one 5 .none (.one 10 .none (.one 11 .none (.one 12 .none (.one 13 .none (.one 14 .none (.one 15 .none .done))))))) (.alt 5 (.one 3 .none (.one 10 .none (.one 11 .none (.one 12 .none (.one 13 .none (.one 14 .none (.one 15 .none .done))))))) .none)) .none))) (.alt 9 (.alt 3 (.alt 5 (.one 7 .none (.one 10 .none (.one 11 .none (.one 12 .none (.one 13 .none (.one 14 .none (.one 15 .none .done))))))) (.alt 7 (.one 5 .none (.one 10 .none (.one 11 .none (.one 12 .none (.one 13 .none (.one 14 .none (.one 15 .none .done))))))) .none)) (.alt 5 (.one 3 .none (.one 7 .none (.one 10 .none (.one 11 .none (.one 12 .none (.one 13 .none (.one 14 .none (.one 15 .none .done)))))))) (.alt 7 (.alt 3 (.one 5 .none (.one 10 .none (.one 11 .none (.one 12 .none (.one 13 .none (.one 14 .none (.one 15 .none .done))))))) (.alt 5 (.one 3 .none (.one 10 .none (.one 11 .none (.one 12 .none (.one 13 .none (.one 14 .none (.one 15 .none .done))))))) .none)) .none))) .none)))) (.alt 3 (.alt 1 (.alt 5 (.one 7 .none (.one 9 .none (.one 10 .none (.one 11 .none (.one 12 .none (.one 13 .none (.one 14 .none (.one 15 .none .done)))))))) (.alt 7 (.alt 5 (.one 9 .none (.one 10 .none (.one 11 .none (.one 12 .none (.one 13 .none (.one 14 .none (.one 15 .none .done))))))) (.alt 9 (.one 5 .none (.one 10 .none (.one 11 .none (.one 12 .none (.one 13 .none (.one 14 .none (.one 15 .none .done))))))) .none)) (.alt 9 (.alt 5 (.one 7 .none (.one 10 .none (.one 11 .none (.one 12 .none (.one 13 .none (.one 14 .none (.one 15 .none .done))))))) (.alt 7 (.one 5 .none (.one 10 .none (.one 11 .none (.one 12 .none (.one 13 .none (.one 14 .none (.one 15 .none .done))))))) .none)) .none))) (.alt 5 (.one 1 .none (.one 7 .none (.one 9 .none (.one 10 .none (.one 11 .none (.one 12 .none (.one 13 .none (.one 14 .none (.one 15 .none .done))))))))) (.alt 7 (.alt 1 (.alt 5 (.one 9 .none (.one 10 .none (.one 11 .none (.one 12 .none (.one 13 .none (.one 14 .none (.one 15 .none .done))))))) (.alt 9 (.one 5 .none (.one 10 .none (.one 11 .none (.one 12 .none (.one 13 .none (.one 14 .none (.one 15 .none .done))))))) .none)) (.alt 5 (.one 1 .none (.one 9 .none (.one 10 .none (.one 11 .none (.one 12 .none (.one 13 .none (.one 14 .none (.one 15 .none .done)))))))) (.alt 9 (.alt 1 (.one 5 .none (.one 10 .none (.one 11 .none (.one 12 .none (.one 13 .none (.one 14 .none (.one 15 .none .done))))))) (.alt 5 (.one 1 .none (.one 10 .none (.one 11 .none (.one 12 .none (.one 13 .none (.one 14 .none (.one 15 .none .done))))))) .none)) .none))) (.alt 9 (.alt 1 (.alt 5 (.one 7 .none (.one 10 .none (.one 11 .none (.one 12 .none (.one 13 .none (.one 14 .none (.one 15 .none .done))))))) (.alt 7 (.one 5 .none (.one 10 .none (.one 11 .none (.one 12 .none (.one 13 .none (.one 14 .none (.one 15 .none .done))))))) .none)) (.alt 5 (.one 1 .none (.one 7 .none (.one 10 .none (.one 11 .none (.one 12 .none (.one 13 .none (.one 14 .none (.one 15 .none .done)))))))) (.alt 7 (.alt 1 (.one 5 .none (.one 10 .none (.one 11 .none (.one 12 .none (.one 13 .none (.one 14 .none (.one 15 .none .done))))))) (.alt 5 (.one 1 .none (.one 10 .none (.one 11 .none (.one 12 .none (.one 13 .none (.one 14 .none (.one 15 .none .done))))))) .none)) .none))) .none)))) (.alt 5 (.one 1 .none (.one 3 .none (.one 7 .none (.one 9 .none (.one 10 .none (.one 11 .none (.one 12 .none (.one 13 .none (.one 14 .none (.one 15 .none .done)))))))))) (.alt 7 (.alt 1 (.alt 3 (.alt 5 (.one 9 .none (.one 10 .none (.one 11 .none (.one 12 .none (.one 13 .none (.one 14 .none (.one 15 .none .done))))))) (.alt 9 (.one 5 .none (.one 10 .none (.one 11 .none (.one 12 .none (.one 13 .none (.one 14 .none (.one 15 .none .done))))))) .none)) (.alt 5 (.one 3 .none (.one 9 .none (.one 10 .none (.one 11 .none (.one 12 .none (.one 13 .none (.one 14 .none (.one 15 .none .done)))))))) (.alt 9 (.alt 3 (.one 5 .none (.one 10 .none (.one 11 .none (.one 12 .none (.one 13 .none (.one 14 .none (.one 15 .none .done))))))) (.alt 5 (.one 3 .none (.one 10 .none (.one 11 .none (.one 12 .none (.one 13 .none (.one 14 .none (.one 15 .none .done))))))) .none)) .none))) (.alt 3 (.alt 1 (.alt 5 (.one 9 .none (.one 10 .none (.one 11 .none (.one 12 .none (.one 13 .none (.one 14 .none (.one 15 .none .done))))))) (.alt 9 (.one 5 .none (.one 10 .none (.one 11 .none (.one 12 .none (.one 13 .none (.one 14 .none (.one 15 .none .done))))))) .none)) (.alt 5 (.one 1 .none (.one 9 .none (.one 10 .none (.one 11 .none (.one 12 .none (.one 13 .none (.one 14 .none (.one 15 .none .done)))))))) (.alt 9 (.alt 1 (.one 5 .none (.one 10 .none (.one 11 .none (.one 12 .none (.one 13 .none (.one 14 .none (.one 15 .none .done))))))) (.alt 5 (.one 1 .none (.one 10 .none (.one 11 .none (.one 12 .none (.one 13 .none (.one 14 .none (.one 15 .none .done))))))) .none)) .none))) (.alt 5 (.one 1 .none (.one 3 .none (.one 9 .none (.one 10 .none (.one 11 .none (.one 12 .none (.one 13 .none (.one 14 .none (.one 15 .none .done))))))))) (.alt 9 (.alt 1 (.alt 3 (.one 5 .none (.one 10 .none (.one 11 .none (.one 12 .none (.one 13 .none (.one 14 .none (.one 15 .none .done))))))) (.alt 5 (.one 3 .none (.one 10 .none (.one 11 .none (.one 12 .none (.one 13 .none (.one 14 .none (.one 15 .none .done))))))) .none)) (.alt 3 (.alt 1 (.one 5 .none (.one 10 .none (.one 11 .none (.one 12 .none (.one 13 .none (.one 14 .none (.one 15 .none .done))))))) (.alt 5 (.one 1 .none (.one 10 .none (.one 11 .none (.one 12 .none (.one 13 .none (.one 14 .none (.one 15 .none .done))))))) .none)) (.alt 5 (.one 1 .none (.one 3 .none (.one 10 .none (.one 11 .none (.one 12 .none (.one 13 .none (.one 14 .none (.one 15 .none .done)))))))) .none))) .none)))) (.alt 9 (.alt 1 (.alt 3 (.alt 5 (.one 7 .none (.one 10 .none (.one 11 .none (.one 12 .none (.one 13 .none (.one 14 .none (.one 15 .none .done))))))) (.alt 7 (.one 5 .none (.one 10 .none (.one 11 .none (.one 12 .none (.one 13 .none (.one 14 .none (.one 15 .none .done))))))) .none)) (.alt 5 (.one 3 .none (.one 7 .none (.one 10 .none (.one 11 .none (.one 12 .none (.one 13 .none (.one 14 .none (.one 15 .none .done)))))))) (.alt 7 (.alt 3 (.one 5 .none (.one 10 .none (.one 11 .none (.one 12 .none (.one 13 .none (.one 14 .none (.one 15 .none .done))))))) (.alt 5 (.one 3 .none (.one 10 .none (.one 11 .none (.one 12 .none (.one 13 .none (.one 14 .none (.one 15 .none .done))))))) .none)) .none))) (.alt 3 (.alt 1 (.alt 5 (.one 7 .none (.one 10 .none (.one 11 .none (.one 12 .none (.one 13 .none (.one 14 .none (.one 15 .none .done))))))) (.alt 7 (.one 5 .none (.one 10 .none (.one 11 .none (.one 12 .none (.one 13 .none (.one 14 .none (.one 15 .none .done))))))) .none)) (.alt 5 (.one 1 .none (.one 7 .none (.one 10 .none (.one 11 .none (.one 12 .none (.one 13 .none (.one 14 .none (.one 15 .none .done)))))))) (.alt 7 (.alt 1 (.one 5 .none (.one 10 .none (.one 11 .none (.one 12 .none (.one 13 .none (.one 14 .none (.one 15 .none .done))))))) (.alt 5 (.one 1 .none (.one 10 .none (.one 11 .none (.one 12 .none (.one 13 .none (.one 14 .none (.one 15 .none .done))))))) .none)) .none))) (.alt 5 (.one 1 .none (.one 3 .none (.one 7 .none (.one 10 .none (.one 11 .none (.one 12 .none (.one 13 .none (.one 14 .none (.one 15 .none .done))))))))) (.alt 7 (.alt 1 (.alt 3 (.one 5 .none (.one 10 .none (.one 11 .none (.one 12 .none (.one 13 .none (.one 14 .none (.one 15 .none .done))))))) (.alt 5 (.one 3 .none (.one 10 .none (.one 11 .none (.one 12 .none (.one 13 .none (.one 14 .none (.one 15 .none .done))))))) .none)) (.alt 3 (.alt 1 (.one 5 .none (.one 10 .none (.one 11 .none (.one 12 .none (.one 13 .none (.one 14 .none (.one 15 .none .done))))))) (.alt 5 (.one 1 .none (.one 10 .none (.one 11 .none (.one 12 .none (.one 13 .none (.one 14 .none (.one 15 .none .done))))))) .none)) (.alt 5 (.one 1 .none (.one 3 .none (.one 10 .none (.one 11 .none (.one 12 .none (.one 13 .none (.one 14 .none (.one 15 .none .done)))))))) .none))) .none)))) .none)))))))))) (fun s H => (bad = true ∧ covers s [(5, .nil .slice), (6, .int .i64 1), (2, .ptr 0 0 0), (1, .rows 2 mn (icol2 kd id))] ∧ H = [some ⟨34, 4, .lit [[.rows 1 cn (icol .i64 came), .rows 1 ln (icol .i64 l), .int .i64 level, .int .i64 first]]⟩]) ∨ (bad = false ∧ covers s [(5, .sl 1 0 ln), (6, .int .i64 0), (2, .ptr 0 0 0), (1, .rows 2 mn (icol2 kd id))] ∧ H = [some ⟨34, 4, .lit [[.rows 1 cn (icol .i64 came), .rows 1 ln (icol .i64 l), .int .i64 level, .int .i64 first]]⟩, some ⟨32, 1, .arr ln (icol .i64 x)⟩])) (by kernel_rfl) ?_ ?_
  · as_aux_lemma =>
      refine AnyT.goK tl_ok hS.ops ?_
      intro KK VA hKK hVA
      conv => cbv
      repeat' apply And.intro
      all_goals try trivial
      all_goals
        rw [hVA]
        clear hKK hVA KK VA
        refine AnyT.call rfl rfl rfl rfl rfl Try.func11 rfl (by decide) [] (by simp) (by simp) (by (first | rfl | ((conv => cbv); (repeat' apply And.intro) <;> first | rfl | trivial | (first | rfl | omega | (simp (disch := omega) only [hS.glob, wraps, plain, Int.ofNat_eq_natCast]; first | done | rfl | omega | (simp; done) | (simp; omega)) | (simp (disch := omega) only [hS.glob, wraps, plain, Int.ofNat_eq_natCast, Vx.toN]; omega))))) rfl h11 ?_
        rintro r Hc ⟨rfl, rfl⟩
        refine AnyT.goK tl_ok hS.ops ?_
        intro KK VA hKK hVA
        conv => cbv
        rw [hVA]
        clear hKK hVA KK VA
        refine AnyT.call rfl rfl rfl rfl rfl Try.func13 rfl (by decide) [] (by simp) (by simp) (by (first | rfl | ((conv => cbv); (repeat' apply And.intro) <;> first | rfl | trivial | (first | rfl | omega | (simp (disch := omega) only [hS.glob, wraps, plain, Int.ofNat_eq_natCast]; first | done | rfl | omega | (simp; done) | (simp; omega)) | (simp (disch := omega) only [hS.glob, wraps, plain, Int.ofNat_eq_natCast, Vx.toN]; omega))))) rfl h13 ?_
        rintro r Hc (⟨hb, rfl, rfl⟩ | ⟨hb, rfl, rfl⟩)
        · refine AnyT.goK tl_ok hS.ops ?_
          intro KK VA hKK hVA
          conv => cbv
          rw [hKK]
          exact .inl ⟨hb, ⟨rfl, rfl, rfl, rfl, trivial⟩, rfl⟩
        · refine AnyT.goK tl_ok hS.ops ?_
          intro KK VA hKK hVA
          conv => cbv
          rw [hKK]
          exact .inr ⟨hb, ⟨rfl, rfl, rfl, rfl, trivial⟩, rfl⟩
  · rintro s H (⟨hb, hcov, rfl⟩ | ⟨hb, hcov, rfl⟩)
    · refine V.to (s' := [(5, .nil .slice), (6, .int .i64 1), (2, .ptr 0 0 0), (1, .rows 2 mn (icol2 kd id))]) (H' := [some ⟨34, 4, .lit [[.rows 1 cn (icol .i64 came), .rows 1 ln (icol .i64 l), .int .i64 level, .int .i64 first]]⟩]) ?_ hcov rfl (by (repeat' first | exact trivial | rfl | exact Nat.le_refl _ | exact (fun _ _ => rfl) | (refine And.intro ?_ ?_) | (simp only [hS.glob, plain]; first | done | omega))) (by rw [hC]; exact Nat.zero_le _)
      refine V.goF (by first | exact trivial | assumption) Try.func6 tl_ok mixed hS.ops [(13, .one 0 .none (.one 1 .none (.one 2 .none (.one 3 .none (.one 4 .none (.one 5 .none (.one 6 .none (.one 7 .none (.one 8 .none (.one 9 .none (.one 10 .none (.one 11 .none (.one 12 .none (.one 13 .none (.one 14 .none (.one 15 .none (.one 16 .none (.one 17 .none (.one 18 .none (.one 19 .none (.one 20 .none (.one 21 .none (.one 22 .none .done))))))))))))))))))))))), (14, .one 0 .none (.one 1 .none (.one 2 .none (.one 3 .none (.one 4 .none (.one 5 .none (.one 6 .none (.one 7 .none (.one 8 .none (.one 9 .none (.one 10 .none (.one 11 .none (.one 12 .none (.one 13 .none (.one 14 .none (.one 15 .none (.one 16 .none (.one 17 .none (.one 18 .none (.one 19 .none (.one 20 .none .done))))))))))))))))))))), (19, .one 0 .none (.one 1 .none (.one 2 .none (.one 3 .none (.one 4 .none (.one 5 .none (.one 6 .none (.one 7 .none (.one 8 .none (.one 9 .none (.one 10 .none (.one 11 .none (.one 12 .none (.one 13 .none (.one 14 .none (.one 15 .none (.one 16 .none (.one 17 .none (.one 18 .none (.one 19 .none (.one 20 .none (.one 21 .none (.one 22 .none (.one 23 .none (.one 24 .none (.one 25 .none (.one 26 .none (.one 27 .none (.one 28 .none (.one 29 .none (.one 30 .none (.one 31 .none (.one 32 .none (.one 33 .none (.one 34 .none (.one 35 .none (.one 36 .none (.one 37 .none (.one 38 .none (.one 39 .none (.one 40 .none (.one 41 .none (.one 42 .none (.one 43 .none (.one 44 .none (.one 45 .none (.one 46 .none (.one 47 .none (.one 48 .none (.one 49 .none (.one 50 .none .done)))))))))))))))))))))))))))))))))))))))))))))))))))] 400 ?_
      intro VV VA W hVV hVA hW
      conv => cbv
      have e1 : ine 1 0 = true := by simp (disch := first | omega | (simp only [hS.glob, wraps, plain, Int.ofNat_eq_natCast]; omega)) only [hS.glob, wraps, plain, Int.ofNat_eq_natCast]; decide
      cases g1 : igt (ofN ln) 200
      · conv => cbv
        cases g3 : igt (ofN mn) 200
        · conv => cbv
          simp only [e1]
          conv => cbv
          rw [hVV]
          clear hVV hVA VV VA hW W
          refine V.call rfl rfl rfl rfl rfl Try.func8 rfl (by decide) [] (by simp) (by simp) (by (first | rfl | ((conv => cbv); (repeat' apply And.intro) <;> first | rfl | trivial | (first | rfl | omega | (simp (disch := omega) only [hS.glob, wraps, plain, Int.ofNat_eq_natCast]; first | done | rfl | omega | (simp; done) | (simp; omega)) | (simp (disch := omega) only [hS.glob, wraps, plain, Int.ofNat_eq_natCast, Vx.toN]; omega))))) rfl h8 ?_
          rintro r Hc ⟨rfl, rfl⟩
          refine V.goF (by first | exact trivial | assumption) Try.func6 tl_ok mixed hS.ops [] 400 ?_
          intro VV VA W hVV hVA hW
          conv => cbv
          trivial
        · conv => cbv
          rw [hVV]
          clear hVV hVA VV VA hW W
          refine V.call rfl rfl rfl rfl rfl Try.func8 rfl (by decide) [] (by simp) (by simp) (by (first | rfl | ((conv => cbv); (repeat' apply And.intro) <;> first | rfl | trivial | (first | rfl | omega | (simp (disch := omega) only [hS.glob, wraps, plain, Int.ofNat_eq_natCast]; first | done | rfl | omega | (simp; done) | (simp; omega)) | (simp (disch := omega) only [hS.glob, wraps, plain, Int.ofNat_eq_natCast, Vx.toN]; omega))))) rfl h8 ?_
          rintro r Hc ⟨rfl, rfl⟩
          refine V.goF (by first | exact trivial | assumption) Try.func6 tl_ok mixed hS.ops [] 400 ?_
          intro VV VA W hVV hVA hW
          conv => cbv
          trivial
      · conv => cbv
        rw [hVV]
        clear hVV hVA VV VA hW W
        refine V.call rfl rfl rfl rfl rfl Try.func8 rfl (by decide) [] (by simp) (by simp) (by (first | rfl | ((conv => cbv); (repeat' apply And.intro) <;> first | rfl | trivial | (first | rfl | omega | (simp (disch := omega) only [hS.glob, wraps, plain, Int.ofNat_eq_natCast]; first | done | rfl | omega | (simp; done) | (simp; omega)) | (simp (disch := omega) only [hS.glob, wraps, plain, Int.ofNat_eq_natCast, Vx.toN]; omega))))) rfl h8 ?_
        rintro r Hc ⟨rfl, rfl⟩
        refine V.goF (by first | exact trivial | assumption) Try.func6 tl_ok mixed hS.ops [] 400 ?_
        intro VV VA W hVV hVA hW
        conv => cbv
        trivial
    · refine V.to (s' := [(5, .sl 1 0 ln), (6, .int .i64 0), (2, .ptr 0 0 0), (1, .rows 2 mn (icol2 kd id))]) (H' := [some ⟨34, 4, .lit [[.rows 1 cn (icol .i64 came), .rows 1 ln (icol .i64 l), .int .i64 level, .int .i64 first]]⟩, some ⟨32, 1, .arr ln (icol .i64 x)⟩]) ?_ hcov rfl (by (repeat' first | exact trivial | rfl | exact Nat.le_refl _ | exact (fun _ _ => rfl) | (refine And.intro ?_ ?_) | (simp only [hS.glob, plain]; first | done | omega))) (by rw [hC]; exact Nat.zero_le _)
      obtain rfl : ln = cn := by
        apply Classical.byContradiction
        intro hne
        have := hbad.2 (.inl (fun e => hne e.symm))
        rw [hb] at this
        cases this
      refine V.freeze0 5 1 ln (by rfl) (by rfl) (by rfl) (by first | decide | omega | exact (Nat.succ_pos _)) (by rfl) (by rfl) (by first | exact Nat.le_refl _ | decide | omega | (simp only [Cont.n]; omega)) ?_
      refine V.goF (by first | exact trivial | assumption) Try.func6 tl_ok mixed hS.ops [(13, .one 0 .none (.one 1 .none (.one 2 .none (.one 3 .none (.one 4 .none (.one 5 .none (.one 6 .none (.one 7 .none (.one 8 .none (.one 9 .none (.one 10 .none (.one 11 .none (.one 12 .none (.one 13 .none (.one 14 .none (.one 15 .none (.one 16 .none (.one 17 .none (.one 18 .none (.one 19 .none (.one 20 .none (.one 21 .none (.one 22 .none .done))))))))))))))))))))))), (14, .one 0 .none (.one 1 .none (.one 2 .none (.one 3 .none (.one 4 .none (.one 5 .none (.one 6 .none (.one 7 .none (.one 8 .none (.one 9 .none (.one 10 .none (.one 11 .none (.one 12 .none (.one 13 .none (.one 14 .none (.one 15 .none (.one 16 .none (.one 17 .none (.one 18 .none (.one 19 .none (.one 20 .none .done))))))))))))))))))))), (19, .one 0 .none (.one 1 .none (.one 2 .none (.one 3 .none (.one 4 .none (.one 5 .none (.one 6 .none (.one 7 .none (.one 8 .none (.one 9 .none (.one 10 .none (.one 11 .none (.one 12 .none (.one 13 .none (.one 14 .none (.one 15 .none (.one 16 .none (.one 17 .none (.one 18 .none (.one 19 .none (.one 20 .none (.one 21 .none (.one 22 .none (.one 23 .none (.one 24 .none (.one 25 .none (.one 26 .none (.one 27 .none (.one 28 .none (.one 29 .none (.one 30 .none (.one 31 .none (.one 32 .none (.one 33 .none (.one 34 .none (.one 35 .none (.one 36 .none (.one 37 .none (.one 38 .none (.one 39 .none (.one 40 .none (.one 41 .none (.one 42 .none (.one 43 .none (.one 44 .none (.one 45 .none (.one 46 .none (.one 47 .none (.one 48 .none (.one 49 .none (.one 50 .none .done)))))))))))))))))))))))))))))))))))))))))))))))))))] 400 ?_
      intro VV VA W hVV hVA hW
      conv => cbv
      have e1 : ine 0 0 = false := by simp (disch := first | omega | (simp only [hS.glob, wraps, plain, Int.ofNat_eq_natCast]; omega)) only [hS.glob, wraps, plain, Int.ofNat_eq_natCast]
      cases g1 : igt (ofN ln) 200
      · conv => cbv
        cases g3 : igt (ofN mn) 200
        · conv => cbv
          simp only [e1]
          conv => cbv
          simp (disch := first | omega | (simp only [hS.glob, wraps, plain, Int.ofNat_eq_natCast]; omega)) only [hS.glob, wraps, plain, Int.ofNat_eq_natCast] at g1 g3
          have e2 : ine (ofN ln) (ofN ln) = false := by simp (disch := first | omega | (simp only [hS.glob, wraps, plain, Int.ofNat_eq_natCast]; omega)) only [hS.glob, wraps, plain, Int.ofNat_eq_natCast]
          simp only [e2]
          conv => cbv
          simp only [e2]
          conv => cbv
          rw [hVV]
          clear hVV hVA VV VA hW W e1 e2
          refine V.call rfl rfl rfl rfl rfl Try.func12 rfl (by decide) [] (by simp) (by simp) (by (first | rfl | ((conv => cbv); (repeat' apply And.intro) <;> first | rfl | trivial | (first | rfl | omega | (simp (disch := omega) only [hS.glob, wraps, plain, Int.ofNat_eq_natCast]; first | done | rfl | omega | (simp; done) | (simp; omega)) | (simp (disch := omega) only [hS.glob, wraps, plain, Int.ofNat_eq_natCast, Vx.toN]; omega))))) rfl (f12_ok ln mn (by omega) (by omega) l kd id) ?_
          rintro r Hc ⟨m, a, b, rfl, rfl, htab⟩
          refine V.goF (by first | exact trivial | assumption) Try.func6 tl_ok mixed hS.ops [(13, .one 0 .none (.one 1 .none (.one 2 .none (.one 3 .none (.one 4 .none (.one 5 .none (.one 6 .none (.one 7 .none (.one 8 .none (.one 9 .none (.one 10 .none (.one 11 .none (.one 12 .none (.one 13 .none (.one 14 .none (.one 15 .none (.one 16 .none (.one 17 .none (.one 18 .none (.one 19 .none (.one 20 .none (.one 21 .none (.one 22 .none .done))))))))))))))))))))))), (14, .one 0 .none (.one 1 .none (.one 2 .none (.one 3 .none (.one 4 .none (.one 5 .none (.one 6 .none (.one 7 .none (.one 8 .none (.one 9 .none (.one 10 .none (.one 11 .none (.one 12 .none (.one 13 .none (.one 14 .none (.one 15 .none (.one 16 .none (.one 17 .none (.one 18 .none (.one 19 .none (.one 20 .none .done))))))))))))))))))))), (19, .one 0 .none (.one 1 .none (.one 2 .none (.one 3 .none (.one 4 .none (.one 5 .none (.one 6 .none (.one 7 .none (.one 8 .none (.one 9 .none (.one 10 .none (.one 11 .none (.one 12 .none (.one 13 .none (.one 14 .none (.one 15 .none (.one 16 .none (.one 17 .none (.one 18 .none (.one 19 .none (.one 20 .none (.one 21 .none (.one 22 .none (.one 23 .none (.one 24 .none (.one 25 .none (.one 26 .none (.one 27 .none (.one 28 .none (.one 29 .none (.one 30 .none (.one 31 .none (.one 32 .none (.one 33 .none (.one 34 .none (.one 35 .none (.one 36 .none (.one 37 .none (.one 38 .none (.one 39 .none (.one 40 .none (.one 41 .none (.one 42 .none (.one 43 .none (.one 44 .none (.one 45 .none (.one 46 .none (.one 47 .none (.one 48 .none (.one 49 .none (.one 50 .none .done)))))))))))))))))))))))))))))))))))))))))))))))))))] 400 ?_
          intro VV VA W hVV hVA hW
          conv => cbv
          repeat (refine ⟨by first | (rw [hW]; show ordOk _ _ _ = true; kernel_rfl) | (first | trivial | omega | (simp (disch := omega) only [hS.glob, wraps, plain, Int.ofNat_eq_natCast]; first | done | omega | trivial | (simp; done) | (simp; omega) | (constructor <;> omega)) | (simp (disch := omega) only [hS.glob, wraps, plain, Int.ofNat_eq_natCast, Vx.toN]; omega)), ?_⟩)
          obtain ⟨ps, hps⟩ : ∃ ps, ps = pairsL ln mn l kd id := ⟨_, rfl⟩
          rw [← hps] at htab
          have hml : m = ps.length := by have := congrArg List.length htab; simpa [tab] using this
          have hm3 : m ≤ 1000000 := by have := pairsL_len ln mn l kd id; rw [← hps] at this; omega
          obtain ⟨law1, law2, law3⟩ := both_law hps came (sideOf level) first (by rw [sideOf]; split <;> simp) x (by rw [hx, hps])
          rw [hVV]
          clear hVV hVA VV VA hW W
          simp only [hS.tidy]
          refine V.to (s' := [(9, .int .i64 (ofN 0)), (8, .sl 3 0 ln), (7, .sl 2 0 m), (5, .rows 1 ln (icol .i64 x)), (2, .ptr 0 0 0), (1, .rows 2 mn (icol2 kd id))]) (H' := [some ⟨34, 4, .lit [[.rows 1 ln (icol .i64 came), .rows 1 ln (icol .i64 l), .int .i64 level, .int .i64 first]]⟩, none, some ⟨41, 2, .arr m (icol2 a b)⟩, some ⟨3, 1, .arr ln (icol .i64 fun _ => 0)⟩]) ?_ (by (repeat' first | exact trivial | rfl | (refine And.intro ?_ ?_) | (refine sti ?_; (first | rfl | omega | (simp (disch := omega) only [hS.glob, wraps, plain, Int.ofNat_eq_natCast]; first | done | rfl | omega | (simp; done) | (simp; omega)) | (simp (disch := omega) only [hS.glob, wraps, plain, Int.ofNat_eq_natCast, Vx.toN]; omega))) | (refine slq ?_ ?_ ?_ <;> (first | rfl | omega | (simp (disch := omega) only [hS.glob, wraps, plain, Int.ofNat_eq_natCast]; first | done | rfl | omega | (simp; done) | (simp; omega)) | (simp (disch := omega) only [hS.glob, wraps, plain, Int.ofNat_eq_natCast, Vx.toN]; omega))) | (refine ptq ?_ ?_ ?_ <;> (first | rfl | omega | (simp (disch := omega) only [hS.glob, wraps, plain, Int.ofNat_eq_natCast]; first | done | rfl | omega | (simp; done) | (simp; omega)) | (simp (disch := omega) only [hS.glob, wraps, plain, Int.ofNat_eq_natCast, Vx.toN]; omega))) | (refine blq ?_; (first | rfl | omega | (simp (disch := omega) only [hS.glob, wraps, plain, Int.ofNat_eq_natCast]; first | done | rfl | omega | (simp; done) | (simp; omega)) | (simp (disch := omega) only [hS.glob, wraps, plain, Int.ofNat_eq_natCast, Vx.toN]; omega))))) rfl (by (repeat' first | exact trivial | rfl | exact Nat.le_refl _ | exact (fun _ _ => rfl) | (refine And.intro ?_ ?_) | (simp only [hS.glob, plain]; first | done | omega))) (by rw [hC]; exact Nat.zero_le _)
          refine V.loop (γ := Nat × (Nat → Int)) (fun g => g.1 ≤ m ∧ ∀ j, g.2 j = 0 → ∀ k (h : k < ps.length), k < g.1 → ps[k].1 ≠ j ∧ ps[k].2 ≠ j) (fun g => [(9, .int .i64 (ofN g.1)), (8, .sl 3 0 ln), (7, .sl 2 0 m), (5, .rows 1 ln (icol .i64 x)), (2, .ptr 0 0 0), (1, .rows 2 mn (icol2 kd id))]) (fun g => [some ⟨34, 4, .lit [[.rows 1 ln (icol .i64 came), .rows 1 ln (icol .i64 l), .int .i64 level, .int .i64 first]]⟩, none, some ⟨41, 2, .arr m (icol2 a b)⟩, some ⟨3, 1, .arr ln (icol .i64 g.2)⟩]) (fun g => m - g.1) ?_ (0, fun _ => 0) ⟨Nat.zero_le _, fun j _ k _ hk => absurd hk (Nat.not_lt_zero _)⟩
          rintro ⟨i, inn⟩ ⟨hi, hin⟩ hback
          dsimp only at hi hin hback ⊢
          refine V.goF (by first | exact trivial | assumption) Try.func6 tl_ok mixed hS.ops [(13, .one 0 .none (.one 1 .none (.one 2 .none (.one 3 .none (.one 4 .none (.one 5 .none (.one 6 .none (.one 7 .none (.one 8 .none (.one 9 .none (.one 10 .none (.one 11 .none (.one 12 .none (.one 13 .none (.one 14 .none (.one 15 .none (.one 16 .none (.one 17 .none (.one 18 .none (.one 19 .none (.one 20 .none (.one 21 .none (.one 22 .none .done))))))))))))))))))))))), (14, .one 0 .none (.one 1 .none (.one 2 .none (.one 3 .none (.one 4 .none (.one 5 .none (.one 6 .none (.one 7 .none (.one 8 .none (.one 9 .none (.one 10 .none (.one 11 .none (.one 12 .none (.one 13 .none (.one 14 .none (.one 15 .none (.one 16 .none (.one 17 .none (.one 18 .none (.one 19 .none (.one 20 .none .done))))))))))))))))))))), (19, .one 0 .none (.one 1 .none (.one 2 .none (.one 3 .none (.one 4 .none (.one 5 .none (.one 6 .none (.one 7 .none (.one 8 .none (.one 9 .none (.one 10 .none (.one 11 .none (.one 12 .none (.one 13 .none (.one 14 .none (.one 15 .none (.one 16 .none (.one 17 .none (.one 18 .none (.one 19 .none (.one 20 .none (.one 21 .none (.one 22 .none (.one 23 .none (.one 24 .none (.one 25 .none (.one 26 .none (.one 27 .none (.one 28 .none (.one 29 .none (.one 30 .none (.one 31 .none (.one 32 .none (.one 33 .none (.one 34 .none (.one 35 .none (.one 36 .none (.one 37 .none (.one 38 .none (.one 39 .none (.one 40 .none (.one 41 .none (.one 42 .none (.one 43 .none (.one 44 .none (.one 45 .none (.one 46 .none (.one 47 .none (.one 48 .none (.one 49 .none (.one 50 .none .done)))))))))))))))))))))))))))))))))))))))))))))))))))] 400 ?_
          intro VV VA W hVV hVA hW
          conv => cbv
          cases h9 : ilt (ofN i) (ofN m)
          · conv => cbv
            simp (disch := first | omega | (simp only [hS.glob, wraps, plain, Int.ofNat_eq_natCast]; omega)) only [hS.glob, wraps, plain, Int.ofNat_eq_natCast] at h9
            obtain rfl : i = m := by omega
            rw [hVV]
            clear hVV hVA VV VA hW W hback
            refine V.to (s' := [(11, .int .i64 (ofN 0)), (8, .sl 3 0 ln), (5, .rows 1 ln (icol .i64 x)), (2, .ptr 0 0 0), (1, .rows 2 mn (icol2 kd id))]) (H' := [some ⟨34, 4, .lit [[.rows 1 ln (icol .i64 came), .rows 1 ln (icol .i64 l), .int .i64 level, .int .i64 first]]⟩, none, none, some ⟨3, 1, .arr ln (icol .i64 inn)⟩]) ?_ (by (repeat' first | exact trivial | rfl | (refine And.intro ?_ ?_) | (refine sti ?_; (first | rfl | omega | (simp (disch := omega) only [hS.glob, wraps, plain, Int.ofNat_eq_natCast]; first | done | rfl | omega | (simp; done) | (simp; omega)) | (simp (disch := omega) only [hS.glob, wraps, plain, Int.ofNat_eq_natCast, Vx.toN]; omega))) | (refine slq ?_ ?_ ?_ <;> (first | rfl | omega | (simp (disch := omega) only [hS.glob, wraps, plain, Int.ofNat_eq_natCast]; first | done | rfl | omega | (simp; done) | (simp; omega)) | (simp (disch := omega) only [hS.glob, wraps, plain, Int.ofNat_eq_natCast, Vx.toN]; omega))) | (refine ptq ?_ ?_ ?_ <;> (first | rfl | omega | (simp (disch := omega) only [hS.glob, wraps, plain, Int.ofNat_eq_natCast]; first | done | rfl | omega | (simp; done) | (simp; omega)) | (simp (disch := omega) only [hS.glob, wraps, plain, Int.ofNat_eq_natCast, Vx.toN]; omega))) | (refine blq ?_; (first | rfl | omega | (simp (disch := omega) only [hS.glob, wraps, plain, Int.ofNat_eq_natCast]; first | done | rfl | omega | (simp; done) | (simp; omega)) | (simp (disch := omega) only [hS.glob, wraps, plain, Int.ofNat_eq_natCast, Vx.toN]; omega))))) rfl (by (repeat' first | exact trivial | rfl | exact Nat.le_refl _ | exact (fun _ _ => rfl) | (refine And.intro ?_ ?_) | (simp only [hS.glob, plain]; first | done | omega))) (by rw [hC]; exact Nat.zero_le _)
            refine V.loop (γ := Nat) (fun n => n ≤ ln) (fun n => [(11, .int .i64 (ofN n)), (8, .sl 3 0 ln), (5, .rows 1 ln (icol .i64 x)), (2, .ptr 0 0 0), (1, .rows 2 mn (icol2 kd id))]) (fun _ => [some ⟨34, 4, .lit [[.rows 1 ln (icol .i64 came), .rows 1 ln (icol .i64 l), .int .i64 level, .int .i64 first]]⟩, none, none, some ⟨3, 1, .arr ln (icol .i64 inn)⟩]) (fun n => ln - n) ?_ 0 (Nat.zero_le _)
            rintro n hn hback
            refine V.goF (by first | exact trivial | assumption) Try.func6 tl_ok mixed hS.ops [(13, .one 0 .none (.one 1 .none (.one 2 .none (.one 3 .none (.one 4 .none (.one 5 .none (.one 6 .none (.one 7 .none (.one 8 .none (.one 9 .none (.one 10 .none (.one 11 .none (.one 12 .none (.one 13 .none (.one 14 .none (.one 15 .none (.one 16 .none (.one 17 .none (.one 18 .none (.one 19 .none (.one 20 .none (.one 21 .none (.one 22 .none .done))))))))))))))))))))))), (14, .one 0 .none (.one 1 .none (.one 2 .none (.one 3 .none (.one 4 .none (.one 5 .none (.one 6 .none (.one 7 .none (.one 8 .none (.one 9 .none (.one 10 .none (.one 11 .none (.one 12 .none (.one 13 .none (.one 14 .none (.one 15 .none (.one 16 .none (.one 17 .none (.one 18 .none (.one 19 .none (.one 20 .none .done))))))))))))))))))))), (19, .one 0 .none (.one 1 .none (.one 2 .none (.one 3 .none (.one 4 .none (.one 5 .none (.one 6 .none (.one 7 .none (.one 8 .none (.one 9 .none (.one 10 .none (.one 11 .none (.one 12 .none (.one 13 .none (.one 14 .none (.one 15 .none (.one 16 .none (.one 17 .none (.one 18 .none (.one 19 .none (.one 20 .none (.one 21 .none (.one 22 .none (.one 23 .none (.one 24 .none (.one 25 .none (.one 26 .none (.one 27 .none (.one 28 .none (.one 29 .none (.one 30 .none (.one 31 .none (.one 32 .none (.one 33 .none (.one 34 .none (.one 35 .none (.one 36 .none (.one 37 .none (.one 38 .none (.one 39 .none (.one 40 .none (.one 41 .none (.one 42 .none (.one 43 .none (.one 44 .none (.one 45 .none (.one 46 .none (.one 47 .none (.one 48 .none (.one 49 .none (.one 50 .none .done)))))))))))))))))))))))))))))))))))))))))))))))))))] 400 ?_
            intro VV VA W hVV hVA hW
            conv => cbv
            cases k1 : ilt (ofN n) (ofN ln)
            · conv => cbv
              simp (disch := first | omega | (simp only [hS.glob, wraps, plain, Int.ofNat_eq_natCast]; omega)) only [hS.glob, wraps, plain, Int.ofNat_eq_natCast] at k1
              rw [hVV]
              clear hVV hVA VV VA hW W
              refine V.call rfl rfl rfl rfl rfl Try.func8 rfl (by decide) [] (by simp) (by simp) (by (first | rfl | ((conv => cbv); (repeat' apply And.intro) <;> first | rfl | trivial | (first | rfl | omega | (simp (disch := omega) only [hS.glob, wraps, plain, Int.ofNat_eq_natCast]; first | done | rfl | omega | (simp; done) | (simp; omega)) | (simp (disch := omega) only [hS.glob, wraps, plain, Int.ofNat_eq_natCast, Vx.toN]; omega))))) rfl h8 ?_
              rintro r Hc ⟨rfl, rfl⟩
              refine V.goF (by first | exact trivial | assumption) Try.func6 tl_ok mixed hS.ops [] 400 ?_
              intro VV VA W hVV hVA hW
              conv => cbv
              have e3 : ieq (ofN ln) (ofN ln) = true := by simp (disch := first | omega | (simp only [hS.glob, wraps, plain, Int.ofNat_eq_natCast]; omega)) only [hS.glob, wraps, plain, Int.ofNat_eq_natCast]
              rw [e3]
            · conv => cbv
              simp (disch := first | omega | (simp only [hS.glob, wraps, plain, Int.ofNat_eq_natCast]; omega)) only [hS.glob, wraps, plain, Int.ofNat_eq_natCast] at k1
              as_aux_lemma =>
                have hlaw2 := law2 n
                have hlaw3 := law3 n
                have hin2 := hin n
                repeat (refine ⟨by first | (rw [hW]; show ordOk _ _ _ = true; kernel_rfl) | (first | trivial | omega | (simp (disch := omega) only [hS.glob, wraps, plain, Int.ofNat_eq_natCast]; first | done | omega | trivial | (simp; done) | (simp; omega) | (constructor <;> omega)) | (simp (disch := omega) only [hS.glob, wraps, plain, Int.ofNat_eq_natCast, Vx.toN]; omega)), ?_⟩)
                simp only [hS.tidy]
                by_cases hxl : x n = l n
                · have e5 : ine (x n) (l n) = false := by simp (disch := first | omega | (simp only [hS.glob, wraps, plain, Int.ofNat_eq_natCast]; omega)) only [hS.glob, wraps, plain, Int.ofNat_eq_natCast]; exact hxl
                  cases j1 : ieq (inn n) 0
                  · conv => cbv
                    repeat (refine ⟨by first | (rw [hW]; show ordOk _ _ _ = true; kernel_rfl) | (first | trivial | omega | (simp (disch := omega) only [hS.glob, wraps, plain, Int.ofNat_eq_natCast]; first | done | omega | trivial | (simp; done) | (simp; omega) | (constructor <;> omega)) | (simp (disch := omega) only [hS.glob, wraps, plain, Int.ofNat_eq_natCast, Vx.toN]; omega)), ?_⟩)
                    simp only [hS.tidy, e5]
                    conv => cbv
                    rw [hVV]
                    clear hVV hVA VV VA hW W
                    exact V.to (hback (n + 1) (by omega) (by omega)) (by (repeat' first | exact trivial | rfl | (refine And.intro ?_ ?_) | (refine sti ?_; (first | rfl | omega | (simp (disch := omega) only [hS.glob, wraps, plain, Int.ofNat_eq_natCast]; first | done | rfl | omega | (simp; done) | (simp; omega)) | (simp (disch := omega) only [hS.glob, wraps, plain, Int.ofNat_eq_natCast, Vx.toN]; omega))) | (refine slq ?_ ?_ ?_ <;> (first | rfl | omega | (simp (disch := omega) only [hS.glob, wraps, plain, Int.ofNat_eq_natCast]; first | done | rfl | omega | (simp; done) | (simp; omega)) | (simp (disch := omega) only [hS.glob, wraps, plain, Int.ofNat_eq_natCast, Vx.toN]; omega))) | (refine ptq ?_ ?_ ?_ <;> (first | rfl | omega | (simp (disch := omega) only [hS.glob, wraps, plain, Int.ofNat_eq_natCast]; first | done | rfl | omega | (simp; done) | (simp; omega)) | (simp (disch := omega) only [hS.glob, wraps, plain, Int.ofNat_eq_natCast, Vx.toN]; omega))) | (refine blq ?_; (first | rfl | omega | (simp (disch := omega) only [hS.glob, wraps, plain, Int.ofNat_eq_natCast]; first | done | rfl | omega | (simp; done) | (simp; omega)) | (simp (disch := omega) only [hS.glob, wraps, plain, Int.ofNat_eq_natCast, Vx.toN]; omega))))) rfl (by (repeat' first | exact trivial | rfl | exact Nat.le_refl _ | exact (fun _ _ => rfl) | (refine And.intro ?_ ?_) | (simp only [hS.glob, plain]; first | done | omega))) (by rw [hC]; exact Nat.zero_le _)
                  · conv => cbv
                    repeat (refine ⟨by first | (rw [hW]; show ordOk _ _ _ = true; kernel_rfl) | (first | trivial | omega | (simp (disch := omega) only [hS.glob, wraps, plain, Int.ofNat_eq_natCast]; first | done | omega | trivial | (simp; done) | (simp; omega) | (constructor <;> omega)) | (simp (disch := omega) only [hS.glob, wraps, plain, Int.ofNat_eq_natCast, Vx.toN]; omega)), ?_⟩)
                    simp only [hS.tidy]
                    cases j2 : ine (came n) 8
                    · conv => cbv
                      repeat (refine ⟨by first | (rw [hW]; show ordOk _ _ _ = true; kernel_rfl) | (first | trivial | omega | (simp (disch := omega) only [hS.glob, wraps, plain, Int.ofNat_eq_natCast]; first | done | omega | trivial | (simp; done) | (simp; omega) | (constructor <;> omega)) | (simp (disch := omega) only [hS.glob, wraps, plain, Int.ofNat_eq_natCast, Vx.toN]; omega)), ?_⟩)
                      simp only [hS.tidy, e5]
                      conv => cbv
                      rw [hVV]
                      clear hVV hVA VV VA hW W
                      exact V.to (hback (n + 1) (by omega) (by omega)) (by (repeat' first | exact trivial | rfl | (refine And.intro ?_ ?_) | (refine sti ?_; (first | rfl | omega | (simp (disch := omega) only [hS.glob, wraps, plain, Int.ofNat_eq_natCast]; first | done | rfl | omega | (simp; done) | (simp; omega)) | (simp (disch := omega) only [hS.glob, wraps, plain, Int.ofNat_eq_natCast, Vx.toN]; omega))) | (refine slq ?_ ?_ ?_ <;> (first | rfl | omega | (simp (disch := omega) only [hS.glob, wraps, plain, Int.ofNat_eq_natCast]; first | done | rfl | omega | (simp; done) | (simp; omega)) | (simp (disch := omega) only [hS.glob, wraps, plain, Int.ofNat_eq_natCast, Vx.toN]; omega))) | (refine ptq ?_ ?_ ?_ <;> (first | rfl | omega | (simp (disch := omega) only [hS.glob, wraps, plain, Int.ofNat_eq_natCast]; first | done | rfl | omega | (simp; done) | (simp; omega)) | (simp (disch := omega) only [hS.glob, wraps, plain, Int.ofNat_eq_natCast, Vx.toN]; omega))) | (refine blq ?_; (first | rfl | omega | (simp (disch := omega) only [hS.glob, wraps, plain, Int.ofNat_eq_natCast]; first | done | rfl | omega | (simp; done) | (simp; omega)) | (simp (disch := omega) only [hS.glob, wraps, plain, Int.ofNat_eq_natCast, Vx.toN]; omega))))) rfl (by (repeat' first | exact trivial | rfl | exact Nat.le_refl _ | exact (fun _ _ => rfl) | (refine And.intro ?_ ?_) | (simp only [hS.glob, plain]; first | done | omega))) (by rw [hC]; exact Nat.zero_le _)
                    · conv => cbv
                      repeat (refine ⟨by first | (rw [hW]; show ordOk _ _ _ = true; kernel_rfl) | (first | trivial | omega | (simp (disch := omega) only [hS.glob, wraps, plain, Int.ofNat_eq_natCast]; first | done | omega | trivial | (simp; done) | (simp; omega) | (constructor <;> omega)) | (simp (disch := omega) only [hS.glob, wraps, plain, Int.ofNat_eq_natCast, Vx.toN]; omega)), ?_⟩)
                      simp only [hS.tidy, e5]
                      conv => cbv
                      repeat (refine ⟨by first | (rw [hW]; show ordOk _ _ _ = true; kernel_rfl) | (first | trivial | omega | (simp (disch := omega) only [hS.glob, wraps, plain, Int.ofNat_eq_natCast]; first | done | omega | trivial | (simp; done) | (simp; omega) | (constructor <;> omega)) | (simp (disch := omega) only [hS.glob, wraps, plain, Int.ofNat_eq_natCast, Vx.toN]; omega)), ?_⟩)
                      simp only [hS.tidy, e5]
                      conv => cbv
                      rw [hVV]
                      clear hVV hVA VV VA hW W
                      exact V.to (hback (n + 1) (by omega) (by omega)) (by (repeat' first | exact trivial | rfl | (refine And.intro ?_ ?_) | (refine sti ?_; (first | rfl | omega | (simp (disch := omega) only [hS.glob, wraps, plain, Int.ofNat_eq_natCast]; first | done | rfl | omega | (simp; done) | (simp; omega)) | (simp (disch := omega) only [hS.glob, wraps, plain, Int.ofNat_eq_natCast, Vx.toN]; omega))) | (refine slq ?_ ?_ ?_ <;> (first | rfl | omega | (simp (disch := omega) only [hS.glob, wraps, plain, Int.ofNat_eq_natCast]; first | done | rfl | omega | (simp; done) | (simp; omega)) | (simp (disch := omega) only [hS.glob, wraps, plain, Int.ofNat_eq_natCast, Vx.toN]; omega))) | (refine ptq ?_ ?_ ?_ <;> (first | rfl | omega | (simp (disch := omega) only [hS.glob, wraps, plain, Int.ofNat_eq_natCast]; first | done | rfl | omega | (simp; done) | (simp; omega)) | (simp (disch := omega) only [hS.glob, wraps, plain, Int.ofNat_eq_natCast, Vx.toN]; omega))) | (refine blq ?_; (first | rfl | omega | (simp (disch := omega) only [hS.glob, wraps, plain, Int.ofNat_eq_natCast]; first | done | rfl | omega | (simp; done) | (simp; omega)) | (simp (disch := omega) only [hS.glob, wraps, plain, Int.ofNat_eq_natCast, Vx.toN]; omega))))) rfl (by (repeat' first | exact trivial | rfl | exact Nat.le_refl _ | exact (fun _ _ => rfl) | (refine And.intro ?_ ?_) | (simp only [hS.glob, plain]; first | done | omega))) (by rw [hC]; exact Nat.zero_le _)
                · have e5 : ine (x n) (l n) = true := by simp (disch := first | omega | (simp only [hS.glob, wraps, plain, Int.ofNat_eq_natCast]; omega)) only [hS.glob, wraps, plain, Int.ofNat_eq_natCast]; exact hxl
                  have h01 := hlaw3 hxl
                  cases j1 : ieq (inn n) 0
                  · conv => cbv
                    repeat (refine ⟨by first | (rw [hW]; show ordOk _ _ _ = true; kernel_rfl) | (first | trivial | omega | (simp (disch := omega) only [hS.glob, wraps, plain, Int.ofNat_eq_natCast]; first | done | omega | trivial | (simp; done) | (simp; omega) | (constructor <;> omega)) | (simp (disch := omega) only [hS.glob, wraps, plain, Int.ofNat_eq_natCast, Vx.toN]; omega)), ?_⟩)
                    simp only [hS.tidy, e5]
                    conv => cbv
                    repeat (refine ⟨by first | (rw [hW]; show ordOk _ _ _ = true; kernel_rfl) | (first | trivial | omega | (simp (disch := omega) only [hS.glob, wraps, plain, Int.ofNat_eq_natCast]; first | done | omega | trivial | (simp; done) | (simp; omega) | (constructor <;> omega)) | (simp (disch := omega) only [hS.glob, wraps, plain, Int.ofNat_eq_natCast, Vx.toN]; omega)), ?_⟩)
                    simp only [hS.tidy]
                    cases j3 : ine (x n) 0
                    · conv => cbv
                      rw [hVV]
                      clear hVV hVA VV VA hW W
                      exact V.to (hback (n + 1) (by omega) (by omega)) (by (repeat' first | exact trivial | rfl | (refine And.intro ?_ ?_) | (refine sti ?_; (first | rfl | omega | (simp (disch := omega) only [hS.glob, wraps, plain, Int.ofNat_eq_natCast]; first | done | rfl | omega | (simp; done) | (simp; omega)) | (simp (disch := omega) only [hS.glob, wraps, plain, Int.ofNat_eq_natCast, Vx.toN]; omega))) | (refine slq ?_ ?_ ?_ <;> (first | rfl | omega | (simp (disch := omega) only [hS.glob, wraps, plain, Int.ofNat_eq_natCast]; first | done | rfl | omega | (simp; done) | (simp; omega)) | (simp (disch := omega) only [hS.glob, wraps, plain, Int.ofNat_eq_natCast, Vx.toN]; omega))) | (refine ptq ?_ ?_ ?_ <;> (first | rfl | omega | (simp (disch := omega) only [hS.glob, wraps, plain, Int.ofNat_eq_natCast]; first | done | rfl | omega | (simp; done) | (simp; omega)) | (simp (disch := omega) only [hS.glob, wraps, plain, Int.ofNat_eq_natCast, Vx.toN]; omega))) | (refine blq ?_; (first | rfl | omega | (simp (disch := omega) only [hS.glob, wraps, plain, Int.ofNat_eq_natCast]; first | done | rfl | omega | (simp; done) | (simp; omega)) | (simp (disch := omega) only [hS.glob, wraps, plain, Int.ofNat_eq_natCast, Vx.toN]; omega))))) rfl (by (repeat' first | exact trivial | rfl | exact Nat.le_refl _ | exact (fun _ _ => rfl) | (refine And.intro ?_ ?_) | (simp only [hS.glob, plain]; first | done | omega))) (by rw [hC]; exact Nat.zero_le _)
                    · conv => cbv
                      repeat (refine ⟨by first | (rw [hW]; show ordOk _ _ _ = true; kernel_rfl) | (first | trivial | omega | (simp (disch := omega) only [hS.glob, wraps, plain, Int.ofNat_eq_natCast]; first | done | omega | trivial | (simp; done) | (simp; omega) | (constructor <;> omega)) | (simp (disch := omega) only [hS.glob, wraps, plain, Int.ofNat_eq_natCast, Vx.toN]; omega)), ?_⟩)
                      simp only [hS.tidy]
                      cases j4 : ine (x n) 1
                      · conv => cbv
                        rw [hVV]
                        clear hVV hVA VV VA hW W
                        exact V.to (hback (n + 1) (by omega) (by omega)) (by (repeat' first | exact trivial | rfl | (refine And.intro ?_ ?_) | (refine sti ?_; (first | rfl | omega | (simp (disch := omega) only [hS.glob, wraps, plain, Int.ofNat_eq_natCast]; first | done | rfl | omega | (simp; done) | (simp; omega)) | (simp (disch := omega) only [hS.glob, wraps, plain, Int.ofNat_eq_natCast, Vx.toN]; omega))) | (refine slq ?_ ?_ ?_ <;> (first | rfl | omega | (simp (disch := omega) only [hS.glob, wraps, plain, Int.ofNat_eq_natCast]; first | done | rfl | omega | (simp; done) | (simp; omega)) | (simp (disch := omega) only [hS.glob, wraps, plain, Int.ofNat_eq_natCast, Vx.toN]; omega))) | (refine ptq ?_ ?_ ?_ <;> (first | rfl | omega | (simp (disch := omega) only [hS.glob, wraps, plain, Int.ofNat_eq_natCast]; first | done | rfl | omega | (simp; done) | (simp; omega)) | (simp (disch := omega) only [hS.glob, wraps, plain, Int.ofNat_eq_natCast, Vx.toN]; omega))) | (refine blq ?_; (first | rfl | omega | (simp (disch := omega) only [hS.glob, wraps, plain, Int.ofNat_eq_natCast]; first | done | rfl | omega | (simp; done) | (simp; omega)) | (simp (disch := omega) only [hS.glob, wraps, plain, Int.ofNat_eq_natCast, Vx.toN]; omega))))) rfl (by (repeat' first | exact trivial | rfl | exact Nat.le_refl _ | exact (fun _ _ => rfl) | (refine And.intro ?_ ?_) | (simp only [hS.glob, plain]; first | done | omega))) (by rw [hC]; exact Nat.zero_le _)
                      · simp (disch := first | omega | (simp only [hS.glob, wraps, plain, Int.ofNat_eq_natCast]; omega)) only [hS.glob, wraps, plain, Int.ofNat_eq_natCast] at j3 j4
                        omega
                  · conv => cbv
                    repeat (refine ⟨by first | (rw [hW]; show ordOk _ _ _ = true; kernel_rfl) | (first | trivial | omega | (simp (disch := omega) only [hS.glob, wraps, plain, Int.ofNat_eq_natCast]; first | done | omega | trivial | (simp; done) | (simp; omega) | (constructor <;> omega)) | (simp (disch := omega) only [hS.glob, wraps, plain, Int.ofNat_eq_natCast, Vx.toN]; omega)), ?_⟩)
                    simp only [hS.tidy]
                    cases j2 : ine (came n) 8
                    · conv => cbv
                      repeat (refine ⟨by first | (rw [hW]; show ordOk _ _ _ = true; kernel_rfl) | (first | trivial | omega | (simp (disch := omega) only [hS.glob, wraps, plain, Int.ofNat_eq_natCast]; first | done | omega | trivial | (simp; done) | (simp; omega) | (constructor <;> omega)) | (simp (disch := omega) only [hS.glob, wraps, plain, Int.ofNat_eq_natCast, Vx.toN]; omega)), ?_⟩)
                      simp only [hS.tidy, e5]
                      conv => cbv
                      repeat (refine ⟨by first | (rw [hW]; show ordOk _ _ _ = true; kernel_rfl) | (first | trivial | omega | (simp (disch := omega) only [hS.glob, wraps, plain, Int.ofNat_eq_natCast]; first | done | omega | trivial | (simp; done) | (simp; omega) | (constructor <;> omega)) | (simp (disch := omega) only [hS.glob, wraps, plain, Int.ofNat_eq_natCast, Vx.toN]; omega)), ?_⟩)
                      simp only [hS.tidy]
                      cases j3 : ine (x n) 0
                      · conv => cbv
                        rw [hVV]
                        clear hVV hVA VV VA hW W
                        exact V.to (hback (n + 1) (by omega) (by omega)) (by (repeat' first | exact trivial | rfl | (refine And.intro ?_ ?_) | (refine sti ?_; (first | rfl | omega | (simp (disch := omega) only [hS.glob, wraps, plain, Int.ofNat_eq_natCast]; first | done | rfl | omega | (simp; done) | (simp; omega)) | (simp (disch := omega) only [hS.glob, wraps, plain, Int.ofNat_eq_natCast, Vx.toN]; omega))) | (refine slq ?_ ?_ ?_ <;> (first | rfl | omega | (simp (disch := omega) only [hS.glob, wraps, plain, Int.ofNat_eq_natCast]; first | done | rfl | omega | (simp; done) | (simp; omega)) | (simp (disch := omega) only [hS.glob, wraps, plain, Int.ofNat_eq_natCast, Vx.toN]; omega))) | (refine ptq ?_ ?_ ?_ <;> (first | rfl | omega | (simp (disch := omega) only [hS.glob, wraps, plain, Int.ofNat_eq_natCast]; first | done | rfl | omega | (simp; done) | (simp; omega)) | (simp (disch := omega) only [hS.glob, wraps, plain, Int.ofNat_eq_natCast, Vx.toN]; omega))) | (refine blq ?_; (first | rfl | omega | (simp (disch := omega) only [hS.glob, wraps, plain, Int.ofNat_eq_natCast]; first | done | rfl | omega | (simp; done) | (simp; omega)) | (simp (disch := omega) only [hS.glob, wraps, plain, Int.ofNat_eq_natCast, Vx.toN]; omega))))) rfl (by (repeat' first | exact trivial | rfl | exact Nat.le_refl _ | exact (fun _ _ => rfl) | (refine And.intro ?_ ?_) | (simp only [hS.glob, plain]; first | done | omega))) (by rw [hC]; exact Nat.zero_le _)
                      · conv => cbv
                        repeat (refine ⟨by first | (rw [hW]; show ordOk _ _ _ = true; kernel_rfl) | (first | trivial | omega | (simp (disch := omega) only [hS.glob, wraps, plain, Int.ofNat_eq_natCast]; first | done | omega | trivial | (simp; done) | (simp; omega) | (constructor <;> omega)) | (simp (disch := omega) only [hS.glob, wraps, plain, Int.ofNat_eq_natCast, Vx.toN]; omega)), ?_⟩)
                        simp only [hS.tidy]
                        cases j4 : ine (x n) 1
                        · conv => cbv
                          rw [hVV]
                          clear hVV hVA VV VA hW W
                          exact V.to (hback (n + 1) (by omega) (by omega)) (by (repeat' first | exact trivial | rfl | (refine And.intro ?_ ?_) | (refine sti ?_; (first | rfl | omega | (simp (disch := omega) only [hS.glob, wraps, plain, Int.ofNat_eq_natCast]; first | done | rfl | omega | (simp; done) | (simp; omega)) | (simp (disch := omega) only [hS.glob, wraps, plain, Int.ofNat_eq_natCast, Vx.toN]; omega))) | (refine slq ?_ ?_ ?_ <;> (first | rfl | omega | (simp (disch := omega) only [hS.glob, wraps, plain, Int.ofNat_eq_natCast]; first | done | rfl | omega | (simp; done) | (simp; omega)) | (simp (disch := omega) only [hS.glob, wraps, plain, Int.ofNat_eq_natCast, Vx.toN]; omega))) | (refine ptq ?_ ?_ ?_ <;> (first | rfl | omega | (simp (disch := omega) only [hS.glob, wraps, plain, Int.ofNat_eq_natCast]; first | done | rfl | omega | (simp; done) | (simp; omega)) | (simp (disch := omega) only [hS.glob, wraps, plain, Int.ofNat_eq_natCast, Vx.toN]; omega))) | (refine blq ?_; (first | rfl | omega | (simp (disch := omega) only [hS.glob, wraps, plain, Int.ofNat_eq_natCast]; first | done | rfl | omega | (simp; done) | (simp; omega)) | (simp (disch := omega) only [hS.glob, wraps, plain, Int.ofNat_eq_natCast, Vx.toN]; omega))))) rfl (by (repeat' first | exact trivial | rfl | exact Nat.le_refl _ | exact (fun _ _ => rfl) | (refine And.intro ?_ ?_) | (simp only [hS.glob, plain]; first | done | omega))) (by rw [hC]; exact Nat.zero_le _)
                        · simp (disch := first | omega | (simp only [hS.glob, wraps, plain, Int.ofNat_eq_natCast]; omega)) only [hS.glob, wraps, plain, Int.ofNat_eq_natCast] at j3 j4
                          omega
                    · simp (disch := first | omega | (simp only [hS.glob, wraps, plain, Int.ofNat_eq_natCast]; omega)) only [hS.glob, wraps, plain, Int.ofNat_eq_natCast] at j1 j2
                      exact absurd (hlaw2 j2 (fun k hk => hin2 j1 k hk (by omega))) hxl
          · conv => cbv
            simp (disch := first | omega | (simp only [hS.glob, wraps, plain, Int.ofNat_eq_natCast]; omega)) only [hS.glob, wraps, plain, Int.ofNat_eq_natCast] at h9
            have hi2 : i < ps.length := by omega
            obtain ⟨q1, q2, q3, q4⟩ := pairAt hps i hi2 a b htab
            have law := law1 i hi2
            obtain ⟨o, ho⟩ : ∃ o, o = ps[i].1 := ⟨_, rfl⟩
            obtain ⟨e, he⟩ : ∃ e, e = ps[i].2 := ⟨_, rfl⟩
            rw [← ho] at q1 q3 law
            rw [← he] at q1 q2 q4 law
            have x1 : a i = ofN o := by simp (disch := first | omega | (simp only [hS.glob, wraps, plain, Int.ofNat_eq_natCast]; omega)) only [hS.glob, wraps, plain, Int.ofNat_eq_natCast]; exact q3
            have x2 : b i = ofN e := by simp (disch := first | omega | (simp only [hS.glob, wraps, plain, Int.ofNat_eq_natCast]; omega)) only [hS.glob, wraps, plain, Int.ofNat_eq_natCast]; exact q4
            repeat (refine ⟨by first | (rw [hW]; show ordOk _ _ _ = true; kernel_rfl) | (first | trivial | omega | (simp (disch := omega) only [hS.glob, wraps, plain, Int.ofNat_eq_natCast]; first | done | omega | trivial | (simp; done) | (simp; omega) | (constructor <;> omega)) | (simp (disch := omega) only [hS.glob, wraps, plain, Int.ofNat_eq_natCast, Vx.toN]; omega)), ?_⟩)
            simp only [hS.tidy, x1, x2]
            repeat (refine ⟨by first | (rw [hW]; show ordOk _ _ _ = true; kernel_rfl) | (first | trivial | omega | (simp (disch := omega) only [hS.glob, wraps, plain, Int.ofNat_eq_natCast]; first | done | omega | trivial | (simp; done) | (simp; omega) | (constructor <;> omega)) | (simp (disch := omega) only [hS.glob, wraps, plain, Int.ofNat_eq_natCast, Vx.toN]; omega)), ?_⟩)
            try simp only [hS.tidy, x1, x2]
            obtain ⟨n1, hn1⟩ : ∃ n1 : Nat → Int, ∀ j, n1 j = if j = o then 1 else inn j := ⟨_, fun _ => rfl⟩
            obtain ⟨n2, hn2⟩ : ∃ n2 : Nat → Int, ∀ j, n2 j = if j = e then 1 else n1 j := ⟨_, fun _ => rfl⟩
            have hnew : ∀ j, n2 j = 0 → ∀ k (h : k < ps.length), k < i + 1 → ps[k].1 ≠ j ∧ ps[k].2 ≠ j := by
              intro j hj k hk hki
              rw [hn2, hn1] at hj
              split at hj
              · omega
              split at hj
              · omega
              rcases Nat.lt_succ_iff_lt_or_eq.1 hki with h | rfl
              · exact hin j hj k hk h
              · rw [← ho, ← he]; omega
            cases h1 : ieq (came o) 8
            · conv => cbv
              simp (disch := first | omega | (simp only [hS.glob, wraps, plain, Int.ofNat_eq_natCast]; omega)) only [hS.glob, wraps, plain, Int.ofNat_eq_natCast] at h1
              repeat (refine ⟨by first | (rw [hW]; show ordOk _ _ _ = true; kernel_rfl) | (first | trivial | omega | (simp (disch := omega) only [hS.glob, wraps, plain, Int.ofNat_eq_natCast]; first | done | omega | trivial | (simp; done) | (simp; omega) | (constructor <;> omega)) | (simp (disch := omega) only [hS.glob, wraps, plain, Int.ofNat_eq_natCast, Vx.toN]; omega)), ?_⟩)
              try simp only [hS.tidy, x1, x2]
              repeat (refine ⟨by first | (rw [hW]; show ordOk _ _ _ = true; kernel_rfl) | (first | trivial | omega | (simp (disch := omega) only [hS.glob, wraps, plain, Int.ofNat_eq_natCast]; first | done | omega | trivial | (simp; done) | (simp; omega) | (constructor <;> omega)) | (simp (disch := omega) only [hS.glob, wraps, plain, Int.ofNat_eq_natCast, Vx.toN]; omega)), ?_⟩)
              try simp only [hS.tidy, x1, x2]
              cases h2 : ieq (came e) 8
              · conv => cbv
                simp (disch := first | omega | (simp only [hS.glob, wraps, plain, Int.ofNat_eq_natCast]; omega)) only [hS.glob, wraps, plain, Int.ofNat_eq_natCast] at h2
                have law' := law h1 h2
                repeat (refine ⟨by first | (rw [hW]; show ordOk _ _ _ = true; kernel_rfl) | (first | trivial | omega | (simp (disch := omega) only [hS.glob, wraps, plain, Int.ofNat_eq_natCast]; first | done | omega | trivial | (simp; done) | (simp; omega) | (constructor <;> omega)) | (simp (disch := omega) only [hS.glob, wraps, plain, Int.ofNat_eq_natCast, Vx.toN]; omega)), ?_⟩)
                try simp only [hS.tidy, x1, x2]
                repeat (refine ⟨by first | (rw [hW]; show ordOk _ _ _ = true; kernel_rfl) | (first | trivial | omega | (simp (disch := omega) only [hS.glob, wraps, plain, Int.ofNat_eq_natCast]; first | done | omega | trivial | (simp; done) | (simp; omega) | (constructor <;> omega)) | (simp (disch := omega) only [hS.glob, wraps, plain, Int.ofNat_eq_natCast, Vx.toN]; omega)), ?_⟩)
                try simp only [hS.tidy, x1, x2]
                have e4 : ine (x o) (x e) = false := by simp (disch := first | omega | (simp only [hS.glob, wraps, plain, Int.ofNat_eq_natCast]; omega)) only [hS.glob, wraps, plain, Int.ofNat_eq_natCast]; exact law'
                simp only [e4]
                conv => cbv
                rw [hVV]
                clear hVV hVA VV VA hW W
                exact V.to (hback (i + 1, n2) ⟨by simp only; omega, hnew⟩ (by simp only; omega)) (by (repeat' first | exact trivial | rfl | (refine And.intro ?_ ?_) | (refine sti ?_; (first | rfl | omega | (simp (disch := omega) only [hS.glob, wraps, plain, Int.ofNat_eq_natCast]; first | done | rfl | omega | (simp; done) | (simp; omega)) | (simp (disch := omega) only [hS.glob, wraps, plain, Int.ofNat_eq_natCast, Vx.toN]; omega))) | (refine slq ?_ ?_ ?_ <;> (first | rfl | omega | (simp (disch := omega) only [hS.glob, wraps, plain, Int.ofNat_eq_natCast]; first | done | rfl | omega | (simp; done) | (simp; omega)) | (simp (disch := omega) only [hS.glob, wraps, plain, Int.ofNat_eq_natCast, Vx.toN]; omega))) | (refine ptq ?_ ?_ ?_ <;> (first | rfl | omega | (simp (disch := omega) only [hS.glob, wraps, plain, Int.ofNat_eq_natCast]; first | done | rfl | omega | (simp; done) | (simp; omega)) | (simp (disch := omega) only [hS.glob, wraps, plain, Int.ofNat_eq_natCast, Vx.toN]; omega))) | (refine blq ?_; (first | rfl | omega | (simp (disch := omega) only [hS.glob, wraps, plain, Int.ofNat_eq_natCast]; first | done | rfl | omega | (simp; done) | (simp; omega)) | (simp (disch := omega) only [hS.glob, wraps, plain, Int.ofNat_eq_natCast, Vx.toN]; omega))))) rfl ⟨⟨rfl, rfl, rfl, rfl⟩, ⟨rfl, rfl, ⟨Nat.le_refl _, fun _ _ => rfl⟩, rfl⟩, ⟨rfl, rfl, ⟨Nat.le_refl _, fun j _ => leafS2 (by simp [hS.glob]) inn n1 n2 o e hn1 hn2 j⟩, rfl⟩, trivial⟩ (by rw [hC]; exact Nat.zero_le _)
              · conv => cbv
                simp (disch := first | omega | (simp only [hS.glob, wraps, plain, Int.ofNat_eq_natCast]; omega)) only [hS.glob, wraps, plain, Int.ofNat_eq_natCast] at h2
                rw [hVV]
                clear hVV hVA VV VA hW W
                exact V.to (hback (i + 1, n2) ⟨by simp only; omega, hnew⟩ (by simp only; omega)) (by (repeat' first | exact trivial | rfl | (refine And.intro ?_ ?_) | (refine sti ?_; (first | rfl | omega | (simp (disch := omega) only [hS.glob, wraps, plain, Int.ofNat_eq_natCast]; first | done | rfl | omega | (simp; done) | (simp; omega)) | (simp (disch := omega) only [hS.glob, wraps, plain, Int.ofNat_eq_natCast, Vx.toN]; omega))) | (refine slq ?_ ?_ ?_ <;> (first | rfl | omega | (simp (disch := omega) only [hS.glob, wraps, plain, Int.ofNat_eq_natCast]; first | done | rfl | omega | (simp; done) | (simp; omega)) | (simp (disch := omega) only [hS.glob, wraps, plain, Int.ofNat_eq_natCast, Vx.toN]; omega))) | (refine ptq ?_ ?_ ?_ <;> (first | rfl | omega | (simp (disch := omega) only [hS.glob, wraps, plain, Int.ofNat_eq_natCast]; first | done | rfl | omega | (simp; done) | (simp; omega)) | (simp (disch := omega) only [hS.glob, wraps, plain, Int.ofNat_eq_natCast, Vx.toN]; omega))) | (refine blq ?_; (first | rfl | omega | (simp (disch := omega) only [hS.glob, wraps, plain, Int.ofNat_eq_natCast]; first | done | rfl | omega | (simp; done) | (simp; omega)) | (simp (disch := omega) only [hS.glob, wraps, plain, Int.ofNat_eq_natCast, Vx.toN]; omega))))) rfl ⟨⟨rfl, rfl, rfl, rfl⟩, ⟨rfl, rfl, ⟨Nat.le_refl _, fun _ _ => rfl⟩, rfl⟩, ⟨rfl, rfl, ⟨Nat.le_refl _, fun j _ => leafS2 (by simp [hS.glob]) inn n1 n2 o e hn1 hn2 j⟩, rfl⟩, trivial⟩ (by rw [hC]; exact Nat.zero_le _)
            · conv => cbv
              simp (disch := first | omega | (simp only [hS.glob, wraps, plain, Int.ofNat_eq_natCast]; omega)) only [hS.glob, wraps, plain, Int.ofNat_eq_natCast] at h1
              repeat (refine ⟨by first | (rw [hW]; show ordOk _ _ _ = true; kernel_rfl) | (first | trivial | omega | (simp (disch := omega) only [hS.glob, wraps, plain, Int.ofNat_eq_natCast]; first | done | omega | trivial | (simp; done) | (simp; omega) | (constructor <;> omega)) | (simp (disch := omega) only [hS.glob, wraps, plain, Int.ofNat_eq_natCast, Vx.toN]; omega)), ?_⟩)
              rw [hVV]
              clear hVV hVA VV VA hW W
              exact V.to (hback (i + 1, n2) ⟨by simp only; omega, hnew⟩ (by simp only; omega)) (by (repeat' first | exact trivial | rfl | (refine And.intro ?_ ?_) | (refine sti ?_; (first | rfl | omega | (simp (disch := omega) only [hS.glob, wraps, plain, Int.ofNat_eq_natCast]; first | done | rfl | omega | (simp; done) | (simp; omega)) | (simp (disch := omega) only [hS.glob, wraps, plain, Int.ofNat_eq_natCast, Vx.toN]; omega))) | (refine slq ?_ ?_ ?_ <;> (first | rfl | omega | (simp (disch := omega) only [hS.glob, wraps, plain, Int.ofNat_eq_natCast]; first | done | rfl | omega | (simp; done) | (simp; omega)) | (simp (disch := omega) only [hS.glob, wraps, plain, Int.ofNat_eq_natCast, Vx.toN]; omega))) | (refine ptq ?_ ?_ ?_ <;> (first | rfl | omega | (simp (disch := omega) only [hS.glob, wraps, plain, Int.ofNat_eq_natCast]; first | done | rfl | omega | (simp; done) | (simp; omega)) | (simp (disch := omega) only [hS.glob, wraps, plain, Int.ofNat_eq_natCast, Vx.toN]; omega))) | (refine blq ?_; (first | rfl | omega | (simp (disch := omega) only [hS.glob, wraps, plain, Int.ofNat_eq_natCast]; first | done | rfl | omega | (simp; done) | (simp; omega)) | (simp (disch := omega) only [hS.glob, wraps, plain, Int.ofNat_eq_natCast, Vx.toN]; omega))))) rfl ⟨⟨rfl, rfl, rfl, rfl⟩, ⟨rfl, rfl, ⟨Nat.le_refl _, fun _ _ => rfl⟩, rfl⟩, ⟨rfl, rfl, ⟨Nat.le_refl _, fun j _ => leafS2 (by simp [hS.glob]) inn n1 n2 o e hn1 hn2 j⟩, rfl⟩, trivial⟩ (by rw [hC]; exact Nat.zero_le _)
        · conv => cbv
          rw [hVV]
          clear hVV hVA VV VA hW W
          refine V.call rfl rfl rfl rfl rfl Try.func8 rfl (by decide) [] (by simp) (by simp) (by (first | rfl | ((conv => cbv); (repeat' apply And.intro) <;> first | rfl | trivial | (first | rfl | omega | (simp (disch := omega) only [hS.glob, wraps, plain, Int.ofNat_eq_natCast]; first | done | rfl | omega | (simp; done) | (simp; omega)) | (simp (disch := omega) only [hS.glob, wraps, plain, Int.ofNat_eq_natCast, Vx.toN]; omega))))) rfl h8 ?_
          rintro r Hc ⟨rfl, rfl⟩
          refine V.goF (by first | exact trivial | assumption) Try.func6 tl_ok mixed hS.ops [] 400 ?_
          intro VV VA W hVV hVA hW
          conv => cbv
          trivial
      · conv => cbv
        rw [hVV]
        clear hVV hVA VV VA hW W
        refine V.call rfl rfl rfl rfl rfl Try.func8 rfl (by decide) [] (by simp) (by simp) (by (first | rfl | ((conv => cbv); (repeat' apply And.intro) <;> first | rfl | trivial | (first | rfl | omega | (simp (disch := omega) only [hS.glob, wraps, plain, Int.ofNat_eq_natCast]; first | done | rfl | omega | (simp; done) | (simp; omega)) | (simp (disch := omega) only [hS.glob, wraps, plain, Int.ofNat_eq_natCast, Vx.toN]; omega))))) rfl h8 ?_
        rintro r Hc ⟨rfl, rfl⟩
        refine V.goF (by first | exact trivial | assumption) Try.func6 tl_ok mixed hS.ops [] 400 ?_
        intro VV VA W hVV hVA hW
        conv => cbv
        trivial
theorem f6_ok (cn ln mn : Nat) (came l kd id : Nat → Int) (level first : Int) (m0 : cn ≤ 17592186044416) (m1 : ln ≤ 17592186044416) (m2 : mn ≤ 8796093022208) : FSpec Try.prog 6 [.agg [.rows 1 cn (icol .i64 came), .rows 1 ln (icol .i64 l), .int .i64 level, .int .i64 first], .rows 2 mn (icol2 kd id)] [] (fun r H' => r = .bool true ∧ H' = []) := by
  refine (f6_ok1 cn ln mn came l kd id level first m0 m1 m2).weaken ?_
  rintro r H' rfl
  exact ⟨[], by cases H' <;> simp [heapCov], rfl, Nat.le_refl _, rfl, rfl⟩
end Go.Proofs.Ytcoanfhjgmndcaa
