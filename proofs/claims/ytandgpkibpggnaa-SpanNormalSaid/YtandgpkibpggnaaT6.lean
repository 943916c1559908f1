/- Contracts of functions by an evaluator of the model: its part T6. -/
import Derived.Test.YtandgpkibpggnaaT5
import Derived.Test.YtandgpkibpggnaaV3
set_option linter.all false
/- Spans as short as may be: the plain part. -/
namespace Go.Proofs.Ytandgpkibpggnaa
open Go Vx
/-- A span joins the one ahead of it. -/
def joinS (t s : Sp) : Prop := t.to = s.fr ∧ bareS t = bareS s ∧ s.co = false ∧ s.ru.size = 0
noncomputable def nstep (acc : List Sp) (s : Sp) : List Sp := open Classical in
  if bareS s = noSp then acc else
    match acc.getLast? with
    | none => acc ++ [s]
    | some t => if joinS t s then acc.dropLast ++ [{ t with to := s.to }] else acc ++ [s]
noncomputable def normU (n : Nat) (g : Nat → Sp) : List Sp := (tab n g).foldl nstep []
theorem normU_succ (n : Nat) (g : Nat → Sp) : normU (n + 1) g = nstep (normU n g) (g n) := by
  unfold normU
  rw [tab_snoc (f := g) rfl (fun _ _ => rfl) rfl, List.foldl_append]
  rfl
theorem nstep_len (acc : List Sp) (s : Sp) : (nstep acc s).length ≤ acc.length + 1 := by
  unfold nstep
  split
  · omega
  · split
    · simp
    · split
      · rename_i t ht _
        have hne : acc ≠ [] := by intro e; rw [e] at ht; cases ht
        have : 0 < acc.length := List.length_pos_iff.2 hne
        simp only [List.length_append, List.length_dropLast, List.length_singleton]
        omega
      · simp
theorem normU_len (n : Nat) (g : Nat → Sp) : (normU n g).length ≤ n := by
  induction n with
  | zero => simp [normU, tab]
  | succ n ih => rw [normU_succ]; have := nstep_len (normU n g) (g n); omega
/-- What one more span leaves, told by a function. -/
theorem nstep_tab (m : Nat) (h : Nat → Sp) (s : Sp) : (bareS s = noSp → nstep (tab m h) s = tab m h) ∧
    (bareS s ≠ noSp → (m = 0 ∨ ¬ joinS (h (m - 1)) s) → ∀ h' : Nat → Sp, (∀ j, j < m → h' j = h j) → h' m = s → nstep (tab m h) s = tab (m + 1) h') ∧
    (bareS s ≠ noSp → 0 < m → joinS (h (m - 1)) s → ∀ h' : Nat → Sp, (∀ j, j < m - 1 → h' j = h j) → h' (m - 1) = { h (m - 1) with to := s.to } → nstep (tab m h) s = tab m h') := by
  refine ⟨fun h1 => by unfold nstep; rw [if_pos h1], fun h1 h2 h' e1 e2 => ?_, fun h1 h2 h3 h' e1 e2 => ?_⟩
  · unfold nstep
    rw [if_neg h1, tab_snoc (f := h) (g := h') rfl e1 e2]
    cases m with
    | zero => rfl
    | succ m =>
      rw [tab_snoc (f := h) (n := m) rfl (fun _ _ => rfl) rfl, List.getLast?_concat]
      simp only
      rw [if_neg]
      rcases h2 with h2 | h2
      · omega
      · exact h2
  · unfold nstep
    obtain ⟨q, rfl⟩ : ∃ q, m = q + 1 := ⟨m - 1, by omega⟩
    simp only [Nat.add_sub_cancel] at h3 e1 e2
    rw [if_neg h1, tab_snoc (f := h) (n := q) rfl (fun _ _ => rfl) rfl, List.getLast?_concat]
    simp only
    rw [if_pos h3, List.dropLast_concat, tab_snoc (f := h) (g := h') (n := q) rfl e1 e2]
end Go.Proofs.Ytandgpkibpggnaa

/- Spans as short as may be, by the program. -/
namespace Go.Proofs.Ytandgpkibpggnaa
open Go Vx
theorem f14_ok (n : Nat) (hn : n ≤ 1000000) (g : Nat → Sp) (N : List Sp) (hN : N = normU n g) : FSpec Try.prog 14 [.rows 6 n (spc g)] [] (fun r H' => ∃ m h, N = tab m h ∧ r = .sl 0 0 m ∧ H' = [some ⟨27, 6, .arr m (spc h)⟩]) := by
  obtain ⟨Q, hQ⟩ : ∃ Q : AV → Hp → Prop, Q = (fun r H' => ∃ m h, N = tab m h ∧ r = .sl 0 0 m ∧ H' = [some ⟨27, 6, .arr m (spc h)⟩]) := ⟨_, rfl⟩
  rw [← hQ]
  refine FSpec.of (fn := Try.f14) Try.func14 rfl rfl (by simp) fun C hC => ?_
  obtain ⟨iadd, isub, imul, iquo, irem, iband, ibor, ibxor, ibandn, ishl, ishr, iconv, ieq, ine, ilt, ile, igt, ige, bbeq, bbne, bnot, bband, sseq, ssne, sscat, sssub, sslen, sssz, ssbyte, toN, ofN, addN, subN, eqN, ltB, leN, imx, imn, inb, leb, sslt, ltN, fit, ne0, ge0, ssfit, minN, inR, bcol, bstr, isBy, hS⟩ := names
  refine V.goF (by first | exact trivial | assumption) Try.func14 tl_ok mixed hS.ops [] 400 ?_
  intro VV VA W hVV hVA hW
  conv => cbv
  rw [hVV]
  clear hVV hVA VV VA hW W
  refine V.phantom 3 27 6 (spc (fun _ => noSp)) rfl ?_
  refine V.to (s' := [(10, .int .i64 (ofN 0)), (3, .sl 0 0 0), (8, .rows 6 n (spc g)), (9, .int .i64 (ofN n)), (0, .rows 6 n (spc g))]) (H' := [some ⟨27, 6, .arr 0 (spc (fun _ => noSp))⟩]) ?_ (by (repeat' first | exact trivial | rfl | (refine And.intro ?_ ?_) | (refine sti ?_; (first | rfl | omega | (simp (disch := omega) only [hS.glob, wraps, plain, Int.ofNat_eq_natCast]; first | done | rfl | omega | (simp; done) | (simp; omega)) | (simp (disch := omega) only [hS.glob, wraps, plain, Int.ofNat_eq_natCast, Vx.toN]; omega))) | (refine slq ?_ ?_ ?_ <;> (first | rfl | omega | (simp (disch := omega) only [hS.glob, wraps, plain, Int.ofNat_eq_natCast]; first | done | rfl | omega | (simp; done) | (simp; omega)) | (simp (disch := omega) only [hS.glob, wraps, plain, Int.ofNat_eq_natCast, Vx.toN]; omega))) | (refine ptq ?_ ?_ ?_ <;> (first | rfl | omega | (simp (disch := omega) only [hS.glob, wraps, plain, Int.ofNat_eq_natCast]; first | done | rfl | omega | (simp; done) | (simp; omega)) | (simp (disch := omega) only [hS.glob, wraps, plain, Int.ofNat_eq_natCast, Vx.toN]; omega))) | (refine blq ?_; (first | rfl | omega | (simp (disch := omega) only [hS.glob, wraps, plain, Int.ofNat_eq_natCast]; first | done | rfl | omega | (simp; done) | (simp; omega)) | (simp (disch := omega) only [hS.glob, wraps, plain, Int.ofNat_eq_natCast, Vx.toN]; omega))))) rfl (by (repeat' first | exact trivial | rfl | exact Nat.le_refl _ | exact (fun _ _ => rfl) | (refine And.intro ?_ ?_) | (simp only [hS.glob, plain]; first | done | omega))) (by rw [hC]; simp)
  refine V.loop (γ := Nat × Nat × (Nat → Sp)) (fun p => p.1 ≤ n ∧ p.2.1 ≤ p.1 ∧ normU p.1 g = tab p.2.1 p.2.2) (fun p => [(10, .int .i64 (ofN p.1)), (3, .sl 0 0 p.2.1), (8, .rows 6 n (spc g)), (9, .int .i64 (ofN n)), (0, .rows 6 n (spc g))]) (fun p => [some ⟨27, 6, .arr p.2.1 (spc p.2.2)⟩]) (fun p => n - p.1) ?_ (0, 0, fun _ => noSp) ⟨Nat.zero_le _, Nat.le_refl _, rfl⟩
  rintro ⟨i, m, h⟩ ⟨hi, hm, hu⟩ hback
  dsimp only at hi hm hu hback ⊢
  refine V.goF (by first | exact trivial | assumption) Try.func14 tl_ok mixed hS.ops [(6, .none)] 400 ?_
  intro VV VA W hVV hVA hW
  conv => cbv
  cases h1 : ilt (ofN i) (ofN n)
  · conv => cbv
    simp (disch := first | omega | (simp only [hS.glob, wraps, plain, Int.ofNat_eq_natCast]; omega)) only [hS.glob, wraps, plain, Int.ofNat_eq_natCast] at h1
    obtain rfl : i = n := by omega
    rw [hQ]
    exact ⟨m, h, by rw [hN, hu], rfl, rfl⟩
  · conv => cbv
    simp (disch := first | omega | (simp only [hS.glob, wraps, plain, Int.ofNat_eq_natCast]; omega)) only [hS.glob, wraps, plain, Int.ofNat_eq_natCast] at h1
    repeat (refine ⟨by first | (rw [hW]; show ordOk _ _ _ = true; kernel_rfl) | (first | trivial | omega | (simp (disch := omega) only [hS.glob, wraps, plain, Int.ofNat_eq_natCast]; first | done | omega | trivial | (simp; done) | (simp; omega) | (constructor <;> omega)) | (simp (disch := omega) only [hS.glob, wraps, plain, Int.ofNat_eq_natCast, Vx.toN]; omega)), ?_⟩)
    simp only [hS.tidy]
    rcases hgi : g i with ⟨a, b, p, d, u, x⟩
    dsimp only
    obtain ⟨z, hz⟩ : ∃ z, z = (m : Int) - 1 := ⟨_, rfl⟩
    have e1 : isub .i64 (ofN m) 1 = z := by rw [hz]; (first | rfl | omega | (simp (disch := omega) only [hS.glob, wraps, plain, Int.ofNat_eq_natCast]; first | done | rfl | omega | (simp; done) | (simp; omega)) | (simp (disch := omega) only [hS.glob, wraps, plain, Int.ofNat_eq_natCast, Vx.toN]; omega))
    simp only [e1]
    rw [hVV]
    clear hVV hVA VV VA hW W
    obtain ⟨J, hJ⟩ := bool_of (0 < m ∧ joinS (h (m - 1)) (⟨a, b, p, d, u, x⟩ : Sp))
    refine V.drawnK tl_ok mixed (.one 0 .none (.one 1 .none (.one 2 .none (.one 3 .none (.one 4 .none (.one 5 .none (.one 6 .none (.one 7 .none (.one 8 .none (.one 9 .none (.one 10 .none (.one 11 .none (.one 12 .none (.one 13 .none (.one 14 .none (.one 15 .none (.one 16 .none (.alt 17 (.one 18 .none (.one 19 .none (.one 20 .none (.one 21 .none (.one 22 .none (.one 23 .none (.one 24 .none (.one 25 .none (.one 26 .none (.one 27 .none (.one 28 .none (.one 29 .none (.one 30 .none (.one 31 .none (.one 32 .none .done))))))))))))))) (.alt 18 (.one 17 .none (.one 19 .none (.one 20 .none (.one 21 .none (.one 22 .none (.one 23 .none (.one 24 .none (.one 25 .none (.one 26 .none (.one 27 .none (.one 28 .none (.one 29 .none (.one 30 .none (.one 31 .none (.one 32 .none .done))))))))))))))) .none))))))))))))))))))) (fun s H => covers s [(7, .bool J), (6, .int .i64 z), (5, .ptr 1 0 0), (10, .int .i64 (ofN i)), (3, .sl 0 0 m), (8, .rows 6 n (spc g)), (9, .int .i64 (ofN n)), (0, .rows 6 n (spc g))] ∧ H = [some ⟨27, 6, .arr m (spc h)⟩, some ⟨27, 6, .lit [[.int .i64 a, .int .i64 b, .int .i64 p, .bool d, .str u, .int .u64 x]]⟩]) (by kernel_rfl) ?_ ?_
    · refine AnyT.goK tl_ok hS.ops ?_
      intro KK VA hKK hVA
      conv => cbv
      cases h2 : ige z 0
      · conv => cbv
        simp (disch := first | omega | (simp only [hS.glob, wraps, plain, Int.ofNat_eq_natCast]; omega)) only [hS.glob, wraps, plain, Int.ofNat_eq_natCast] at h2
        have hj0 : J = false := by
          cases J
          · rfl
          · have := (hJ.1 rfl).1; omega
        repeat' apply And.intro
        all_goals first | trivial | (rw [hKK]; exact ⟨⟨blq hj0.symm, rfl, rfl, rfl, rfl, rfl, rfl, rfl, trivial⟩, rfl⟩)
      · conv => cbv
        simp (disch := first | omega | (simp only [hS.glob, wraps, plain, Int.ofNat_eq_natCast]; omega)) only [hS.glob, wraps, plain, Int.ofNat_eq_natCast] at h2
        obtain ⟨q, hq⟩ : ∃ q, q = m - 1 := ⟨_, rfl⟩
        rw [← hq] at hJ
        have ez : toN z = q := by simp only [hS.glob, Vx.toN]; omega
        simp only [ez, hS.tidy]
        repeat (refine ⟨by first | (rw [hW]; show ordOk _ _ _ = true; kernel_rfl) | (first | trivial | omega | (simp (disch := omega) only [hS.glob, wraps, plain, Int.ofNat_eq_natCast]; first | done | omega | trivial | (simp; done) | (simp; omega) | (constructor <;> omega)) | (simp (disch := omega) only [hS.glob, wraps, plain, Int.ofNat_eq_natCast, Vx.toN]; omega)), ?_⟩)
        have leaf0 : ¬ joinS (h q) (⟨a, b, p, d, u, x⟩ : Sp) → false = J := fun hx => by
          cases J
          · rfl
          · exact absurd (hJ.1 rfl).2 hx
        cases h3 : ieq (h q).to a
        · conv => cbv
          simp (disch := first | omega | (simp only [hS.glob, wraps, plain, Int.ofNat_eq_natCast]; omega)) only [hS.glob, wraps, plain, Int.ofNat_eq_natCast] at h3
          have hj0 := leaf0 (fun hx => h3 hx.1)
          repeat' apply And.intro
          all_goals first | trivial | (rw [hKK]; exact ⟨⟨blq hj0, rfl, rfl, rfl, rfl, rfl, rfl, rfl, trivial⟩, rfl⟩)
        · conv => cbv
          simp (disch := first | omega | (simp only [hS.glob, wraps, plain, Int.ofNat_eq_natCast]; omega)) only [hS.glob, wraps, plain, Int.ofNat_eq_natCast] at h3
          repeat (refine ⟨by first | (rw [hW]; show ordOk _ _ _ = true; kernel_rfl) | (first | trivial | omega | (simp (disch := omega) only [hS.glob, wraps, plain, Int.ofNat_eq_natCast]; first | done | omega | trivial | (simp; done) | (simp; omega) | (constructor <;> omega)) | (simp (disch := omega) only [hS.glob, wraps, plain, Int.ofNat_eq_natCast, Vx.toN]; omega)), ?_⟩)
          simp only [ez, hS.tidy]
          obtain ⟨B, hB⟩ := bool_of (bareS (h q) = bareS (⟨a, b, p, d, u, x⟩ : Sp))
          have eB : bband (ieq 0 0) (bband (ieq 0 0) (bband (ieq (h q).po p) (bband (bbeq (h q).co d) (bband (sseq (h q).ru u) (bband (ieq (h q).sc x) true))))) = B := by
            have key := sp_all (bareS (h q)) (bareS (⟨a, b, p, d, u, x⟩ : Sp))
            rw [← hB] at key
            simp only [hS.glob]
            exact Bool.eq_iff_iff.2 key
          refine ⟨?_, ?_⟩
          all_goals try (refine ⟨?_, trivial⟩)
          all_goals
            rw [hVA]
            clear hKK hVA KK VA
            refine AnyT.call rfl rfl rfl rfl rfl Try.func28 rfl (by decide) [] (by simp) (by simp) (by (first | rfl | ((conv => cbv); (repeat' apply And.intro) <;> first | rfl | trivial | (first | rfl | omega | (simp (disch := omega) only [hS.glob, wraps, plain, Int.ofNat_eq_natCast]; first | done | rfl | omega | (simp; done) | (simp; omega)) | (simp (disch := omega) only [hS.glob, wraps, plain, Int.ofNat_eq_natCast, Vx.toN]; omega))))) rfl (f28_ok (h q).fr (h q).to (h q).po (h q).co (h q).ru (h q).sc) ?_
            rintro r Hc ⟨rfl, rfl⟩
            refine AnyT.goK tl_ok hS.ops ?_
            intro KK VA hKK hVA
            conv => cbv
            rw [hVA]
            clear hKK hVA KK VA
            refine AnyT.call rfl rfl rfl rfl rfl Try.func28 rfl (by decide) [] (by simp) (by simp) (by (first | rfl | ((conv => cbv); (repeat' apply And.intro) <;> first | rfl | trivial | (first | rfl | omega | (simp (disch := omega) only [hS.glob, wraps, plain, Int.ofNat_eq_natCast]; first | done | rfl | omega | (simp; done) | (simp; omega)) | (simp (disch := omega) only [hS.glob, wraps, plain, Int.ofNat_eq_natCast, Vx.toN]; omega))))) rfl (f28_ok a b p d u x) ?_
            rintro r Hc ⟨rfl, rfl⟩
            refine AnyT.goK tl_ok hS.ops ?_
            intro KK VA hKK hVA
            conv => cbv
            simp only [eB]
            cases B
            · conv => cbv
              rw [hKK]
              have hj0 := leaf0 (fun hx => by have := hB.2 hx.2.1; cases this)
              exact ⟨⟨blq hj0, rfl, rfl, rfl, rfl, rfl, rfl, rfl, trivial⟩, rfl⟩
            · conv => cbv
              cases d
              · conv => cbv
                cases h5 : sseq u ⟨#[]⟩
                · conv => cbv
                  rw [hKK]
                  simp only [hS.glob] at h5
                  have hj0 := leaf0 (fun hx => by rw [(sseq_empty _).2 hx.2.2.2] at h5; cases h5)
                  exact ⟨⟨blq hj0, rfl, rfl, rfl, rfl, rfl, rfl, rfl, trivial⟩, rfl⟩
                · conv => cbv
                  rw [hKK]
                  simp only [hS.glob] at h5
                  have hj1 := hJ.2 ⟨by omega, h3, hB.1 rfl, rfl, (sseq_empty _).1 h5⟩
                  exact ⟨⟨blq hj1.symm, rfl, rfl, rfl, rfl, rfl, rfl, rfl, trivial⟩, rfl⟩
              · conv => cbv
                rw [hKK]
                have hj0 := leaf0 (fun hx => by have := hx.2.2.1; cases this)
                exact ⟨⟨blq hj0, rfl, rfl, rfl, rfl, rfl, rfl, rfl, trivial⟩, rfl⟩
    rintro s H ⟨hcov, rfl⟩
    refine V.to (s' := [(7, .bool J), (6, .int .i64 z), (5, .ptr 1 0 0), (10, .int .i64 (ofN i)), (3, .sl 0 0 m), (8, .rows 6 n (spc g)), (9, .int .i64 (ofN n)), (0, .rows 6 n (spc g))]) (H' := [some ⟨27, 6, .arr m (spc h)⟩, some ⟨27, 6, .lit [[.int .i64 a, .int .i64 b, .int .i64 p, .bool d, .str u, .int .u64 x]]⟩]) ?_ hcov rfl (by (repeat' first | exact trivial | rfl | exact Nat.le_refl _ | exact (fun _ _ => rfl) | (refine And.intro ?_ ?_) | (simp only [hS.glob, plain]; first | done | omega))) (by rw [hC]; simp)
    clear hcov
    refine V.goF (by first | exact trivial | assumption) Try.func14 tl_ok mixed hS.ops [] 400 ?_
    intro VV VA W hVV hVA hW
    conv => cbv
    rw [hVV]
    clear hVV hVA VV VA hW W
    obtain ⟨Z, hZ⟩ := bool_of (bareS (⟨a, b, p, d, u, x⟩ : Sp) = noSp)
    have eZ : bband (ieq 0 0) (bband (ieq 0 0) (bband (ieq p 0) (bband (bbeq d false) (bband (sseq u ⟨#[]⟩) (bband (ieq x 0) true))))) = Z := by
      have key := sp_all (bareS (⟨a, b, p, d, u, x⟩ : Sp)) noSp
      rw [← hZ] at key
      simp only [hS.glob]
      exact Bool.eq_iff_iff.2 key
    obtain ⟨n1, n2, n3⟩ := nstep_tab m h (⟨a, b, p, d, u, x⟩ : Sp)
    have hu2 : normU (i + 1) g = nstep (tab m h) (⟨a, b, p, d, u, x⟩ : Sp) := by rw [normU_succ, hu, hgi]
    refine V.call rfl rfl rfl rfl rfl Try.func28 rfl (by decide) [] (by simp) (by simp) (by (first | rfl | ((conv => cbv); (repeat' apply And.intro) <;> first | rfl | trivial | (first | rfl | omega | (simp (disch := omega) only [hS.glob, wraps, plain, Int.ofNat_eq_natCast]; first | done | rfl | omega | (simp; done) | (simp; omega)) | (simp (disch := omega) only [hS.glob, wraps, plain, Int.ofNat_eq_natCast, Vx.toN]; omega))))) rfl (f28_ok a b p d u x) ?_
    rintro r Hc ⟨rfl, rfl⟩
    refine V.goF (by first | exact trivial | assumption) Try.func14 tl_ok mixed hS.ops [] 400 ?_
    intro VV VA W hVV hVA hW
    conv => cbv
    simp only [eZ]
    cases Z
    case true =>
      conv => cbv
      rw [hVV]
      clear hVV hVA VV VA hW W
      exact V.to (hback (i + 1, m, h) ⟨by simp only; omega, by simp only; omega, by simp only; rw [hu2]; exact n1 (hZ.1 rfl)⟩ (by simp only; omega)) (by (repeat' first | exact trivial | rfl | (refine And.intro ?_ ?_) | (refine sti ?_; (first | rfl | omega | (simp (disch := omega) only [hS.glob, wraps, plain, Int.ofNat_eq_natCast]; first | done | rfl | omega | (simp; done) | (simp; omega)) | (simp (disch := omega) only [hS.glob, wraps, plain, Int.ofNat_eq_natCast, Vx.toN]; omega))) | (refine slq ?_ ?_ ?_ <;> (first | rfl | omega | (simp (disch := omega) only [hS.glob, wraps, plain, Int.ofNat_eq_natCast]; first | done | rfl | omega | (simp; done) | (simp; omega)) | (simp (disch := omega) only [hS.glob, wraps, plain, Int.ofNat_eq_natCast, Vx.toN]; omega))) | (refine ptq ?_ ?_ ?_ <;> (first | rfl | omega | (simp (disch := omega) only [hS.glob, wraps, plain, Int.ofNat_eq_natCast]; first | done | rfl | omega | (simp; done) | (simp; omega)) | (simp (disch := omega) only [hS.glob, wraps, plain, Int.ofNat_eq_natCast, Vx.toN]; omega))) | (refine blq ?_; (first | rfl | omega | (simp (disch := omega) only [hS.glob, wraps, plain, Int.ofNat_eq_natCast]; first | done | rfl | omega | (simp; done) | (simp; omega)) | (simp (disch := omega) only [hS.glob, wraps, plain, Int.ofNat_eq_natCast, Vx.toN]; omega))))) rfl ⟨⟨rfl, rfl, ⟨Nat.le_refl _, fun _ _ => rfl⟩, rfl⟩, trivial⟩ (by rw [hC]; simp)
    have hz0 : bareS (⟨a, b, p, d, u, x⟩ : Sp) ≠ noSp := fun h0 => by have := hZ.2 h0; cases this
    conv => cbv
    cases J
    · conv => cbv
      have hj : m = 0 ∨ ¬ joinS (h (m - 1)) (⟨a, b, p, d, u, x⟩ : Sp) := by
        rcases Nat.eq_zero_or_pos m with h0 | h0
        · exact .inl h0
        · exact .inr fun hx => by have := hJ.2 ⟨h0, hx⟩; cases this
      repeat (refine ⟨by first | (rw [hW]; show ordOk _ _ _ = true; kernel_rfl) | (first | trivial | omega | (simp (disch := omega) only [hS.glob, wraps, plain, Int.ofNat_eq_natCast]; first | done | omega | trivial | (simp; done) | (simp; omega) | (constructor <;> omega)) | (simp (disch := omega) only [hS.glob, wraps, plain, Int.ofNat_eq_natCast, Vx.toN]; omega)), ?_⟩)
      rw [hVV]
      clear hVV hVA VV VA hW W
      refine V.pick [3] (by decide) (by rw [hC]; exact begins_of rfl) (by rfl) (by rfl) ?_
      obtain ⟨h', e2, e3⟩ := snocF h m (⟨a, b, p, d, u, x⟩ : Sp)
      refine V.to (hback (i + 1, m + 1, h') ⟨by simp only; omega, by simp only; omega, by simp only; rw [hu2]; exact n2 hz0 hj h' e2 e3⟩ (by simp only; omega)) (by (repeat' first | exact trivial | rfl | (refine And.intro ?_ ?_) | (refine sti ?_; (first | rfl | omega | (simp (disch := omega) only [hS.glob, wraps, plain, Int.ofNat_eq_natCast]; first | done | rfl | omega | (simp; done) | (simp; omega)) | (simp (disch := omega) only [hS.glob, wraps, plain, Int.ofNat_eq_natCast, Vx.toN]; omega))) | (refine slq ?_ ?_ ?_ <;> (first | rfl | omega | (simp (disch := omega) only [hS.glob, wraps, plain, Int.ofNat_eq_natCast]; first | done | rfl | omega | (simp; done) | (simp; omega)) | (simp (disch := omega) only [hS.glob, wraps, plain, Int.ofNat_eq_natCast, Vx.toN]; omega))) | (refine ptq ?_ ?_ ?_ <;> (first | rfl | omega | (simp (disch := omega) only [hS.glob, wraps, plain, Int.ofNat_eq_natCast]; first | done | rfl | omega | (simp; done) | (simp; omega)) | (simp (disch := omega) only [hS.glob, wraps, plain, Int.ofNat_eq_natCast, Vx.toN]; omega))) | (refine blq ?_; (first | rfl | omega | (simp (disch := omega) only [hS.glob, wraps, plain, Int.ofNat_eq_natCast]; first | done | rfl | omega | (simp; done) | (simp; omega)) | (simp (disch := omega) only [hS.glob, wraps, plain, Int.ofNat_eq_natCast, Vx.toN]; omega))))) rfl ⟨⟨rfl, rfl, ⟨by show m + 1 ≤ addN m 1; (first | trivial | omega | (simp (disch := omega) only [hS.glob, wraps, plain, Int.ofNat_eq_natCast]; first | done | omega | trivial | (simp; done) | (simp; omega) | (constructor <;> omega)) | (simp (disch := omega) only [hS.glob, wraps, plain, Int.ofNat_eq_natCast, Vx.toN]; omega)), fun j hj => leafR (by simp [hS.glob]) (by simp [hS.glob]) _ (spc h) (spc h') m (fun j hj => by simp only [spc, e2 j hj]) (by simp only [spc, e3]) j hj⟩, rfl⟩, trivial⟩ (by rw [hC]; simp)
    · conv => cbv
      obtain ⟨hm0, hj⟩ := hJ.1 rfl
      obtain ⟨q, hq⟩ : ∃ q, q = m - 1 := ⟨_, rfl⟩
      have ez : toN z = q := by simp only [hS.glob, Vx.toN]; omega
      simp only [ez, hS.tidy]
      repeat (refine ⟨by first | (rw [hW]; show ordOk _ _ _ = true; kernel_rfl) | (first | trivial | omega | (simp (disch := omega) only [hS.glob, wraps, plain, Int.ofNat_eq_natCast]; first | done | omega | trivial | (simp; done) | (simp; omega) | (constructor <;> omega)) | (simp (disch := omega) only [hS.glob, wraps, plain, Int.ofNat_eq_natCast, Vx.toN]; omega)), ?_⟩)
      rw [hVV]
      clear hVV hVA VV VA hW W
      obtain ⟨h', e2⟩ : ∃ h' : Nat → Sp, ∀ j, h' j = if j = q then { h q with to := b } else h j := ⟨_, fun _ => rfl⟩
      rw [← hq] at hj n3
      refine V.to (hback (i + 1, m, h') ⟨by simp only; omega, by simp only; omega, by simp only; rw [hu2]; exact n3 hz0 hm0 hj h' (fun j h7 => by rw [e2, if_neg (by omega)]) (by rw [e2, if_pos rfl])⟩ (by simp only; omega)) (by (repeat' first | exact trivial | rfl | (refine And.intro ?_ ?_) | (refine sti ?_; (first | rfl | omega | (simp (disch := omega) only [hS.glob, wraps, plain, Int.ofNat_eq_natCast]; first | done | rfl | omega | (simp; done) | (simp; omega)) | (simp (disch := omega) only [hS.glob, wraps, plain, Int.ofNat_eq_natCast, Vx.toN]; omega))) | (refine slq ?_ ?_ ?_ <;> (first | rfl | omega | (simp (disch := omega) only [hS.glob, wraps, plain, Int.ofNat_eq_natCast]; first | done | rfl | omega | (simp; done) | (simp; omega)) | (simp (disch := omega) only [hS.glob, wraps, plain, Int.ofNat_eq_natCast, Vx.toN]; omega))) | (refine ptq ?_ ?_ ?_ <;> (first | rfl | omega | (simp (disch := omega) only [hS.glob, wraps, plain, Int.ofNat_eq_natCast]; first | done | rfl | omega | (simp; done) | (simp; omega)) | (simp (disch := omega) only [hS.glob, wraps, plain, Int.ofNat_eq_natCast, Vx.toN]; omega))) | (refine blq ?_; (first | rfl | omega | (simp (disch := omega) only [hS.glob, wraps, plain, Int.ofNat_eq_natCast]; first | done | rfl | omega | (simp; done) | (simp; omega)) | (simp (disch := omega) only [hS.glob, wraps, plain, Int.ofNat_eq_natCast, Vx.toN]; omega))))) rfl ⟨⟨rfl, rfl, ⟨Nat.le_refl _, fun j h7 => ?_⟩, rfl⟩, trivial⟩ (by rw [hC]; simp)
      simp only [hS.glob]
      cases h8 : Vx.eqN j q
      · simp only [plain] at h8
        simp only [spc, e2, if_neg h8]
      · simp only [plain] at h8
        simp only [spc, e2, if_pos h8]
        subst h8
        rfl
end Go.Proofs.Ytandgpkibpggnaa

/- Spans as short as may be, by the document. -/
namespace Go.Proofs.Ytandgpkibpggnaa
open Go Vx
theorem f15_ok (n : Nat) (hn : n ≤ 1000000) (g : Nat → Sp) (N : List Sp) (hN : N = normU n g) : FSpec Try.prog 15 [.rows 6 n (spc g)] [] (fun r H' => ∃ m h, N = tab m h ∧ r = .sl 0 0 m ∧ H' = [some ⟨27, 6, .arr m (spc h)⟩]) := by
  obtain ⟨Q, hQ⟩ : ∃ Q : AV → Hp → Prop, Q = (fun r H' => ∃ m h, N = tab m h ∧ r = .sl 0 0 m ∧ H' = [some ⟨27, 6, .arr m (spc h)⟩]) := ⟨_, rfl⟩
  rw [← hQ]
  refine FSpec.of (fn := Try.f15) Try.func15 rfl rfl (by simp) fun C hC => ?_
  obtain ⟨iadd, isub, imul, iquo, irem, iband, ibor, ibxor, ibandn, ishl, ishr, iconv, ieq, ine, ilt, ile, igt, ige, bbeq, bbne, bnot, bband, sseq, ssne, sscat, sssub, sslen, sssz, ssbyte, toN, ofN, addN, subN, eqN, ltB, leN, imx, imn, inb, leb, sslt, ltN, fit, ne0, ge0, ssfit, minN, inR, bcol, bstr, isBy, hS⟩ := names
  refine V.goF (by first | exact trivial | assumption) Try.func15 tl_ok mixed hS.ops [] 400 ?_
  intro VV VA W hVV hVA hW
  conv => cbv
  rw [hVV]
  clear hVV hVA VV VA hW W
  refine V.phantom 3 27 6 (spc (fun _ => noSp)) rfl ?_
  refine V.to (s' := [(4, .int .i64 (ofN 0)), (3, .sl 0 0 0), (0, .rows 6 n (spc g))]) (H' := [some ⟨27, 6, .arr 0 (spc (fun _ => noSp))⟩]) ?_ (by (repeat' first | exact trivial | rfl | (refine And.intro ?_ ?_) | (refine sti ?_; (first | rfl | omega | (simp (disch := omega) only [hS.glob, wraps, plain, Int.ofNat_eq_natCast]; first | done | rfl | omega | (simp; done) | (simp; omega)) | (simp (disch := omega) only [hS.glob, wraps, plain, Int.ofNat_eq_natCast, Vx.toN]; omega))) | (refine slq ?_ ?_ ?_ <;> (first | rfl | omega | (simp (disch := omega) only [hS.glob, wraps, plain, Int.ofNat_eq_natCast]; first | done | rfl | omega | (simp; done) | (simp; omega)) | (simp (disch := omega) only [hS.glob, wraps, plain, Int.ofNat_eq_natCast, Vx.toN]; omega))) | (refine ptq ?_ ?_ ?_ <;> (first | rfl | omega | (simp (disch := omega) only [hS.glob, wraps, plain, Int.ofNat_eq_natCast]; first | done | rfl | omega | (simp; done) | (simp; omega)) | (simp (disch := omega) only [hS.glob, wraps, plain, Int.ofNat_eq_natCast, Vx.toN]; omega))) | (refine blq ?_; (first | rfl | omega | (simp (disch := omega) only [hS.glob, wraps, plain, Int.ofNat_eq_natCast]; first | done | rfl | omega | (simp; done) | (simp; omega)) | (simp (disch := omega) only [hS.glob, wraps, plain, Int.ofNat_eq_natCast, Vx.toN]; omega))))) rfl (by (repeat' first | exact trivial | rfl | exact Nat.le_refl _ | exact (fun _ _ => rfl) | (refine And.intro ?_ ?_) | (simp only [hS.glob, plain]; first | done | omega))) (by rw [hC]; simp)
  refine V.loop (γ := Nat × Nat × (Nat → Sp)) (fun p => p.1 ≤ n ∧ p.2.1 ≤ p.1 ∧ normU p.1 g = tab p.2.1 p.2.2) (fun p => [(4, .int .i64 (ofN p.1)), (3, .sl 0 0 p.2.1), (0, .rows 6 n (spc g))]) (fun p => [some ⟨27, 6, .arr p.2.1 (spc p.2.2)⟩]) (fun p => n - p.1) ?_ (0, 0, fun _ => noSp) ⟨Nat.zero_le _, Nat.le_refl _, rfl⟩
  rintro ⟨i, m, h⟩ ⟨hi, hm, hu⟩ hback
  dsimp only at hi hm hu hback ⊢
  refine V.goF (by first | exact trivial | assumption) Try.func15 tl_ok mixed hS.ops [(8, .none)] 400 ?_
  intro VV VA W hVV hVA hW
  conv => cbv
  cases h1 : ilt (ofN i) (ofN n)
  · conv => cbv
    simp (disch := first | omega | (simp only [hS.glob, wraps, plain, Int.ofNat_eq_natCast]; omega)) only [hS.glob, wraps, plain, Int.ofNat_eq_natCast] at h1
    obtain rfl : i = n := by omega
    rw [hQ]
    exact ⟨m, h, by rw [hN, hu], rfl, rfl⟩
  · conv => cbv
    simp (disch := first | omega | (simp only [hS.glob, wraps, plain, Int.ofNat_eq_natCast]; omega)) only [hS.glob, wraps, plain, Int.ofNat_eq_natCast] at h1
    repeat (refine ⟨by first | (rw [hW]; show ordOk _ _ _ = true; kernel_rfl) | (first | trivial | omega | (simp (disch := omega) only [hS.glob, wraps, plain, Int.ofNat_eq_natCast]; first | done | omega | trivial | (simp; done) | (simp; omega) | (constructor <;> omega)) | (simp (disch := omega) only [hS.glob, wraps, plain, Int.ofNat_eq_natCast, Vx.toN]; omega)), ?_⟩)
    simp only [hS.tidy]
    rcases hgi : g i with ⟨a, b, p, d, u, x⟩
    dsimp only
    rw [hVV]
    clear hVV hVA VV VA hW W
    obtain ⟨Z, hZ⟩ := bool_of (bareS (⟨a, b, p, d, u, x⟩ : Sp) = noSp)
    have eZ : bband (ieq 0 0) (bband (ieq 0 0) (bband (ieq p 0) (bband (bbeq d false) (bband (sseq u ⟨#[]⟩) (bband (ieq x 0) true))))) = Z := by
      have key := sp_all (bareS (⟨a, b, p, d, u, x⟩ : Sp)) noSp
      rw [← hZ] at key
      simp only [hS.glob]
      exact Bool.eq_iff_iff.2 key
    obtain ⟨n1, n2, n3⟩ := nstep_tab m h (⟨a, b, p, d, u, x⟩ : Sp)
    have hu2 : normU (i + 1) g = nstep (tab m h) (⟨a, b, p, d, u, x⟩ : Sp) := by rw [normU_succ, hu, hgi]
    refine V.call rfl rfl rfl rfl rfl Try.func29 rfl (by decide) [] (by simp) (by simp) (by (first | rfl | ((conv => cbv); (repeat' apply And.intro) <;> first | rfl | trivial | (first | rfl | omega | (simp (disch := omega) only [hS.glob, wraps, plain, Int.ofNat_eq_natCast]; first | done | rfl | omega | (simp; done) | (simp; omega)) | (simp (disch := omega) only [hS.glob, wraps, plain, Int.ofNat_eq_natCast, Vx.toN]; omega))))) rfl (f29_ok a b p d u x) ?_
    rintro r Hc ⟨rfl, rfl⟩
    refine V.goF (by first | exact trivial | assumption) Try.func15 tl_ok mixed hS.ops [(8, .none)] 400 ?_
    intro VV VA W hVV hVA hW
    conv => cbv
    simp only [eZ]
    cases Z
    case true =>
      conv => cbv
      rw [hVV]
      clear hVV hVA VV VA hW W
      exact V.to (hback (i + 1, m, h) ⟨by simp only; omega, by simp only; omega, by simp only; rw [hu2]; exact n1 (hZ.1 rfl)⟩ (by simp only; omega)) (by (repeat' first | exact trivial | rfl | (refine And.intro ?_ ?_) | (refine sti ?_; (first | rfl | omega | (simp (disch := omega) only [hS.glob, wraps, plain, Int.ofNat_eq_natCast]; first | done | rfl | omega | (simp; done) | (simp; omega)) | (simp (disch := omega) only [hS.glob, wraps, plain, Int.ofNat_eq_natCast, Vx.toN]; omega))) | (refine slq ?_ ?_ ?_ <;> (first | rfl | omega | (simp (disch := omega) only [hS.glob, wraps, plain, Int.ofNat_eq_natCast]; first | done | rfl | omega | (simp; done) | (simp; omega)) | (simp (disch := omega) only [hS.glob, wraps, plain, Int.ofNat_eq_natCast, Vx.toN]; omega))) | (refine ptq ?_ ?_ ?_ <;> (first | rfl | omega | (simp (disch := omega) only [hS.glob, wraps, plain, Int.ofNat_eq_natCast]; first | done | rfl | omega | (simp; done) | (simp; omega)) | (simp (disch := omega) only [hS.glob, wraps, plain, Int.ofNat_eq_natCast, Vx.toN]; omega))) | (refine blq ?_; (first | rfl | omega | (simp (disch := omega) only [hS.glob, wraps, plain, Int.ofNat_eq_natCast]; first | done | rfl | omega | (simp; done) | (simp; omega)) | (simp (disch := omega) only [hS.glob, wraps, plain, Int.ofNat_eq_natCast, Vx.toN]; omega))))) rfl ⟨⟨rfl, rfl, ⟨Nat.le_refl _, fun _ _ => rfl⟩, rfl⟩, trivial⟩ (by rw [hC]; simp)
    have hz0 : bareS (⟨a, b, p, d, u, x⟩ : Sp) ≠ noSp := fun h0 => by have := hZ.2 h0; cases this
    conv => cbv
    rw [hVV]
    clear hVV hVA VV VA hW W
    obtain ⟨J, hJ⟩ := bool_of (0 < m ∧ joinS (h (m - 1)) (⟨a, b, p, d, u, x⟩ : Sp))
    refine V.drawnK tl_ok mixed (.one 0 .none (.one 1 .none (.one 2 .none (.one 3 .none (.one 4 .none (.one 5 .none (.one 6 .none (.one 7 .none (.one 8 .none (.one 9 .none (.one 10 .none (.one 11 .none (.one 12 .none (.one 13 .none (.one 14 .none (.one 15 .none (.one 16 .none (.one 17 .none (.one 18 .none (.alt 19 (.one 20 .none (.one 21 .none (.one 22 .none (.one 23 .none (.one 24 .none (.one 25 .none (.one 26 .none (.one 27 .none (.one 28 .none (.one 29 .none (.one 30 .none (.one 31 .none (.one 32 .none (.one 33 .none .done)))))))))))))) (.alt 20 (.one 19 .none (.one 21 .none (.one 22 .none (.one 23 .none (.one 24 .none (.one 25 .none (.one 26 .none (.one 27 .none (.one 28 .none (.one 29 .none (.one 30 .none (.one 31 .none (.one 32 .none (.one 33 .none .done)))))))))))))) .none))))))))))))))))))))) (fun s H => covers s [(56, .bool J), (6, .int .i64 (ofN m)), (5, .ptr 1 0 0), (4, .int .i64 (ofN i)), (3, .sl 0 0 m), (0, .rows 6 n (spc g))] ∧ H = [some ⟨27, 6, .arr m (spc h)⟩, some ⟨27, 6, .lit [[.int .i64 a, .int .i64 b, .int .i64 p, .bool d, .str u, .int .u64 x]]⟩]) (by kernel_rfl) ?_ ?_
    · refine AnyT.goK tl_ok hS.ops ?_
      intro KK VA hKK hVA
      conv => cbv
      cases h2 : igt (ofN m) 0
      · conv => cbv
        simp (disch := first | omega | (simp only [hS.glob, wraps, plain, Int.ofNat_eq_natCast]; omega)) only [hS.glob, wraps, plain, Int.ofNat_eq_natCast] at h2
        have hj0 : J = false := by
          cases J
          · rfl
          · have := (hJ.1 rfl).1; omega
        repeat' apply And.intro
        all_goals first | trivial | (rw [hKK]; exact ⟨⟨blq hj0.symm, rfl, rfl, rfl, rfl, rfl, trivial⟩, rfl⟩)
      · conv => cbv
        simp (disch := first | omega | (simp only [hS.glob, wraps, plain, Int.ofNat_eq_natCast]; omega)) only [hS.glob, wraps, plain, Int.ofNat_eq_natCast] at h2
        obtain ⟨q, hq⟩ : ∃ q, q = m - 1 := ⟨_, rfl⟩
        rw [← hq] at hJ
        have ez : isub .i64 (ofN m) 1 = ofN q := by rw [hq]; (first | rfl | omega | (simp (disch := omega) only [hS.glob, wraps, plain, Int.ofNat_eq_natCast]; first | done | rfl | omega | (simp; done) | (simp; omega)) | (simp (disch := omega) only [hS.glob, wraps, plain, Int.ofNat_eq_natCast, Vx.toN]; omega))
        simp only [ez, hS.tidy]
        repeat (refine ⟨by first | (rw [hW]; show ordOk _ _ _ = true; kernel_rfl) | (first | trivial | omega | (simp (disch := omega) only [hS.glob, wraps, plain, Int.ofNat_eq_natCast]; first | done | omega | trivial | (simp; done) | (simp; omega) | (constructor <;> omega)) | (simp (disch := omega) only [hS.glob, wraps, plain, Int.ofNat_eq_natCast, Vx.toN]; omega)), ?_⟩)
        have leaf0 : ¬ joinS (h q) (⟨a, b, p, d, u, x⟩ : Sp) → false = J := fun hx => by
          cases J
          · rfl
          · exact absurd (hJ.1 rfl).2 hx
        cases h3 : ieq (h q).to a
        · conv => cbv
          simp (disch := first | omega | (simp only [hS.glob, wraps, plain, Int.ofNat_eq_natCast]; omega)) only [hS.glob, wraps, plain, Int.ofNat_eq_natCast] at h3
          have hj0 := leaf0 (fun hx => h3 hx.1)
          repeat' apply And.intro
          all_goals first | trivial | (rw [hKK]; exact ⟨⟨blq hj0, rfl, rfl, rfl, rfl, rfl, trivial⟩, rfl⟩)
        · conv => cbv
          simp (disch := first | omega | (simp only [hS.glob, wraps, plain, Int.ofNat_eq_natCast]; omega)) only [hS.glob, wraps, plain, Int.ofNat_eq_natCast] at h3
          repeat (refine ⟨by first | (rw [hW]; show ordOk _ _ _ = true; kernel_rfl) | (first | trivial | omega | (simp (disch := omega) only [hS.glob, wraps, plain, Int.ofNat_eq_natCast]; first | done | omega | trivial | (simp; done) | (simp; omega) | (constructor <;> omega)) | (simp (disch := omega) only [hS.glob, wraps, plain, Int.ofNat_eq_natCast, Vx.toN]; omega)), ?_⟩)
          try simp only [ez, hS.tidy]
          obtain ⟨B, hB⟩ := bool_of (bareS (h q) = bareS (⟨a, b, p, d, u, x⟩ : Sp))
          have eB : bband (ieq 0 0) (bband (ieq 0 0) (bband (ieq (h q).po p) (bband (bbeq (h q).co d) (bband (sseq (h q).ru u) (bband (ieq (h q).sc x) true))))) = B := by
            have key := sp_all (bareS (h q)) (bareS (⟨a, b, p, d, u, x⟩ : Sp))
            rw [← hB] at key
            simp only [hS.glob]
            exact Bool.eq_iff_iff.2 key
          refine ⟨?_, ?_⟩
          all_goals try (refine ⟨?_, trivial⟩)
          all_goals
            rw [hVA]
            clear hKK hVA KK VA
            refine AnyT.call rfl rfl rfl rfl rfl Try.func29 rfl (by decide) [] (by simp) (by simp) (by (first | rfl | ((conv => cbv); (repeat' apply And.intro) <;> first | rfl | trivial | (first | rfl | omega | (simp (disch := omega) only [hS.glob, wraps, plain, Int.ofNat_eq_natCast]; first | done | rfl | omega | (simp; done) | (simp; omega)) | (simp (disch := omega) only [hS.glob, wraps, plain, Int.ofNat_eq_natCast, Vx.toN]; omega))))) rfl (f29_ok (h q).fr (h q).to (h q).po (h q).co (h q).ru (h q).sc) ?_
            rintro r Hc ⟨rfl, rfl⟩
            refine AnyT.goK tl_ok hS.ops ?_
            intro KK VA hKK hVA
            conv => cbv
            rw [hVA]
            clear hKK hVA KK VA
            refine AnyT.call rfl rfl rfl rfl rfl Try.func29 rfl (by decide) [] (by simp) (by simp) (by (first | rfl | ((conv => cbv); (repeat' apply And.intro) <;> first | rfl | trivial | (first | rfl | omega | (simp (disch := omega) only [hS.glob, wraps, plain, Int.ofNat_eq_natCast]; first | done | rfl | omega | (simp; done) | (simp; omega)) | (simp (disch := omega) only [hS.glob, wraps, plain, Int.ofNat_eq_natCast, Vx.toN]; omega))))) rfl (f29_ok a b p d u x) ?_
            rintro r Hc ⟨rfl, rfl⟩
            refine AnyT.goK tl_ok hS.ops ?_
            intro KK VA hKK hVA
            conv => cbv
            simp only [eB]
            cases B
            · conv => cbv
              rw [hKK]
              have hj0 := leaf0 (fun hx => by have := hB.2 hx.2.1; cases this)
              exact ⟨⟨blq hj0, rfl, rfl, rfl, rfl, rfl, trivial⟩, rfl⟩
            · conv => cbv
              cases d
              · conv => cbv
                cases h5 : sseq u ⟨#[]⟩
                · conv => cbv
                  rw [hKK]
                  simp only [hS.glob] at h5
                  have hj0 := leaf0 (fun hx => by rw [(sseq_empty _).2 hx.2.2.2] at h5; cases h5)
                  exact ⟨⟨blq hj0, rfl, rfl, rfl, rfl, rfl, trivial⟩, rfl⟩
                · conv => cbv
                  rw [hKK]
                  simp only [hS.glob] at h5
                  have hj1 := hJ.2 ⟨by omega, h3, hB.1 rfl, rfl, (sseq_empty _).1 h5⟩
                  exact ⟨⟨blq hj1.symm, rfl, rfl, rfl, rfl, rfl, trivial⟩, rfl⟩
              · conv => cbv
                rw [hKK]
                have hj0 := leaf0 (fun hx => by have := hx.2.2.1; cases this)
                exact ⟨⟨blq hj0, rfl, rfl, rfl, rfl, rfl, trivial⟩, rfl⟩
    rintro s H ⟨hcov, rfl⟩
    refine V.to (s' := [(56, .bool J), (6, .int .i64 (ofN m)), (5, .ptr 1 0 0), (4, .int .i64 (ofN i)), (3, .sl 0 0 m), (0, .rows 6 n (spc g))]) (H' := [some ⟨27, 6, .arr m (spc h)⟩, some ⟨27, 6, .lit [[.int .i64 a, .int .i64 b, .int .i64 p, .bool d, .str u, .int .u64 x]]⟩]) ?_ hcov rfl (by (repeat' first | exact trivial | rfl | exact Nat.le_refl _ | exact (fun _ _ => rfl) | (refine And.intro ?_ ?_) | (simp only [hS.glob, plain]; first | done | omega))) (by rw [hC]; simp)
    clear hcov
    refine V.goF (by first | exact trivial | assumption) Try.func15 tl_ok mixed hS.ops [] 400 ?_
    intro VV VA W hVV hVA hW
    conv => cbv
    cases J
    · conv => cbv
      have hj : m = 0 ∨ ¬ joinS (h (m - 1)) (⟨a, b, p, d, u, x⟩ : Sp) := by
        rcases Nat.eq_zero_or_pos m with h0 | h0
        · exact .inl h0
        · exact .inr fun hx => by have := hJ.2 ⟨h0, hx⟩; cases this
      repeat (refine ⟨by first | (rw [hW]; show ordOk _ _ _ = true; kernel_rfl) | (first | trivial | omega | (simp (disch := omega) only [hS.glob, wraps, plain, Int.ofNat_eq_natCast]; first | done | omega | trivial | (simp; done) | (simp; omega) | (constructor <;> omega)) | (simp (disch := omega) only [hS.glob, wraps, plain, Int.ofNat_eq_natCast, Vx.toN]; omega)), ?_⟩)
      rw [hVV]
      clear hVV hVA VV VA hW W
      refine V.pick [3] (by decide) (by rw [hC]; exact begins_of rfl) (by rfl) (by rfl) ?_
      obtain ⟨h', e2, e3⟩ := snocF h m (⟨a, b, p, d, u, x⟩ : Sp)
      refine V.to (hback (i + 1, m + 1, h') ⟨by simp only; omega, by simp only; omega, by simp only; rw [hu2]; exact n2 hz0 hj h' e2 e3⟩ (by simp only; omega)) (by (repeat' first | exact trivial | rfl | (refine And.intro ?_ ?_) | (refine sti ?_; (first | rfl | omega | (simp (disch := omega) only [hS.glob, wraps, plain, Int.ofNat_eq_natCast]; first | done | rfl | omega | (simp; done) | (simp; omega)) | (simp (disch := omega) only [hS.glob, wraps, plain, Int.ofNat_eq_natCast, Vx.toN]; omega))) | (refine slq ?_ ?_ ?_ <;> (first | rfl | omega | (simp (disch := omega) only [hS.glob, wraps, plain, Int.ofNat_eq_natCast]; first | done | rfl | omega | (simp; done) | (simp; omega)) | (simp (disch := omega) only [hS.glob, wraps, plain, Int.ofNat_eq_natCast, Vx.toN]; omega))) | (refine ptq ?_ ?_ ?_ <;> (first | rfl | omega | (simp (disch := omega) only [hS.glob, wraps, plain, Int.ofNat_eq_natCast]; first | done | rfl | omega | (simp; done) | (simp; omega)) | (simp (disch := omega) only [hS.glob, wraps, plain, Int.ofNat_eq_natCast, Vx.toN]; omega))) | (refine blq ?_; (first | rfl | omega | (simp (disch := omega) only [hS.glob, wraps, plain, Int.ofNat_eq_natCast]; first | done | rfl | omega | (simp; done) | (simp; omega)) | (simp (disch := omega) only [hS.glob, wraps, plain, Int.ofNat_eq_natCast, Vx.toN]; omega))))) rfl ⟨⟨rfl, rfl, ⟨by show m + 1 ≤ addN m 1; (first | trivial | omega | (simp (disch := omega) only [hS.glob, wraps, plain, Int.ofNat_eq_natCast]; first | done | omega | trivial | (simp; done) | (simp; omega) | (constructor <;> omega)) | (simp (disch := omega) only [hS.glob, wraps, plain, Int.ofNat_eq_natCast, Vx.toN]; omega)), fun j hj => leafR (by simp [hS.glob]) (by simp [hS.glob]) _ (spc h) (spc h') m (fun j hj => by simp only [spc, e2 j hj]) (by simp only [spc, e3]) j hj⟩, rfl⟩, trivial⟩ (by rw [hC]; simp)
    · conv => cbv
      obtain ⟨hm0, hj⟩ := hJ.1 rfl
      obtain ⟨q, hq⟩ : ∃ q, q = m - 1 := ⟨_, rfl⟩
      have ez : isub .i64 (ofN m) 1 = ofN q := by rw [hq]; (first | rfl | omega | (simp (disch := omega) only [hS.glob, wraps, plain, Int.ofNat_eq_natCast]; first | done | rfl | omega | (simp; done) | (simp; omega)) | (simp (disch := omega) only [hS.glob, wraps, plain, Int.ofNat_eq_natCast, Vx.toN]; omega))
      simp only [ez, hS.tidy]
      repeat (refine ⟨by first | (rw [hW]; show ordOk _ _ _ = true; kernel_rfl) | (first | trivial | omega | (simp (disch := omega) only [hS.glob, wraps, plain, Int.ofNat_eq_natCast]; first | done | omega | trivial | (simp; done) | (simp; omega) | (constructor <;> omega)) | (simp (disch := omega) only [hS.glob, wraps, plain, Int.ofNat_eq_natCast, Vx.toN]; omega)), ?_⟩)
      rw [hVV]
      clear hVV hVA VV VA hW W
      obtain ⟨h', e2⟩ : ∃ h' : Nat → Sp, ∀ j, h' j = if j = q then { h q with to := b } else h j := ⟨_, fun _ => rfl⟩
      rw [← hq] at hj n3
      refine V.to (hback (i + 1, m, h') ⟨by simp only; omega, by simp only; omega, by simp only; rw [hu2]; exact n3 hz0 hm0 hj h' (fun j h7 => by rw [e2, if_neg (by omega)]) (by rw [e2, if_pos rfl])⟩ (by simp only; omega)) (by (repeat' first | exact trivial | rfl | (refine And.intro ?_ ?_) | (refine sti ?_; (first | rfl | omega | (simp (disch := omega) only [hS.glob, wraps, plain, Int.ofNat_eq_natCast]; first | done | rfl | omega | (simp; done) | (simp; omega)) | (simp (disch := omega) only [hS.glob, wraps, plain, Int.ofNat_eq_natCast, Vx.toN]; omega))) | (refine slq ?_ ?_ ?_ <;> (first | rfl | omega | (simp (disch := omega) only [hS.glob, wraps, plain, Int.ofNat_eq_natCast]; first | done | rfl | omega | (simp; done) | (simp; omega)) | (simp (disch := omega) only [hS.glob, wraps, plain, Int.ofNat_eq_natCast, Vx.toN]; omega))) | (refine ptq ?_ ?_ ?_ <;> (first | rfl | omega | (simp (disch := omega) only [hS.glob, wraps, plain, Int.ofNat_eq_natCast]; first | done | rfl | omega | (simp; done) | (simp; omega)) | (simp (disch := omega) only [hS.glob, wraps, plain, Int.ofNat_eq_natCast, Vx.toN]; omega))) | (refine blq ?_; (first | rfl | omega | (simp (disch := omega) only [hS.glob, wraps, plain, Int.ofNat_eq_natCast]; first | done | rfl | omega | (simp; done) | (simp; omega)) | (simp (disch := omega) only [hS.glob, wraps, plain, Int.ofNat_eq_natCast, Vx.toN]; omega))))) rfl ⟨⟨rfl, rfl, ⟨Nat.le_refl _, fun j h7 => ?_⟩, rfl⟩, trivial⟩ (by rw [hC]; simp)
      simp only [hS.glob]
      cases h8 : Vx.eqN j q
      · simp only [plain] at h8
        simp only [spc, e2, if_neg h8]
      · simp only [plain] at h8
        simp only [spc, e2, if_pos h8]
        subst h8
        rfl
end Go.Proofs.Ytandgpkibpggnaa

/- Ends that are moved: the closures, and the plain part. -/
namespace Go.Proofs.Ytandgpkibpggnaa
open Go Vx
def insX (least n x : Int) : Int := if x < least then x else x + n
def delX (fr to x : Int) : Int := if x ≤ fr then x else if x < to then fr else x - (to - fr)
/-- Numbers that are far from the ends. -/
def mid2 (x : Int) : Prop := -1000000000000 ≤ x ∧ x ≤ 1000000000000
theorem f32_ok (x l n : Int) (hx : mid2 x) (hn : mid2 n) (y : Int) (hy : y = insX l n x) : FSpec Try.prog 32 [.int .i64 x, .ref [.int .i64 l], .ref [.int .i64 n]] [] (fun r H' => r = .int .i64 y ∧ H' = []) := by
  unfold insX at hy
  unfold mid2 at hx hn
  refine FSpec.of (fn := Try.f32) Try.func32 rfl rfl (by simp) fun C hC => ?_
  obtain ⟨iadd, isub, imul, iquo, irem, iband, ibor, ibxor, ibandn, ishl, ishr, iconv, ieq, ine, ilt, ile, igt, ige, bbeq, bbne, bnot, bband, sseq, ssne, sscat, sssub, sslen, sssz, ssbyte, toN, ofN, addN, subN, eqN, ltB, leN, imx, imn, inb, leb, sslt, ltN, fit, ne0, ge0, ssfit, minN, inR, bcol, bstr, isBy, hS⟩ := names
  refine V.goF (by first | exact trivial | assumption) Try.func32 tl_ok mixed hS.ops [] 400 ?_
  intro VV VA W hVV hVA hW
  conv => cbv
  cases h1 : ilt x l
  · conv => cbv
    simp (disch := first | omega | (simp only [hS.glob, wraps, plain, Int.ofNat_eq_natCast]; omega)) only [hS.glob, wraps, plain, Int.ofNat_eq_natCast] at h1
    rw [if_neg (by omega)] at hy
    refine ⟨?_, trivial⟩
    rw [hy]
    congr 1
    (first | rfl | omega | (simp (disch := omega) only [hS.glob, wraps, plain, Int.ofNat_eq_natCast]; first | done | rfl | omega | (simp; done) | (simp; omega)) | (simp (disch := omega) only [hS.glob, wraps, plain, Int.ofNat_eq_natCast, Vx.toN]; omega))
  · conv => cbv
    simp (disch := first | omega | (simp only [hS.glob, wraps, plain, Int.ofNat_eq_natCast]; omega)) only [hS.glob, wraps, plain, Int.ofNat_eq_natCast] at h1
    rw [if_pos h1] at hy
    rw [hy]
    exact ⟨rfl, trivial⟩
theorem f34_ok (x a b : Int) (hx : mid2 x) (ha : 0 ≤ a ∧ a ≤ 1000000000000) (hb : a ≤ b ∧ b ≤ 1000000000000) (y : Int) (hy : y = delX a b x) : FSpec Try.prog 34 [.int .i64 x, .ref [.int .i64 a], .ref [.int .i64 b]] [] (fun r H' => r = .int .i64 y ∧ H' = []) := by
  unfold delX at hy
  unfold mid2 at hx
  refine FSpec.of (fn := Try.f34) Try.func34 rfl rfl (by simp) fun C hC => ?_
  obtain ⟨iadd, isub, imul, iquo, irem, iband, ibor, ibxor, ibandn, ishl, ishr, iconv, ieq, ine, ilt, ile, igt, ige, bbeq, bbne, bnot, bband, sseq, ssne, sscat, sssub, sslen, sssz, ssbyte, toN, ofN, addN, subN, eqN, ltB, leN, imx, imn, inb, leb, sslt, ltN, fit, ne0, ge0, ssfit, minN, inR, bcol, bstr, isBy, hS⟩ := names
  refine V.goF (by first | exact trivial | assumption) Try.func34 tl_ok mixed hS.ops [] 400 ?_
  intro VV VA W hVV hVA hW
  conv => cbv
  cases h1 : ile x a
  · conv => cbv
    simp (disch := first | omega | (simp only [hS.glob, wraps, plain, Int.ofNat_eq_natCast]; omega)) only [hS.glob, wraps, plain, Int.ofNat_eq_natCast] at h1
    rw [if_neg (by omega)] at hy
    cases h2 : ilt x b
    · conv => cbv
      simp (disch := first | omega | (simp only [hS.glob, wraps, plain, Int.ofNat_eq_natCast]; omega)) only [hS.glob, wraps, plain, Int.ofNat_eq_natCast] at h2
      rw [if_neg (by omega)] at hy
      refine ⟨?_, trivial⟩
      rw [hy]
      congr 1
      (first | rfl | omega | (simp (disch := omega) only [hS.glob, wraps, plain, Int.ofNat_eq_natCast]; first | done | rfl | omega | (simp; done) | (simp; omega)) | (simp (disch := omega) only [hS.glob, wraps, plain, Int.ofNat_eq_natCast, Vx.toN]; omega))
    · conv => cbv
      simp (disch := first | omega | (simp only [hS.glob, wraps, plain, Int.ofNat_eq_natCast]; omega)) only [hS.glob, wraps, plain, Int.ofNat_eq_natCast] at h2
      rw [if_pos h2] at hy
      rw [hy]
      exact ⟨rfl, trivial⟩
  · conv => cbv
    simp (disch := first | omega | (simp only [hS.glob, wraps, plain, Int.ofNat_eq_natCast]; omega)) only [hS.glob, wraps, plain, Int.ofNat_eq_natCast] at h1
    rw [if_pos h1] at hy
    rw [hy]
    exact ⟨rfl, trivial⟩
theorem f31_ok (l n : Int) : FSpec Try.prog 31 [.int .i64 l, .ref [.int .i64 n]] [] (fun r H' => r = .fn (.func 32) [] [.ref [.int .i64 l], .ref [.int .i64 n]] ∧ H' = []) := by
  refine (show FSpec Try.prog 31 [.int .i64 l, .ref [.int .i64 n]] [] (fun r H' => r = .fn (.func 32) [] [.ref [.int .i64 l], .ref [.int .i64 n]]) from ?_).weaken ?_
  case refine_2 =>
    rintro r H' rfl
    exact ⟨[], by cases H' <;> simp [heapCov], rfl, Nat.le_refl _, rfl, rfl⟩
  refine FSpec.of (fn := Try.f31) Try.func31 rfl rfl (by simp) fun C hC => ?_
  obtain ⟨iadd, isub, imul, iquo, irem, iband, ibor, ibxor, ibandn, ishl, ishr, iconv, ieq, ine, ilt, ile, igt, ige, bbeq, bbne, bnot, bband, sseq, ssne, sscat, sssub, sslen, sssz, ssbyte, toN, ofN, addN, subN, eqN, ltB, leN, imx, imn, inb, leb, sslt, ltN, fit, ne0, ge0, ssfit, minN, inR, bcol, bstr, isBy, hS⟩ := names
  refine V.goF (by first | exact trivial | assumption) Try.func31 tl_ok mixed hS.ops [] 5 ?_
  intro VV VA W hVV hVA hW
  conv => cbv
  rw [hVV]
  clear hVV hVA VV VA hW W
  refine V.freezePtr 2 rfl rfl rfl ?_
  refine V.goF (by first | exact trivial | assumption) Try.func31 tl_ok mixed hS.ops [] 400 ?_
  intro VV VA W hVV hVA hW
  conv => cbv
  trivial
/-- What a list of spans is when each is turned, and some are left out. -/
noncomputable def turnU (tr : Sp → Sp) (kp : Sp → Prop) (n : Nat) (g : Nat → Sp) : List Sp := open Classical in (tab n g).flatMap fun s => if kp s then [tr s] else []
theorem turnU_succ (tr : Sp → Sp) (kp : Sp → Prop) (n : Nat) (g : Nat → Sp) : (kp (g n) → turnU tr kp (n + 1) g = turnU tr kp n g ++ [tr (g n)]) ∧ (¬ kp (g n) → turnU tr kp (n + 1) g = turnU tr kp n g) := by
  have e : tab (n + 1) g = tab n g ++ [g n] := tab_snoc rfl (fun _ _ => rfl) rfl
  unfold turnU
  rw [e, List.flatMap_append]
  exact ⟨fun h => by simp [h], fun h => by simp [h]⟩
theorem turnU_len (tr : Sp → Sp) (kp : Sp → Prop) (n : Nat) (g : Nat → Sp) : (turnU tr kp n g).length ≤ n := by
  induction n with
  | zero => simp [turnU, tab]
  | succ n ih =>
    by_cases h : kp (g n)
    · rw [(turnU_succ tr kp n g).1 h]; simp; omega
    · rw [(turnU_succ tr kp n g).2 h]; omega
theorem turnU_congr {tr tr' : Sp → Sp} {kp kp' : Sp → Prop} (n : Nat) (g : Nat → Sp) (h : ∀ j, j < n → (kp (g j) ↔ kp' (g j)) ∧ tr (g j) = tr' (g j)) : turnU tr kp n g = turnU tr' kp' n g := by
  induction n with
  | zero => rfl
  | succ n ih =>
    have e := ih (fun j hj => h j (by omega))
    obtain ⟨h1, h2⟩ := h n (by omega)
    by_cases hk : kp (g n)
    · rw [(turnU_succ tr kp n g).1 hk, (turnU_succ tr' kp' n g).1 (h1.1 hk), e, h2]
    · rw [(turnU_succ tr kp n g).2 hk, (turnU_succ tr' kp' n g).2 (fun hx => hk (h1.2 hx)), e]
end Go.Proofs.Ytandgpkibpggnaa

/- Spans whose ends are moved: the walk. -/
namespace Go.Proofs.Ytandgpkibpggnaa
open Go Vx
def movS (φ ψ : Int → Int) (s : Sp) : Sp := { s with fr := φ s.fr, to := ψ s.to }
def kpS (s : Sp) : Prop := s.fr < s.to ∧ (s.co = true → s.to - s.fr ≤ 4)
theorem f33_ok (q : Nat) {fn : Func} (hq : Try.prog.funcs[q]? = some fn) (hqb : fn.body.isNone = false) (hqn : (fn.name == "runtime.NumGoroutine") = false) (l1 l2 k1 k2 : Int) (φ ψ : Int → Int) (n : Nat) (hn : n ≤ 1000000) (g : Nat → Sp) (hm : ∀ j, j < n → mid2 (g j).fr ∧ mid2 (g j).to)
    (hr : ∀ j, j < n → -4000000000000 ≤ φ (g j).fr ∧ φ (g j).fr ≤ 4000000000000 ∧ -4000000000000 ≤ ψ (g j).to ∧ ψ (g j).to ≤ 4000000000000)
    (h1 : ∀ x y, mid2 x → y = φ x → FSpec Try.prog q (.int .i64 x :: [.ref [.int .i64 l1], .ref [.int .i64 l2]]) [] (fun r H' => r = .int .i64 y ∧ H' = [])) (h2 : ∀ x y, mid2 x → y = ψ x → FSpec Try.prog q (.int .i64 x :: [.ref [.int .i64 k1], .ref [.int .i64 k2]]) [] (fun r H' => r = .int .i64 y ∧ H' = []))
    (N : List Sp) (hN : N = turnU (movS φ ψ) (fun s => kpS (movS φ ψ s)) n g) : FSpec Try.prog 33 [.rows 6 n (spc g), .fn (.func q) [] [.ref [.int .i64 l1], .ref [.int .i64 l2]], .fn (.func q) [] [.ref [.int .i64 k1], .ref [.int .i64 k2]]] [] (fun r H' => ∃ m h, N = tab m h ∧ r = .sl 0 0 m ∧ H' = [some ⟨27, 6, .arr m (spc h)⟩]) := by
  obtain ⟨Q, hQ⟩ : ∃ Q : AV → Hp → Prop, Q = (fun r H' => ∃ m h, N = tab m h ∧ r = .sl 0 0 m ∧ H' = [some ⟨27, 6, .arr m (spc h)⟩]) := ⟨_, rfl⟩
  rw [← hQ]
  refine FSpec.of (fn := Try.f33) Try.func33 rfl rfl (by simp) fun C hC => ?_
  obtain ⟨iadd, isub, imul, iquo, irem, iband, ibor, ibxor, ibandn, ishl, ishr, iconv, ieq, ine, ilt, ile, igt, ige, bbeq, bbne, bnot, bband, sseq, ssne, sscat, sssub, sslen, sssz, ssbyte, toN, ofN, addN, subN, eqN, ltB, leN, imx, imn, inb, leb, sslt, ltN, fit, ne0, ge0, ssfit, minN, inR, bcol, bstr, isBy, hS⟩ := names
  refine V.goF (by first | exact trivial | assumption) Try.func33 tl_ok mixed hS.ops [] 400 ?_
  intro VV VA W hVV hVA hW
  conv => cbv
  rw [hVV]
  clear hVV hVA VV VA hW W
  refine V.phantom 7 27 6 (spc (fun _ => noSp)) rfl ?_
  refine V.to (s' := [(12, .int .i64 (ofN 0)), (7, .sl 0 0 0), (10, .rows 6 n (spc g)), (11, .int .i64 (ofN n)), (0, .rows 6 n (spc g)), (1, .fn (.func q) [] [.ref [.int .i64 l1], .ref [.int .i64 l2]]), (2, .fn (.func q) [] [.ref [.int .i64 k1], .ref [.int .i64 k2]])]) (H' := [some ⟨27, 6, .arr 0 (spc (fun _ => noSp))⟩]) ?_ (by (repeat' first | exact trivial | rfl | (refine And.intro ?_ ?_) | (refine sti ?_; (first | rfl | omega | (simp (disch := omega) only [hS.glob, wraps, plain, Int.ofNat_eq_natCast]; first | done | rfl | omega | (simp; done) | (simp; omega)) | (simp (disch := omega) only [hS.glob, wraps, plain, Int.ofNat_eq_natCast, Vx.toN]; omega))) | (refine slq ?_ ?_ ?_ <;> (first | rfl | omega | (simp (disch := omega) only [hS.glob, wraps, plain, Int.ofNat_eq_natCast]; first | done | rfl | omega | (simp; done) | (simp; omega)) | (simp (disch := omega) only [hS.glob, wraps, plain, Int.ofNat_eq_natCast, Vx.toN]; omega))) | (refine ptq ?_ ?_ ?_ <;> (first | rfl | omega | (simp (disch := omega) only [hS.glob, wraps, plain, Int.ofNat_eq_natCast]; first | done | rfl | omega | (simp; done) | (simp; omega)) | (simp (disch := omega) only [hS.glob, wraps, plain, Int.ofNat_eq_natCast, Vx.toN]; omega))) | (refine blq ?_; (first | rfl | omega | (simp (disch := omega) only [hS.glob, wraps, plain, Int.ofNat_eq_natCast]; first | done | rfl | omega | (simp; done) | (simp; omega)) | (simp (disch := omega) only [hS.glob, wraps, plain, Int.ofNat_eq_natCast, Vx.toN]; omega))))) rfl (by (repeat' first | exact trivial | rfl | exact Nat.le_refl _ | exact (fun _ _ => rfl) | (refine And.intro ?_ ?_) | (simp only [hS.glob, plain]; first | done | omega))) (by rw [hC]; simp)
  refine V.loop (γ := Nat × Nat × (Nat → Sp)) (fun p => p.1 ≤ n ∧ p.2.1 ≤ p.1 ∧ turnU (movS φ ψ) (fun s => kpS (movS φ ψ s)) p.1 g = tab p.2.1 p.2.2) (fun p => [(12, .int .i64 (ofN p.1)), (7, .sl 0 0 p.2.1), (10, .rows 6 n (spc g)), (11, .int .i64 (ofN n)), (0, .rows 6 n (spc g)), (1, .fn (.func q) [] [.ref [.int .i64 l1], .ref [.int .i64 l2]]), (2, .fn (.func q) [] [.ref [.int .i64 k1], .ref [.int .i64 k2]])]) (fun p => [some ⟨27, 6, .arr p.2.1 (spc p.2.2)⟩]) (fun p => n - p.1) ?_ (0, 0, fun _ => noSp) ⟨Nat.zero_le _, Nat.le_refl _, rfl⟩
  rintro ⟨i, m, h⟩ ⟨hi, hm1, hu⟩ hback
  dsimp only at hi hm1 hu hback ⊢
  refine V.goF (by first | exact trivial | assumption) Try.func33 tl_ok mixed hS.ops [(5, .none)] 400 ?_
  intro VV VA W hVV hVA hW
  conv => cbv
  cases h3 : ilt (ofN i) (ofN n)
  · conv => cbv
    simp (disch := first | omega | (simp only [hS.glob, wraps, plain, Int.ofNat_eq_natCast]; omega)) only [hS.glob, wraps, plain, Int.ofNat_eq_natCast] at h3
    obtain rfl : i = n := by omega
    rw [hQ]
    exact ⟨m, h, by rw [hN, hu], rfl, rfl⟩
  · conv => cbv
    simp (disch := first | omega | (simp only [hS.glob, wraps, plain, Int.ofNat_eq_natCast]; omega)) only [hS.glob, wraps, plain, Int.ofNat_eq_natCast] at h3
    repeat (refine ⟨by first | (rw [hW]; show ordOk _ _ _ = true; kernel_rfl) | (first | trivial | omega | (simp (disch := omega) only [hS.glob, wraps, plain, Int.ofNat_eq_natCast]; first | done | omega | trivial | (simp; done) | (simp; omega) | (constructor <;> omega)) | (simp (disch := omega) only [hS.glob, wraps, plain, Int.ofNat_eq_natCast, Vx.toN]; omega)), ?_⟩)
    simp only [hS.tidy]
    have hmi := hm i (by omega)
    have hri := hr i (by omega)
    obtain ⟨t1, t2⟩ := turnU_succ (movS φ ψ) (fun s => kpS (movS φ ψ s)) i g
    rcases hgi : g i with ⟨a, b, p, d, u, x⟩
    rw [hgi] at hmi hri t1 t2
    dsimp only at hmi hri ⊢
    obtain ⟨y1, hy1⟩ : ∃ y, y = φ a := ⟨_, rfl⟩
    obtain ⟨y2, hy2⟩ : ∃ y, y = ψ b := ⟨_, rfl⟩
    rw [← hy1, ← hy2] at hri
    have e1 := h1 a y1 hmi.1 hy1
    have e2 := h2 b y2 hmi.2 hy2
    rw [hVV]
    clear hVV hVA VV VA hW W
    refine V.drawnK tl_ok mixed (.one 0 .none (.one 1 .none (.one 2 .none (.one 4 .none (.one 5 .none (.alt 3 (.one 6 .none (.one 8 .none (.one 7 .none (.one 9 .none (.one 10 .none (.one 11 .none .done)))))) (.alt 6 (.one 3 .none (.one 8 .none (.one 7 .none (.one 9 .none (.one 10 .none (.one 11 .none .done)))))) .none))))))) (fun s H => covers s [(9, .ptr 1 0 0), (12, .int .i64 (ofN i)), (7, .sl 0 0 m), (10, .rows 6 n (spc g)), (11, .int .i64 (ofN n)), (0, .rows 6 n (spc g)), (1, .fn (.func q) [] [.ref [.int .i64 l1], .ref [.int .i64 l2]]), (2, .fn (.func q) [] [.ref [.int .i64 k1], .ref [.int .i64 k2]])] ∧ H = [some ⟨27, 6, .arr m (spc h)⟩, some ⟨27, 6, .lit [[.int .i64 y1, .int .i64 y2, .int .i64 p, .bool d, .str u, .int .u64 x]]⟩]) (by kernel_rfl) ?_ ?_
    · refine AnyT.goK tl_ok hS.ops ?_
      intro KK VA hKK hVA
      conv => cbv
      refine ⟨?_, ?_⟩
      all_goals try (refine ⟨?_, trivial⟩)
      all_goals
        rw [hVA]
        clear hKK hVA KK VA
        refine AnyT.call rfl rfl rfl rfl rfl hq hqb hqn [] (by simp) (by simp) (by (first | rfl | ((conv => cbv); (repeat' apply And.intro) <;> first | rfl | trivial | (first | rfl | omega | (simp (disch := omega) only [hS.glob, wraps, plain, Int.ofNat_eq_natCast]; first | done | rfl | omega | (simp; done) | (simp; omega)) | (simp (disch := omega) only [hS.glob, wraps, plain, Int.ofNat_eq_natCast, Vx.toN]; omega))))) rfl e1 ?_
        rintro r Hc ⟨rfl, rfl⟩
        refine AnyT.goK tl_ok hS.ops ?_
        intro KK VA hKK hVA
        conv => cbv
        rw [hVA]
        clear hKK hVA KK VA
        refine AnyT.call rfl rfl rfl rfl rfl hq hqb hqn [] (by simp) (by simp) (by (first | rfl | ((conv => cbv); (repeat' apply And.intro) <;> first | rfl | trivial | (first | rfl | omega | (simp (disch := omega) only [hS.glob, wraps, plain, Int.ofNat_eq_natCast]; first | done | rfl | omega | (simp; done) | (simp; omega)) | (simp (disch := omega) only [hS.glob, wraps, plain, Int.ofNat_eq_natCast, Vx.toN]; omega))))) rfl e2 ?_
        rintro r Hc ⟨rfl, rfl⟩
        refine AnyT.goK tl_ok hS.ops ?_
        intro KK VA hKK hVA
        conv => cbv
        rw [hKK]
        exact ⟨⟨rfl, rfl, rfl, rfl, rfl, rfl, rfl, rfl, trivial⟩, rfl⟩
    rintro s H ⟨hcov, rfl⟩
    refine V.to (s' := [(9, .ptr 1 0 0), (12, .int .i64 (ofN i)), (7, .sl 0 0 m), (10, .rows 6 n (spc g)), (11, .int .i64 (ofN n)), (0, .rows 6 n (spc g)), (1, .fn (.func q) [] [.ref [.int .i64 l1], .ref [.int .i64 l2]]), (2, .fn (.func q) [] [.ref [.int .i64 k1], .ref [.int .i64 k2]])]) (H' := [some ⟨27, 6, .arr m (spc h)⟩, some ⟨27, 6, .lit [[.int .i64 y1, .int .i64 y2, .int .i64 p, .bool d, .str u, .int .u64 x]]⟩]) ?_ hcov rfl (by (repeat' first | exact trivial | rfl | exact Nat.le_refl _ | exact (fun _ _ => rfl) | (refine And.intro ?_ ?_) | (simp only [hS.glob, plain]; first | done | omega))) (by rw [hC]; simp)
    clear hcov
    have eS : movS φ ψ (⟨a, b, p, d, u, x⟩ : Sp) = ⟨y1, y2, p, d, u, x⟩ := by simp only [movS, ← hy1, ← hy2]
    rw [eS] at t1 t2
    rw [hu] at t1 t2
    have hk : kpS ⟨y1, y2, p, d, u, x⟩ ↔ y1 < y2 ∧ (d = true → y2 - y1 ≤ 4) := Iff.rfl
    rw [hk] at t1 t2
    refine V.goF (by first | exact trivial | assumption) Try.func33 tl_ok mixed hS.ops [] 400 ?_
    intro VV VA W hVV hVA hW
    conv => cbv
    cases h4 : ilt y1 y2
    case false =>
      conv => cbv
      simp (disch := first | omega | (simp only [hS.glob, wraps, plain, Int.ofNat_eq_natCast]; omega)) only [hS.glob, wraps, plain, Int.ofNat_eq_natCast] at h4
      repeat (refine ⟨by first | (rw [hW]; show ordOk _ _ _ = true; kernel_rfl) | (first | trivial | omega | (simp (disch := omega) only [hS.glob, wraps, plain, Int.ofNat_eq_natCast]; first | done | omega | trivial | (simp; done) | (simp; omega) | (constructor <;> omega)) | (simp (disch := omega) only [hS.glob, wraps, plain, Int.ofNat_eq_natCast, Vx.toN]; omega)), ?_⟩)
      rw [hVV]
      clear hVV hVA VV VA hW W
      exact V.to (hback (i + 1, m, h) ⟨by simp only; omega, by simp only; omega, by simp only; exact t2 (fun h5 => by omega)⟩ (by simp only; omega)) (by (repeat' first | exact trivial | rfl | (refine And.intro ?_ ?_) | (refine sti ?_; (first | rfl | omega | (simp (disch := omega) only [hS.glob, wraps, plain, Int.ofNat_eq_natCast]; first | done | rfl | omega | (simp; done) | (simp; omega)) | (simp (disch := omega) only [hS.glob, wraps, plain, Int.ofNat_eq_natCast, Vx.toN]; omega))) | (refine slq ?_ ?_ ?_ <;> (first | rfl | omega | (simp (disch := omega) only [hS.glob, wraps, plain, Int.ofNat_eq_natCast]; first | done | rfl | omega | (simp; done) | (simp; omega)) | (simp (disch := omega) only [hS.glob, wraps, plain, Int.ofNat_eq_natCast, Vx.toN]; omega))) | (refine ptq ?_ ?_ ?_ <;> (first | rfl | omega | (simp (disch := omega) only [hS.glob, wraps, plain, Int.ofNat_eq_natCast]; first | done | rfl | omega | (simp; done) | (simp; omega)) | (simp (disch := omega) only [hS.glob, wraps, plain, Int.ofNat_eq_natCast, Vx.toN]; omega))) | (refine blq ?_; (first | rfl | omega | (simp (disch := omega) only [hS.glob, wraps, plain, Int.ofNat_eq_natCast]; first | done | rfl | omega | (simp; done) | (simp; omega)) | (simp (disch := omega) only [hS.glob, wraps, plain, Int.ofNat_eq_natCast, Vx.toN]; omega))))) rfl ⟨⟨rfl, rfl, ⟨Nat.le_refl _, fun _ _ => rfl⟩, rfl⟩, trivial⟩ (by rw [hC]; simp)
    simp (disch := first | omega | (simp only [hS.glob, wraps, plain, Int.ofNat_eq_natCast]; omega)) only [hS.glob, wraps, plain, Int.ofNat_eq_natCast] at h4
    have key : (d = true → y2 - y1 ≤ 4) → ∃ h' : Nat → Sp, (∀ j, j < m → h' j = h j) ∧ h' m = ⟨y1, y2, p, d, u, x⟩ ∧ turnU (movS φ ψ) (fun s => kpS (movS φ ψ s)) (i + 1) g = tab (m + 1) h' := fun h5 => by
      obtain ⟨h', e2, e3⟩ := snocF h m (⟨y1, y2, p, d, u, x⟩ : Sp)
      exact ⟨h', e2, e3, by rw [t1 ⟨h4, h5⟩]; exact (tab_snoc rfl e2 e3).symm⟩
    cases d
    · conv => cbv
      repeat (refine ⟨by first | (rw [hW]; show ordOk _ _ _ = true; kernel_rfl) | (first | trivial | omega | (simp (disch := omega) only [hS.glob, wraps, plain, Int.ofNat_eq_natCast]; first | done | omega | trivial | (simp; done) | (simp; omega) | (constructor <;> omega)) | (simp (disch := omega) only [hS.glob, wraps, plain, Int.ofNat_eq_natCast, Vx.toN]; omega)), ?_⟩)
      rw [hVV]
      clear hVV hVA VV VA hW W
      refine V.pick [3] (by decide) (by rw [hC]; exact begins_of rfl) (by rfl) (by rfl) ?_
      obtain ⟨h', e2, e3, e4⟩ := key (fun h5 => absurd h5 (by decide))
      refine V.to (hback (i + 1, m + 1, h') ⟨by simp only; omega, by simp only; omega, e4⟩ (by simp only; omega)) (by (repeat' first | exact trivial | rfl | (refine And.intro ?_ ?_) | (refine sti ?_; (first | rfl | omega | (simp (disch := omega) only [hS.glob, wraps, plain, Int.ofNat_eq_natCast]; first | done | rfl | omega | (simp; done) | (simp; omega)) | (simp (disch := omega) only [hS.glob, wraps, plain, Int.ofNat_eq_natCast, Vx.toN]; omega))) | (refine slq ?_ ?_ ?_ <;> (first | rfl | omega | (simp (disch := omega) only [hS.glob, wraps, plain, Int.ofNat_eq_natCast]; first | done | rfl | omega | (simp; done) | (simp; omega)) | (simp (disch := omega) only [hS.glob, wraps, plain, Int.ofNat_eq_natCast, Vx.toN]; omega))) | (refine ptq ?_ ?_ ?_ <;> (first | rfl | omega | (simp (disch := omega) only [hS.glob, wraps, plain, Int.ofNat_eq_natCast]; first | done | rfl | omega | (simp; done) | (simp; omega)) | (simp (disch := omega) only [hS.glob, wraps, plain, Int.ofNat_eq_natCast, Vx.toN]; omega))) | (refine blq ?_; (first | rfl | omega | (simp (disch := omega) only [hS.glob, wraps, plain, Int.ofNat_eq_natCast]; first | done | rfl | omega | (simp; done) | (simp; omega)) | (simp (disch := omega) only [hS.glob, wraps, plain, Int.ofNat_eq_natCast, Vx.toN]; omega))))) rfl ⟨⟨rfl, rfl, ⟨by show m + 1 ≤ addN m 1; (first | trivial | omega | (simp (disch := omega) only [hS.glob, wraps, plain, Int.ofNat_eq_natCast]; first | done | omega | trivial | (simp; done) | (simp; omega) | (constructor <;> omega)) | (simp (disch := omega) only [hS.glob, wraps, plain, Int.ofNat_eq_natCast, Vx.toN]; omega)), fun j hj => leafR (by simp [hS.glob]) (by simp [hS.glob]) _ (spc h) (spc h') m (fun j hj => by simp only [spc, e2 j hj]) (by simp only [spc, e3]) j hj⟩, rfl⟩, trivial⟩ (by rw [hC]; simp)
    · conv => cbv
      have e5 : isub .i64 y2 y1 = y2 - y1 := by (first | rfl | omega | (simp (disch := omega) only [hS.glob, wraps, plain, Int.ofNat_eq_natCast]; first | done | rfl | omega | (simp; done) | (simp; omega)) | (simp (disch := omega) only [hS.glob, wraps, plain, Int.ofNat_eq_natCast, Vx.toN]; omega))
      simp only [e5]
      obtain ⟨w, hw⟩ : ∃ w, w = y2 - y1 := ⟨_, rfl⟩
      rw [← hw]
      cases h6 : ile w 4
      · conv => cbv
        simp (disch := first | omega | (simp only [hS.glob, wraps, plain, Int.ofNat_eq_natCast]; omega)) only [hS.glob, wraps, plain, Int.ofNat_eq_natCast] at h6
        repeat (refine ⟨by first | (rw [hW]; show ordOk _ _ _ = true; kernel_rfl) | (first | trivial | omega | (simp (disch := omega) only [hS.glob, wraps, plain, Int.ofNat_eq_natCast]; first | done | omega | trivial | (simp; done) | (simp; omega) | (constructor <;> omega)) | (simp (disch := omega) only [hS.glob, wraps, plain, Int.ofNat_eq_natCast, Vx.toN]; omega)), ?_⟩)
        rw [hVV]
        clear hVV hVA VV VA hW W
        exact V.to (hback (i + 1, m, h) ⟨by simp only; omega, by simp only; omega, by simp only; exact t2 (fun h5 => by have := h5.2 rfl; omega)⟩ (by simp only; omega)) (by (repeat' first | exact trivial | rfl | (refine And.intro ?_ ?_) | (refine sti ?_; (first | rfl | omega | (simp (disch := omega) only [hS.glob, wraps, plain, Int.ofNat_eq_natCast]; first | done | rfl | omega | (simp; done) | (simp; omega)) | (simp (disch := omega) only [hS.glob, wraps, plain, Int.ofNat_eq_natCast, Vx.toN]; omega))) | (refine slq ?_ ?_ ?_ <;> (first | rfl | omega | (simp (disch := omega) only [hS.glob, wraps, plain, Int.ofNat_eq_natCast]; first | done | rfl | omega | (simp; done) | (simp; omega)) | (simp (disch := omega) only [hS.glob, wraps, plain, Int.ofNat_eq_natCast, Vx.toN]; omega))) | (refine ptq ?_ ?_ ?_ <;> (first | rfl | omega | (simp (disch := omega) only [hS.glob, wraps, plain, Int.ofNat_eq_natCast]; first | done | rfl | omega | (simp; done) | (simp; omega)) | (simp (disch := omega) only [hS.glob, wraps, plain, Int.ofNat_eq_natCast, Vx.toN]; omega))) | (refine blq ?_; (first | rfl | omega | (simp (disch := omega) only [hS.glob, wraps, plain, Int.ofNat_eq_natCast]; first | done | rfl | omega | (simp; done) | (simp; omega)) | (simp (disch := omega) only [hS.glob, wraps, plain, Int.ofNat_eq_natCast, Vx.toN]; omega))))) rfl ⟨⟨rfl, rfl, ⟨Nat.le_refl _, fun _ _ => rfl⟩, rfl⟩, trivial⟩ (by rw [hC]; simp)
      · conv => cbv
        simp (disch := first | omega | (simp only [hS.glob, wraps, plain, Int.ofNat_eq_natCast]; omega)) only [hS.glob, wraps, plain, Int.ofNat_eq_natCast] at h6
        repeat (refine ⟨by first | (rw [hW]; show ordOk _ _ _ = true; kernel_rfl) | (first | trivial | omega | (simp (disch := omega) only [hS.glob, wraps, plain, Int.ofNat_eq_natCast]; first | done | omega | trivial | (simp; done) | (simp; omega) | (constructor <;> omega)) | (simp (disch := omega) only [hS.glob, wraps, plain, Int.ofNat_eq_natCast, Vx.toN]; omega)), ?_⟩)
        rw [hVV]
        clear hVV hVA VV VA hW W
        refine V.pick [3] (by decide) (by rw [hC]; exact begins_of rfl) (by rfl) (by rfl) ?_
        obtain ⟨h', e2, e3, e4⟩ := key (fun _ => by omega)
        refine V.to (hback (i + 1, m + 1, h') ⟨by simp only; omega, by simp only; omega, e4⟩ (by simp only; omega)) (by (repeat' first | exact trivial | rfl | (refine And.intro ?_ ?_) | (refine sti ?_; (first | rfl | omega | (simp (disch := omega) only [hS.glob, wraps, plain, Int.ofNat_eq_natCast]; first | done | rfl | omega | (simp; done) | (simp; omega)) | (simp (disch := omega) only [hS.glob, wraps, plain, Int.ofNat_eq_natCast, Vx.toN]; omega))) | (refine slq ?_ ?_ ?_ <;> (first | rfl | omega | (simp (disch := omega) only [hS.glob, wraps, plain, Int.ofNat_eq_natCast]; first | done | rfl | omega | (simp; done) | (simp; omega)) | (simp (disch := omega) only [hS.glob, wraps, plain, Int.ofNat_eq_natCast, Vx.toN]; omega))) | (refine ptq ?_ ?_ ?_ <;> (first | rfl | omega | (simp (disch := omega) only [hS.glob, wraps, plain, Int.ofNat_eq_natCast]; first | done | rfl | omega | (simp; done) | (simp; omega)) | (simp (disch := omega) only [hS.glob, wraps, plain, Int.ofNat_eq_natCast, Vx.toN]; omega))) | (refine blq ?_; (first | rfl | omega | (simp (disch := omega) only [hS.glob, wraps, plain, Int.ofNat_eq_natCast]; first | done | rfl | omega | (simp; done) | (simp; omega)) | (simp (disch := omega) only [hS.glob, wraps, plain, Int.ofNat_eq_natCast, Vx.toN]; omega))))) rfl ⟨⟨rfl, rfl, ⟨by show m + 1 ≤ addN m 1; (first | trivial | omega | (simp (disch := omega) only [hS.glob, wraps, plain, Int.ofNat_eq_natCast]; first | done | omega | trivial | (simp; done) | (simp; omega) | (constructor <;> omega)) | (simp (disch := omega) only [hS.glob, wraps, plain, Int.ofNat_eq_natCast, Vx.toN]; omega)), fun j hj => leafR (by simp [hS.glob]) (by simp [hS.glob]) _ (spc h) (spc h') m (fun j hj => by simp only [spc, e2 j hj]) (by simp only [spc, e3]) j hj⟩, rfl⟩, trivial⟩ (by rw [hC]; simp)
end Go.Proofs.Ytandgpkibpggnaa
