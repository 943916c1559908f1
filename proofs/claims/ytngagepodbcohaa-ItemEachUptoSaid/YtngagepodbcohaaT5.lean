/- Contracts of functions by an evaluator of the model: its part T5. -/
import Derived.Test.YtngagepodbcohaaT3
import Derived.Test.YtngagepodbcohaaT4
set_option linter.all false
/- Which spans may be. -/
namespace Go.Proofs.Ytngagepodbcohaa
open Go Vx
set_option maxRecDepth 100000
theorem f36_ok (x c e : Int) (h0 : 0 ≤ x ∧ x ≤ 18446744073709551615) (hc : c = cellsI x) (he : e = errI x) : FSpec Try.prog 36 [.int .u64 x] [] (fun r H' => r = .tup [.int .i64 c, .int .i64 e] ∧ H' = []) := by
  subst hc he
  exact FSpec.ofCalls (fun w => cells_any x h0.1 h0.2 w) (fun ρ μ => .pair)
theorem f71_ok (x c e : Int) (h0 : 0 ≤ x ∧ x ≤ 18446744073709551615) (hc : c = cellsI x) (he : e = errI x) : FSpec Try.prog 71 [.int .u64 x] [] (fun r H' => r = .tup [.int .i64 c, .int .i64 e] ∧ H' = []) := by
  subst hc he
  exact FSpec.ofCalls (fun w => rcells_any x h0.1 h0.2 w) (fun ρ μ => .pair)
/-- A string's bytes. -/
def byS (b : ByteArray) (i : Nat) : Int := (b[i]?.map (fun b => (b.toNat : Int))).getD 0
theorem byS_range (b : ByteArray) (i : Nat) : 0 ≤ byS b i ∧ byS b i ≤ 255 := by
  unfold byS
  cases b[i]? with
  | none => simp
  | some x =>
    have := x.toNat_lt
    simp
    omega
/-- A text that may stand beside others. -/
def okRu (b : ByteArray) : Prop := ∃ l, decU b.size (byS b) = some l ∧ l.length ≤ 20
theorem f43_ok (b : ByteArray) (hb : b.size ≤ 2000000) (R : Bool) (hR : R = true ↔ okRu b) : FSpec Try.prog 43 [.str b] [] (fun r H' => r = .bool R ∧ H' = []) := by
  refine (show FSpec Try.prog 43 [.str b] [] (fun r H' => r = .bool R) from ?_).weaken ?_
  case refine_2 =>
    rintro r H' rfl
    exact ⟨[], by cases H' <;> simp [heapCov], rfl, Nat.le_refl _, rfl, rfl⟩
  obtain ⟨n, hn⟩ : ∃ n, n = b.size := ⟨_, rfl⟩
  obtain ⟨g, hg⟩ : ∃ g, g = byS b := ⟨_, rfl⟩
  obtain ⟨D, hD⟩ : ∃ D, D = decU n g := ⟨_, rfl⟩
  have hR2 : R = true ↔ ∃ l, D = some l ∧ l.length ≤ 20 := by rw [hR, hD, hn, hg]; rfl
  refine FSpec.of (fn := Try.f43) Try.func43 rfl rfl (by simp) fun C hC => ?_
  obtain ⟨iadd, isub, imul, iquo, irem, iband, ibor, ibxor, ibandn, ishl, ishr, iconv, ieq, ine, ilt, ile, igt, ige, bbeq, bbne, bnot, bband, sseq, ssne, sscat, sssub, sslen, sssz, ssbyte, toN, ofN, addN, subN, eqN, ltB, leN, imx, imn, inb, leb, sslt, ltN, fit, ne0, ge0, ssfit, minN, inR, bcol, bstr, isBy, hS⟩ := names
  refine V.goF (by first | exact trivial | assumption) Try.func43 tl_ok mixed hS.ops [] 400 ?_
  intro VV VA W hVV hVA hW
  conv => cbv
  repeat (refine ⟨by first | (rw [hW]; show ordOk _ _ _ = true; kernel_rfl) | (first | trivial | omega | (simp (disch := omega) only [hS.glob, wraps, plain, Int.ofNat_eq_natCast]; first | done | omega | trivial | (simp; done) | (simp; omega) | (constructor <;> omega)) | (simp (disch := omega) only [hS.glob, wraps, plain, Int.ofNat_eq_natCast, Vx.toN]; omega)), ?_⟩)
  rw [hVV]
  clear hVV hVA VV VA hW W
  have hg0 : ∀ i, i < n → 0 ≤ g i ∧ g i ≤ 255 := fun i _ => by rw [hg]; exact byS_range b i
  refine V.to (s' := [(7, .rows 1 n (icol .u8 g))]) (H' := []) ?_ (by
    refine ⟨rwq ?_ (fun j => ?_), trivial⟩
    · rw [hn]; simp only [hS.glob, plain]
    · simp only [hS.glob]; rw [hg]; rfl) rfl trivial (by rw [hC]; simp)
  refine V.call rfl rfl rfl rfl rfl Try.func73 rfl (by decide) [] (by simp) (by simp) (by (first | rfl | ((conv => cbv); (repeat' apply And.intro) <;> first | rfl | trivial | (first | rfl | omega | (simp (disch := omega) only [hS.glob, wraps, plain, Int.ofNat_eq_natCast]; first | done | rfl | omega | (simp; done) | (simp; omega)) | (simp (disch := omega) only [hS.glob, wraps, plain, Int.ofNat_eq_natCast, Vx.toN]; omega))))) rfl (f73_ok n (by omega) g hg0 D hD) ?_
  rintro r Hc (⟨hd, rfl, rfl⟩ | ⟨m, l, hd, rfl, rfl⟩)
  · refine V.goF (by first | exact trivial | assumption) Try.func43 tl_ok mixed hS.ops [] 400 ?_
    intro VV VA W hVV hVA hW
    conv => cbv
    have el0 : ieq 11 0 = false := by (first | rfl | omega | (simp (disch := omega) only [hS.glob, wraps, plain, Int.ofNat_eq_natCast]; first | done | rfl | omega | (simp; done) | (simp; omega)) | (simp (disch := omega) only [hS.glob, wraps, plain, Int.ofNat_eq_natCast, Vx.toN]; omega))
    simp only [el0]
    clear el0
    conv => cbv
    congr 1
    cases R
    · rfl
    · obtain ⟨l, h1, _⟩ := hR2.1 rfl
      rw [hd] at h1
      cases h1
  · refine V.goF (by first | exact trivial | assumption) Try.func43 tl_ok mixed hS.ops [] 400 ?_
    intro VV VA W hVV hVA hW
    conv => cbv
    have el0 : ieq 0 0 = true := by (first | rfl | omega | (simp (disch := omega) only [hS.glob, wraps, plain, Int.ofNat_eq_natCast]; first | done | rfl | omega | (simp; done) | (simp; omega)) | (simp (disch := omega) only [hS.glob, wraps, plain, Int.ofNat_eq_natCast, Vx.toN]; omega))
    simp only [el0]
    clear el0
    conv => cbv
    congr 1
    have key : R = true ↔ m ≤ 20 := by
      rw [hR2, hd]
      constructor
      · rintro ⟨l', h1, h2⟩
        injection h1 with h1
        rw [← h1, tab_len] at h2
        exact h2
      · exact fun h => ⟨_, rfl, by rw [tab_len]; exact h⟩
    cases h : ile (ofN m) 20
    · simp (disch := first | omega | (simp only [hS.glob, wraps, plain, Int.ofNat_eq_natCast]; omega)) only [hS.glob, wraps, plain, Int.ofNat_eq_natCast] at h
      cases R
      · rfl
      · have := key.1 rfl; omega
    · simp (disch := first | omega | (simp only [hS.glob, wraps, plain, Int.ofNat_eq_natCast]; omega)) only [hS.glob, wraps, plain, Int.ofNat_eq_natCast] at h
      exact (key.2 (by omega)).symm
end Go.Proofs.Ytngagepodbcohaa

/- Which spans may be: the walks. -/
namespace Go.Proofs.Ytngagepodbcohaa
open Go Vx
set_option maxRecDepth 100000
def okSp (s : Sp) : Prop := 0 ≤ s.po ∧ s.po ≤ 2 ∧ 0 ≤ s.fr ∧ s.fr < s.to ∧ (s.sc = 0 ∨ errI s.sc = 0 ∧ cellsI s.sc ≠ 0) ∧ (s.co = true → s.to - s.fr ≤ 4 ∧ s.ru.size = 0) ∧ okRu s.ru
/-- What numbers a span may have at all. -/
def inSz (s : Sp) : Prop := (-9223372036854775808 ≤ s.fr ∧ s.fr ≤ 9223372036854775807) ∧ (-9223372036854775808 ≤ s.to ∧ s.to ≤ 9223372036854775807) ∧ (0 ≤ s.sc ∧ s.sc ≤ 18446744073709551615) ∧ s.ru.size ≤ 2000000
theorem sseq_empty (b : ByteArray) : Vx.sseq b ⟨#[]⟩ = true ↔ b.size = 0 := by
  have e : (ByteArray.mk #[]).toList = [] := by rw [ByteArray.toList_eq]
  simp only [Vx.sseq, e, beq_iff_eq, ByteArray.toList_eq]
  constructor
  · intro h
    have := congrArg List.length h
    simp only [Array.length_toList, List.length_nil] at this
    exact this
  · intro h
    have : b.data.size = 0 := h
    rw [Array.eq_empty_of_size_eq_zero this]
theorem okRu_empty (b : ByteArray) (h : b.size = 0) : okRu b := ⟨[], by rw [h]; rfl, by simp⟩
theorem cells_nn (x : Int) : 0 ≤ cellsI x := by
  unfold cellsI
  split <;> omega
theorem f25_ok (a b p : Int) (d : Bool) (u : ByteArray) (x : Int) (hs : inSz ⟨a, b, p, d, u, x⟩) (R : Bool) (hR : R = true ↔ okSp ⟨a, b, p, d, u, x⟩) : FSpec Try.prog 25 [.agg [.int .i64 a, .int .i64 b, .int .i64 p, .bool d, .str u, .int .u64 x]] [] (fun r H' => r = .bool R ∧ H' = []) := by
  refine (show FSpec Try.prog 25 [.agg [.int .i64 a, .int .i64 b, .int .i64 p, .bool d, .str u, .int .u64 x]] [] (fun r H' => r = .bool R) from ?_).weaken ?_
  case refine_2 =>
    rintro r H' rfl
    exact ⟨[], by cases H' <;> simp [heapCov], rfl, Nat.le_refl _, rfl, rfl⟩
  have fin : ∀ b0 : Bool, (b0 = true ↔ okSp ⟨a, b, p, d, u, x⟩) → AV.bool b0 = AV.bool R := fun b0 hb => by
    congr 1
    cases b0 <;> cases R <;> simp_all
  have no : ¬ okSp ⟨a, b, p, d, u, x⟩ → AV.bool false = AV.bool R := fun h => fin false ⟨fun h2 => absurd h2 (by decide), fun h2 => absurd h2 h⟩
  obtain ⟨hs1, hs2, hs3, hs4⟩ := hs
  dsimp only at hs1 hs2 hs3 hs4
  obtain ⟨c, hc⟩ : ∃ c, c = cellsI x := ⟨_, rfl⟩
  obtain ⟨e, he⟩ : ∃ e, e = errI x := ⟨_, rfl⟩
  have hc0 : 0 ≤ c := by rw [hc]; exact cells_nn x
  obtain ⟨B, hB⟩ := bool_of (okRu u)
  have h38 := f43_ok u hs4 B hB
  have hE := sseq_empty u
  have hBe : u.size = 0 → B = true := fun h => hB.2 (okRu_empty u h)
  clear hR
  unfold okSp at fin no
  dsimp only at fin no
  rw [← hc, ← he, ← hB] at fin no
  refine FSpec.of (fn := Try.f25) Try.func25 rfl rfl (by simp) fun C hC => ?_
  obtain ⟨iadd, isub, imul, iquo, irem, iband, ibor, ibxor, ibandn, ishl, ishr, iconv, ieq, ine, ilt, ile, igt, ige, bbeq, bbne, bnot, bband, sseq, ssne, sscat, sssub, sslen, sssz, ssbyte, toN, ofN, addN, subN, eqN, ltB, leN, imx, imn, inb, leb, sslt, ltN, fit, ne0, ge0, ssfit, minN, inR, bcol, bstr, isBy, hS⟩ := names
  refine V.goF (by first | exact trivial | assumption) Try.func25 tl_ok mixed hS.ops [] 400 ?_
  intro VV VA W hVV hVA hW
  conv => cbv
  rw [hVV]
  clear hVV hVA VV VA hW W
  refine V.call rfl rfl rfl rfl rfl Try.func36 rfl (by decide) [] (by simp) (by simp) (by (first | rfl | ((conv => cbv); (repeat' apply And.intro) <;> first | rfl | trivial | (first | rfl | omega | (simp (disch := omega) only [hS.glob, wraps, plain, Int.ofNat_eq_natCast]; first | done | rfl | omega | (simp; done) | (simp; omega)) | (simp (disch := omega) only [hS.glob, wraps, plain, Int.ofNat_eq_natCast, Vx.toN]; omega))))) rfl (f36_ok x c e hs3 hc he) ?_
  rintro r Hc ⟨rfl, rfl⟩
  refine V.goF (by first | exact trivial | assumption) Try.func25 tl_ok mixed hS.ops [] 400 ?_
  intro VV VA W hVV hVA hW
  conv => cbv
  cases h1 : ilt p 0
  case true =>
    conv => cbv
    simp (disch := first | omega | (simp only [hS.glob, wraps, plain, Int.ofNat_eq_natCast]; omega)) only [hS.glob, wraps, plain, Int.ofNat_eq_natCast] at h1
    exact no (by omega)
  conv => cbv
  simp (disch := first | omega | (simp only [hS.glob, wraps, plain, Int.ofNat_eq_natCast]; omega)) only [hS.glob, wraps, plain, Int.ofNat_eq_natCast] at h1
  cases h2 : igt p 2
  case true =>
    conv => cbv
    simp (disch := first | omega | (simp only [hS.glob, wraps, plain, Int.ofNat_eq_natCast]; omega)) only [hS.glob, wraps, plain, Int.ofNat_eq_natCast] at h2
    exact no (by omega)
  conv => cbv
  simp (disch := first | omega | (simp only [hS.glob, wraps, plain, Int.ofNat_eq_natCast]; omega)) only [hS.glob, wraps, plain, Int.ofNat_eq_natCast] at h2
  cases h3 : ilt a 0
  case true =>
    conv => cbv
    simp (disch := first | omega | (simp only [hS.glob, wraps, plain, Int.ofNat_eq_natCast]; omega)) only [hS.glob, wraps, plain, Int.ofNat_eq_natCast] at h3
    exact no (by omega)
  conv => cbv
  simp (disch := first | omega | (simp only [hS.glob, wraps, plain, Int.ofNat_eq_natCast]; omega)) only [hS.glob, wraps, plain, Int.ofNat_eq_natCast] at h3
  cases h4 : ige a b
  case true =>
    conv => cbv
    simp (disch := first | omega | (simp only [hS.glob, wraps, plain, Int.ofNat_eq_natCast]; omega)) only [hS.glob, wraps, plain, Int.ofNat_eq_natCast] at h4
    exact no (by omega)
  conv => cbv
  simp (disch := first | omega | (simp only [hS.glob, wraps, plain, Int.ofNat_eq_natCast]; omega)) only [hS.glob, wraps, plain, Int.ofNat_eq_natCast] at h4
  cases h5 : ine x 0
  case' true =>
    conv => cbv
    cases h6 : ine e 0
    case true =>
      conv => cbv
      simp (disch := first | omega | (simp only [hS.glob, wraps, plain, Int.ofNat_eq_natCast]; omega)) only [hS.glob, wraps, plain, Int.ofNat_eq_natCast] at h5 h6
      exact no (by omega)
    conv => cbv
    cases h7 : ieq c 0
    case true =>
      conv => cbv
      simp (disch := first | omega | (simp only [hS.glob, wraps, plain, Int.ofNat_eq_natCast]; omega)) only [hS.glob, wraps, plain, Int.ofNat_eq_natCast] at h5 h7
      exact no (by omega)
    simp (disch := first | omega | (simp only [hS.glob, wraps, plain, Int.ofNat_eq_natCast]; omega)) only [hS.glob, wraps, plain, Int.ofNat_eq_natCast] at h6 h7
  all_goals
    conv => cbv
    simp (disch := first | omega | (simp only [hS.glob, wraps, plain, Int.ofNat_eq_natCast]; omega)) only [hS.glob, wraps, plain, Int.ofNat_eq_natCast] at h5
    cases d
    · conv => cbv
      rw [hVV]
      clear hVV hVA VV VA hW W
      refine V.call rfl rfl rfl rfl rfl Try.func43 rfl (by decide) [] (by simp) (by simp) (by (first | rfl | ((conv => cbv); (repeat' apply And.intro) <;> first | rfl | trivial | (first | rfl | omega | (simp (disch := omega) only [hS.glob, wraps, plain, Int.ofNat_eq_natCast]; first | done | rfl | omega | (simp; done) | (simp; omega)) | (simp (disch := omega) only [hS.glob, wraps, plain, Int.ofNat_eq_natCast, Vx.toN]; omega))))) rfl h38 ?_
      rintro r Hc ⟨rfl, rfl⟩
      refine V.goF (by first | exact trivial | assumption) Try.func25 tl_ok mixed hS.ops [] 400 ?_
      intro VV VA W hVV hVA hW
      conv => cbv
      exact fin B ⟨fun h => ⟨h1, h2, h3, h4, by omega, (fun h8 => absurd h8 (by decide)), h⟩, fun h => h.2.2.2.2.2.2⟩
    · conv => cbv
      have e1 : isub .i64 b a = b - a := by (first | rfl | omega | (simp (disch := omega) only [hS.glob, wraps, plain, Int.ofNat_eq_natCast]; first | done | rfl | omega | (simp; done) | (simp; omega)) | (simp (disch := omega) only [hS.glob, wraps, plain, Int.ofNat_eq_natCast, Vx.toN]; omega))
      simp only [e1]
      obtain ⟨y, hy⟩ : ∃ y, y = b - a := ⟨_, rfl⟩
      rw [← hy]
      cases h8 : ile y 4
      · conv => cbv
        simp (disch := first | omega | (simp only [hS.glob, wraps, plain, Int.ofNat_eq_natCast]; omega)) only [hS.glob, wraps, plain, Int.ofNat_eq_natCast] at h8
        refine no (fun h => ?_)
        have := (h.2.2.2.2.2.1 rfl).1
        omega
      · conv => cbv
        simp (disch := first | omega | (simp only [hS.glob, wraps, plain, Int.ofNat_eq_natCast]; omega)) only [hS.glob, wraps, plain, Int.ofNat_eq_natCast] at h8
        refine fin _ ?_
        simp only [hS.glob]
        rw [hE]
        exact ⟨fun h => ⟨h1, h2, h3, h4, by omega, fun _ => ⟨by omega, h⟩, hBe h⟩, fun h => (h.2.2.2.2.2.1 (by trivial)).2⟩
theorem f42_ok (a b p : Int) (d : Bool) (u : ByteArray) (x : Int) (hs : inSz ⟨a, b, p, d, u, x⟩) (R : Bool) (hR : R = true ↔ okSp ⟨a, b, p, d, u, x⟩) : FSpec Try.prog 42 [.agg [.int .i64 a, .int .i64 b, .int .i64 p, .bool d, .str u, .int .u64 x]] [] (fun r H' => r = .bool R ∧ H' = []) := by
  refine (show FSpec Try.prog 42 [.agg [.int .i64 a, .int .i64 b, .int .i64 p, .bool d, .str u, .int .u64 x]] [] (fun r H' => r = .bool R) from ?_).weaken ?_
  case refine_2 =>
    rintro r H' rfl
    exact ⟨[], by cases H' <;> simp [heapCov], rfl, Nat.le_refl _, rfl, rfl⟩
  have fin : ∀ b0 : Bool, (b0 = true ↔ okSp ⟨a, b, p, d, u, x⟩) → AV.bool b0 = AV.bool R := fun b0 hb => by
    congr 1
    cases b0 <;> cases R <;> simp_all
  have no : ¬ okSp ⟨a, b, p, d, u, x⟩ → AV.bool false = AV.bool R := fun h => fin false ⟨fun h2 => absurd h2 (by decide), fun h2 => absurd h2 h⟩
  obtain ⟨hs1, hs2, hs3, hs4⟩ := hs
  dsimp only at hs1 hs2 hs3 hs4
  obtain ⟨c, hc⟩ : ∃ c, c = cellsI x := ⟨_, rfl⟩
  obtain ⟨e, he⟩ : ∃ e, e = errI x := ⟨_, rfl⟩
  have hc0 : 0 ≤ c := by rw [hc]; exact cells_nn x
  obtain ⟨n, hn⟩ : ∃ n, n = u.size := ⟨_, rfl⟩
  obtain ⟨g, hg⟩ : ∃ g, g = byS u := ⟨_, rfl⟩
  obtain ⟨D, hD⟩ : ∃ D, D = decU n g := ⟨_, rfl⟩
  have hB : okRu u ↔ ∃ l, D = some l ∧ l.length ≤ 20 := by rw [hD, hn, hg]; rfl
  have hg0 : ∀ i, i < n → 0 ≤ g i ∧ g i ≤ 255 := fun i _ => by rw [hg]; exact byS_range u i
  have hE := sseq_empty u
  clear hR
  unfold okSp at fin no
  dsimp only at fin no
  rw [← hc, ← he, hB] at fin no
  refine FSpec.of (fn := Try.f42) Try.func42 rfl rfl (by simp) fun C hC => ?_
  obtain ⟨iadd, isub, imul, iquo, irem, iband, ibor, ibxor, ibandn, ishl, ishr, iconv, ieq, ine, ilt, ile, igt, ige, bbeq, bbne, bnot, bband, sseq, ssne, sscat, sssub, sslen, sssz, ssbyte, toN, ofN, addN, subN, eqN, ltB, leN, imx, imn, inb, leb, sslt, ltN, fit, ne0, ge0, ssfit, minN, inR, bcol, bstr, isBy, hS⟩ := names
  refine V.goF (by first | exact trivial | assumption) Try.func42 tl_ok mixed hS.ops [] 400 ?_
  intro VV VA W hVV hVA hW
  conv => cbv
  cases h1 : ilt p 0
  case true =>
    conv => cbv
    simp (disch := first | omega | (simp only [hS.glob, wraps, plain, Int.ofNat_eq_natCast]; omega)) only [hS.glob, wraps, plain, Int.ofNat_eq_natCast] at h1
    exact no (fun h => by omega)
  conv => cbv
  simp (disch := first | omega | (simp only [hS.glob, wraps, plain, Int.ofNat_eq_natCast]; omega)) only [hS.glob, wraps, plain, Int.ofNat_eq_natCast] at h1
  cases h2 : igt p 2
  case true =>
    conv => cbv
    simp (disch := first | omega | (simp only [hS.glob, wraps, plain, Int.ofNat_eq_natCast]; omega)) only [hS.glob, wraps, plain, Int.ofNat_eq_natCast] at h2
    exact no (fun h => by omega)
  conv => cbv
  simp (disch := first | omega | (simp only [hS.glob, wraps, plain, Int.ofNat_eq_natCast]; omega)) only [hS.glob, wraps, plain, Int.ofNat_eq_natCast] at h2
  cases h3 : ilt a 0
  case true =>
    conv => cbv
    simp (disch := first | omega | (simp only [hS.glob, wraps, plain, Int.ofNat_eq_natCast]; omega)) only [hS.glob, wraps, plain, Int.ofNat_eq_natCast] at h3
    exact no (fun h => by omega)
  conv => cbv
  simp (disch := first | omega | (simp only [hS.glob, wraps, plain, Int.ofNat_eq_natCast]; omega)) only [hS.glob, wraps, plain, Int.ofNat_eq_natCast] at h3
  cases h4 : ige a b
  case true =>
    conv => cbv
    simp (disch := first | omega | (simp only [hS.glob, wraps, plain, Int.ofNat_eq_natCast]; omega)) only [hS.glob, wraps, plain, Int.ofNat_eq_natCast] at h4
    exact no (fun h => by omega)
  conv => cbv
  simp (disch := first | omega | (simp only [hS.glob, wraps, plain, Int.ofNat_eq_natCast]; omega)) only [hS.glob, wraps, plain, Int.ofNat_eq_natCast] at h4
  cases h5 : ine x 0
  case' true =>
    conv => cbv
    rw [hVV]
    clear hVV hVA VV VA hW W
    refine V.call rfl rfl rfl rfl rfl Try.func71 rfl (by decide) [] (by simp) (by simp) (by (first | rfl | ((conv => cbv); (repeat' apply And.intro) <;> first | rfl | trivial | (first | rfl | omega | (simp (disch := omega) only [hS.glob, wraps, plain, Int.ofNat_eq_natCast]; first | done | rfl | omega | (simp; done) | (simp; omega)) | (simp (disch := omega) only [hS.glob, wraps, plain, Int.ofNat_eq_natCast, Vx.toN]; omega))))) rfl (f71_ok x c e hs3 hc he) ?_
    rintro r Hc ⟨rfl, rfl⟩
    refine V.goF (by first | exact trivial | assumption) Try.func42 tl_ok mixed hS.ops [] 400 ?_
    intro VV VA W hVV hVA hW
    conv => cbv
    cases h6 : ine e 0
    case true =>
      conv => cbv
      simp (disch := first | omega | (simp only [hS.glob, wraps, plain, Int.ofNat_eq_natCast]; omega)) only [hS.glob, wraps, plain, Int.ofNat_eq_natCast] at h5 h6
      exact no (fun h => by omega)
    conv => cbv
    cases h7 : ilt c 1
    case true =>
      conv => cbv
      simp (disch := first | omega | (simp only [hS.glob, wraps, plain, Int.ofNat_eq_natCast]; omega)) only [hS.glob, wraps, plain, Int.ofNat_eq_natCast] at h5 h7
      exact no (fun h => by omega)
    simp (disch := first | omega | (simp only [hS.glob, wraps, plain, Int.ofNat_eq_natCast]; omega)) only [hS.glob, wraps, plain, Int.ofNat_eq_natCast] at h6 h7
  all_goals
    conv => cbv
    simp (disch := first | omega | (simp only [hS.glob, wraps, plain, Int.ofNat_eq_natCast]; omega)) only [hS.glob, wraps, plain, Int.ofNat_eq_natCast] at h5
    cases d
    case' true =>
      conv => cbv
      have e1 : isub .i64 b a = b - a := by (first | rfl | omega | (simp (disch := omega) only [hS.glob, wraps, plain, Int.ofNat_eq_natCast]; first | done | rfl | omega | (simp; done) | (simp; omega)) | (simp (disch := omega) only [hS.glob, wraps, plain, Int.ofNat_eq_natCast, Vx.toN]; omega))
      simp only [e1]
      obtain ⟨y, hy⟩ : ∃ y, y = b - a := ⟨_, rfl⟩
      rw [← hy]
      cases h8 : igt y 4
      case true =>
        conv => cbv
        simp (disch := first | omega | (simp only [hS.glob, wraps, plain, Int.ofNat_eq_natCast]; omega)) only [hS.glob, wraps, plain, Int.ofNat_eq_natCast] at h8
        refine no (fun h => ?_)
        have := (h.2.2.2.2.2.1 rfl).1
        omega
      conv => cbv
      simp (disch := first | omega | (simp only [hS.glob, wraps, plain, Int.ofNat_eq_natCast]; omega)) only [hS.glob, wraps, plain, Int.ofNat_eq_natCast] at h8
      cases h9 : ssne u ⟨#[]⟩
      case true =>
        conv => cbv
        refine no (fun h => ?_)
        have h10 := hE.2 (h.2.2.2.2.2.1 rfl).2
        simp only [hS.glob] at h9
        have h11 : Vx.ssne u ⟨#[]⟩ = !(Vx.sseq u ⟨#[]⟩) := rfl
        rw [h11, h10] at h9
        cases h9
      have h10 : u.size = 0 := by
        refine hE.1 ?_
        simp only [hS.glob] at h9
        have h11 : Vx.ssne u ⟨#[]⟩ = !(Vx.sseq u ⟨#[]⟩) := rfl
        rw [h11] at h9
        simpa using h9
      clear h9
  all_goals
    conv => cbv
    repeat (refine ⟨by first | (rw [hW]; show ordOk _ _ _ = true; kernel_rfl) | (first | trivial | omega | (simp (disch := omega) only [hS.glob, wraps, plain, Int.ofNat_eq_natCast]; first | done | omega | trivial | (simp; done) | (simp; omega) | (constructor <;> omega)) | (simp (disch := omega) only [hS.glob, wraps, plain, Int.ofNat_eq_natCast, Vx.toN]; omega)), ?_⟩)
    rw [hVV]
    clear hVV hVA VV VA hW W
    refine V.to (s' := [(60, .rows 1 n (icol .u8 g))]) (H' := []) ?_ (by
      refine ⟨rwq ?_ (fun j => ?_), trivial⟩
      · rw [hn]; simp only [hS.glob, plain]
      · simp only [hS.glob]; rw [hg]; rfl) rfl trivial (by rw [hC]; simp)
    refine V.call rfl rfl rfl rfl rfl Try.func72 rfl (by decide) [] (by simp) (by simp) (by (first | rfl | ((conv => cbv); (repeat' apply And.intro) <;> first | rfl | trivial | (first | rfl | omega | (simp (disch := omega) only [hS.glob, wraps, plain, Int.ofNat_eq_natCast]; first | done | rfl | omega | (simp; done) | (simp; omega)) | (simp (disch := omega) only [hS.glob, wraps, plain, Int.ofNat_eq_natCast, Vx.toN]; omega))))) rfl (f72_ok n (by omega) g hg0 D hD) ?_
    rintro r Hc (⟨hd, rfl, rfl⟩ | ⟨m, l, hd, rfl, rfl⟩)
    · refine V.goF (by first | exact trivial | assumption) Try.func42 tl_ok mixed hS.ops [] 400 ?_
      intro VV VA W hVV hVA hW
      conv => cbv
      have el0 : ieq 11 0 = false := by (first | rfl | omega | (simp (disch := omega) only [hS.glob, wraps, plain, Int.ofNat_eq_natCast]; first | done | rfl | omega | (simp; done) | (simp; omega)) | (simp (disch := omega) only [hS.glob, wraps, plain, Int.ofNat_eq_natCast, Vx.toN]; omega))
      simp only [el0]
      clear el0
      conv => cbv
      refine no (fun h => ?_)
      obtain ⟨l, h11, _⟩ := h.2.2.2.2.2.2
      rw [hd] at h11
      cases h11
    · refine V.goF (by first | exact trivial | assumption) Try.func42 tl_ok mixed hS.ops [] 400 ?_
      intro VV VA W hVV hVA hW
      conv => cbv
      have el0 : ieq 0 0 = true := by (first | rfl | omega | (simp (disch := omega) only [hS.glob, wraps, plain, Int.ofNat_eq_natCast]; first | done | rfl | omega | (simp; done) | (simp; omega)) | (simp (disch := omega) only [hS.glob, wraps, plain, Int.ofNat_eq_natCast, Vx.toN]; omega))
      simp only [el0]
      clear el0
      conv => cbv
      refine fin _ ?_
      simp only [hS.glob, plain]
      constructor
      · intro h
        refine ⟨h1, h2, h3, h4, by omega, ?_, tab m l, hd, by rw [tab_len]; omega⟩
        first | exact fun h12 => absurd h12 (by decide) | exact fun _ => ⟨by omega, h10⟩
      · intro h
        obtain ⟨l', h11, h12⟩ := h.2.2.2.2.2.2
        rw [hd] at h11
        injection h11 with h11
        rw [← h11, tab_len] at h12
        omega
end Go.Proofs.Ytngagepodbcohaa

/- Which lists of spans are right. -/
namespace Go.Proofs.Ytngagepodbcohaa
open Go Vx
set_option maxRecDepth 100000
structure RightL (g : Nat → Sp) (n : Nat) (z : Int) : Prop where
  len : n ≤ 40
  one : ∀ j, j < n → okSp (g j) ∧ (g j).to ≤ z
  two : ∀ j, j + 1 < n → (g j).to ≤ (g (j + 1)).fr
/-- The same up to a place. -/
def RUp (g : Nat → Sp) (z : Int) (i : Nat) : Prop := (∀ j, j < i → okSp (g j) ∧ (g j).to ≤ z) ∧ ∀ j, j + 1 < i → (g j).to ≤ (g (j + 1)).fr
theorem f24_ok (n : Nat) (hn : n ≤ 2000000) (g : Nat → Sp) (hs : ∀ j, j < n → inSz (g j)) (z : Int) (R : Bool) (hR : R = true ↔ RightL g n z) : FSpec Try.prog 24 [.rows 6 n (spc g), .int .i64 z] [] (fun r H' => r = .bool R ∧ H' = []) := by
  obtain ⟨Q, hQ⟩ : ∃ Q : AV → Hp → Prop, Q = (fun r H' => r = .bool R ∧ H' = []) := ⟨_, rfl⟩
  rw [← hQ]
  have no : ¬ RightL g n z → Q (.bool false) [] := fun h => by
    rw [hQ]
    refine ⟨?_, rfl⟩
    cases R
    · rfl
    · exact absurd (hR.1 rfl) h
  refine FSpec.of (fn := Try.f24) Try.func24 rfl rfl (by simp) fun C hC => ?_
  obtain ⟨iadd, isub, imul, iquo, irem, iband, ibor, ibxor, ibandn, ishl, ishr, iconv, ieq, ine, ilt, ile, igt, ige, bbeq, bbne, bnot, bband, sseq, ssne, sscat, sssub, sslen, sssz, ssbyte, toN, ofN, addN, subN, eqN, ltB, leN, imx, imn, inb, leb, sslt, ltN, fit, ne0, ge0, ssfit, minN, inR, bcol, bstr, isBy, hS⟩ := names
  refine V.goF (by first | exact trivial | assumption) Try.func24 tl_ok mixed hS.ops [] 400 ?_
  intro VV VA W hVV hVA hW
  conv => cbv
  rw [hVV]
  clear hVV hVA VV VA hW W
  refine V.to (s' := [(5, .int .i64 (ofN 0)), (0, .rows 6 n (spc g)), (1, .int .i64 z)]) (H' := []) ?_ (by (repeat' first | exact trivial | rfl | (refine And.intro ?_ ?_) | (refine sti ?_; (first | rfl | omega | (simp (disch := omega) only [hS.glob, wraps, plain, Int.ofNat_eq_natCast]; first | done | rfl | omega | (simp; done) | (simp; omega)) | (simp (disch := omega) only [hS.glob, wraps, plain, Int.ofNat_eq_natCast, Vx.toN]; omega))) | (refine slq ?_ ?_ ?_ <;> (first | rfl | omega | (simp (disch := omega) only [hS.glob, wraps, plain, Int.ofNat_eq_natCast]; first | done | rfl | omega | (simp; done) | (simp; omega)) | (simp (disch := omega) only [hS.glob, wraps, plain, Int.ofNat_eq_natCast, Vx.toN]; omega))) | (refine ptq ?_ ?_ ?_ <;> (first | rfl | omega | (simp (disch := omega) only [hS.glob, wraps, plain, Int.ofNat_eq_natCast]; first | done | rfl | omega | (simp; done) | (simp; omega)) | (simp (disch := omega) only [hS.glob, wraps, plain, Int.ofNat_eq_natCast, Vx.toN]; omega))) | (refine blq ?_; (first | rfl | omega | (simp (disch := omega) only [hS.glob, wraps, plain, Int.ofNat_eq_natCast]; first | done | rfl | omega | (simp; done) | (simp; omega)) | (simp (disch := omega) only [hS.glob, wraps, plain, Int.ofNat_eq_natCast, Vx.toN]; omega))))) rfl trivial (by rw [hC]; simp)
  refine V.loop (γ := Nat) (fun i => i ≤ n ∧ RUp g z i) (fun i => [(5, .int .i64 (ofN i)), (0, .rows 6 n (spc g)), (1, .int .i64 z)]) (fun _ => []) (fun i => n - i) ?_ 0 ⟨Nat.zero_le _, fun j hj => by omega, fun j hj => by omega⟩
  rintro i ⟨hi, hu⟩ hback
  refine V.goF (by first | exact trivial | assumption) Try.func24 tl_ok mixed hS.ops [] 400 ?_
  intro VV VA W hVV hVA hW
  conv => cbv
  cases h1 : ilt (ofN i) (ofN n)
  · conv => cbv
    simp (disch := first | omega | (simp only [hS.glob, wraps, plain, Int.ofNat_eq_natCast]; omega)) only [hS.glob, wraps, plain, Int.ofNat_eq_natCast] at h1
    obtain rfl : i = n := by omega
    rw [hQ]
    refine ⟨?_, rfl⟩
    congr 1
    cases h2 : ile (ofN i) 40
    · simp (disch := first | omega | (simp only [hS.glob, wraps, plain, Int.ofNat_eq_natCast]; omega)) only [hS.glob, wraps, plain, Int.ofNat_eq_natCast] at h2
      cases R
      · rfl
      · have := (hR.1 rfl).len; omega
    · simp (disch := first | omega | (simp only [hS.glob, wraps, plain, Int.ofNat_eq_natCast]; omega)) only [hS.glob, wraps, plain, Int.ofNat_eq_natCast] at h2
      exact (hR.2 ⟨by omega, hu.1, hu.2⟩).symm
  · conv => cbv
    simp (disch := first | omega | (simp only [hS.glob, wraps, plain, Int.ofNat_eq_natCast]; omega)) only [hS.glob, wraps, plain, Int.ofNat_eq_natCast] at h1
    repeat (refine ⟨by first | (rw [hW]; show ordOk _ _ _ = true; kernel_rfl) | (first | trivial | omega | (simp (disch := omega) only [hS.glob, wraps, plain, Int.ofNat_eq_natCast]; first | done | omega | trivial | (simp; done) | (simp; omega) | (constructor <;> omega)) | (simp (disch := omega) only [hS.glob, wraps, plain, Int.ofNat_eq_natCast, Vx.toN]; omega)), ?_⟩)
    simp only [hS.tidy]
    rw [hVV]
    clear hVV hVA VV VA hW W
    obtain ⟨R1, hR1⟩ := bool_of (okSp (g i))
    refine V.call rfl rfl rfl rfl rfl Try.func42 rfl (by decide) [] (by simp) (by simp) (by (first | rfl | ((conv => cbv); (repeat' apply And.intro) <;> first | rfl | trivial | (first | rfl | omega | (simp (disch := omega) only [hS.glob, wraps, plain, Int.ofNat_eq_natCast]; first | done | rfl | omega | (simp; done) | (simp; omega)) | (simp (disch := omega) only [hS.glob, wraps, plain, Int.ofNat_eq_natCast, Vx.toN]; omega))))) rfl (f42_ok (g i).fr (g i).to (g i).po (g i).co (g i).ru (g i).sc (hs i (by omega)) R1 hR1) ?_
    rintro r Hc ⟨rfl, rfl⟩
    refine V.goF (by first | exact trivial | assumption) Try.func24 tl_ok mixed hS.ops [] 400 ?_
    intro VV VA W hVV hVA hW
    conv => cbv
    refine ⟨by rw [hW]; show ordOk _ _ _ = true; kernel_rfl, ?_⟩
    cases R1
    case false =>
      conv => cbv
      exact no (fun h => by have := hR1.2 (h.one i (by omega)).1; cases this)
    have hok := hR1.1 rfl
    conv => cbv
    repeat (refine ⟨by first | (rw [hW]; show ordOk _ _ _ = true; kernel_rfl) | (first | trivial | omega | (simp (disch := omega) only [hS.glob, wraps, plain, Int.ofNat_eq_natCast]; first | done | omega | trivial | (simp; done) | (simp; omega) | (constructor <;> omega)) | (simp (disch := omega) only [hS.glob, wraps, plain, Int.ofNat_eq_natCast, Vx.toN]; omega)), ?_⟩)
    simp only [hS.tidy]
    cases h2 : igt (g i).to z
    case true =>
      conv => cbv
      simp (disch := first | omega | (simp only [hS.glob, wraps, plain, Int.ofNat_eq_natCast]; omega)) only [hS.glob, wraps, plain, Int.ofNat_eq_natCast] at h2
      exact no (fun h => by have := (h.one i (by omega)).2; omega)
    conv => cbv
    simp (disch := first | omega | (simp only [hS.glob, wraps, plain, Int.ofNat_eq_natCast]; omega)) only [hS.glob, wraps, plain, Int.ofNat_eq_natCast] at h2
    have next : (0 < i → (g (i - 1)).to ≤ (g i).fr) → RUp g z (i + 1) := fun h3 => by
      refine ⟨fun j hj => ?_, fun j hj => ?_⟩
      · rcases Nat.lt_or_ge j i with h4 | h4
        · exact hu.1 j h4
        · obtain rfl : j = i := by omega
          exact ⟨hok, h2⟩
      · rcases Nat.lt_or_ge (j + 1) i with h4 | h4
        · exact hu.2 j h4
        · obtain rfl : i = j + 1 := by omega
          exact h3 (by omega)
    cases h3 : igt (ofN i) 0
    · conv => cbv
      simp (disch := first | omega | (simp only [hS.glob, wraps, plain, Int.ofNat_eq_natCast]; omega)) only [hS.glob, wraps, plain, Int.ofNat_eq_natCast] at h3
      repeat (refine ⟨by first | (rw [hW]; show ordOk _ _ _ = true; kernel_rfl) | (first | trivial | omega | (simp (disch := omega) only [hS.glob, wraps, plain, Int.ofNat_eq_natCast]; first | done | omega | trivial | (simp; done) | (simp; omega) | (constructor <;> omega)) | (simp (disch := omega) only [hS.glob, wraps, plain, Int.ofNat_eq_natCast, Vx.toN]; omega)), ?_⟩)
      rw [hVV]
      clear hVV hVA VV VA hW W
      exact V.to (hback (i + 1) ⟨by omega, next (fun h => by omega)⟩ (by omega)) (by (repeat' first | exact trivial | rfl | (refine And.intro ?_ ?_) | (refine sti ?_; (first | rfl | omega | (simp (disch := omega) only [hS.glob, wraps, plain, Int.ofNat_eq_natCast]; first | done | rfl | omega | (simp; done) | (simp; omega)) | (simp (disch := omega) only [hS.glob, wraps, plain, Int.ofNat_eq_natCast, Vx.toN]; omega))) | (refine slq ?_ ?_ ?_ <;> (first | rfl | omega | (simp (disch := omega) only [hS.glob, wraps, plain, Int.ofNat_eq_natCast]; first | done | rfl | omega | (simp; done) | (simp; omega)) | (simp (disch := omega) only [hS.glob, wraps, plain, Int.ofNat_eq_natCast, Vx.toN]; omega))) | (refine ptq ?_ ?_ ?_ <;> (first | rfl | omega | (simp (disch := omega) only [hS.glob, wraps, plain, Int.ofNat_eq_natCast]; first | done | rfl | omega | (simp; done) | (simp; omega)) | (simp (disch := omega) only [hS.glob, wraps, plain, Int.ofNat_eq_natCast, Vx.toN]; omega))) | (refine blq ?_; (first | rfl | omega | (simp (disch := omega) only [hS.glob, wraps, plain, Int.ofNat_eq_natCast]; first | done | rfl | omega | (simp; done) | (simp; omega)) | (simp (disch := omega) only [hS.glob, wraps, plain, Int.ofNat_eq_natCast, Vx.toN]; omega))))) rfl trivial (by rw [hC]; simp)
    · conv => cbv
      simp (disch := first | omega | (simp only [hS.glob, wraps, plain, Int.ofNat_eq_natCast]; omega)) only [hS.glob, wraps, plain, Int.ofNat_eq_natCast] at h3
      have e1 : isub .i64 (ofN i) 1 = ofN (i - 1) := by (first | rfl | omega | (simp (disch := omega) only [hS.glob, wraps, plain, Int.ofNat_eq_natCast]; first | done | rfl | omega | (simp; done) | (simp; omega)) | (simp (disch := omega) only [hS.glob, wraps, plain, Int.ofNat_eq_natCast, Vx.toN]; omega))
      simp only [e1]
      repeat (refine ⟨by first | (rw [hW]; show ordOk _ _ _ = true; kernel_rfl) | (first | trivial | omega | (simp (disch := omega) only [hS.glob, wraps, plain, Int.ofNat_eq_natCast]; first | done | omega | trivial | (simp; done) | (simp; omega) | (constructor <;> omega)) | (simp (disch := omega) only [hS.glob, wraps, plain, Int.ofNat_eq_natCast, Vx.toN]; omega)), ?_⟩)
      simp only [hS.tidy]
      cases h4 : ilt (g i).fr (g (i - 1)).to
      · conv => cbv
        simp (disch := first | omega | (simp only [hS.glob, wraps, plain, Int.ofNat_eq_natCast]; omega)) only [hS.glob, wraps, plain, Int.ofNat_eq_natCast] at h4
        repeat (refine ⟨by first | (rw [hW]; show ordOk _ _ _ = true; kernel_rfl) | (first | trivial | omega | (simp (disch := omega) only [hS.glob, wraps, plain, Int.ofNat_eq_natCast]; first | done | omega | trivial | (simp; done) | (simp; omega) | (constructor <;> omega)) | (simp (disch := omega) only [hS.glob, wraps, plain, Int.ofNat_eq_natCast, Vx.toN]; omega)), ?_⟩)
        rw [hVV]
        clear hVV hVA VV VA hW W
        exact V.to (hback (i + 1) ⟨by omega, next (fun h => h4)⟩ (by omega)) (by (repeat' first | exact trivial | rfl | (refine And.intro ?_ ?_) | (refine sti ?_; (first | rfl | omega | (simp (disch := omega) only [hS.glob, wraps, plain, Int.ofNat_eq_natCast]; first | done | rfl | omega | (simp; done) | (simp; omega)) | (simp (disch := omega) only [hS.glob, wraps, plain, Int.ofNat_eq_natCast, Vx.toN]; omega))) | (refine slq ?_ ?_ ?_ <;> (first | rfl | omega | (simp (disch := omega) only [hS.glob, wraps, plain, Int.ofNat_eq_natCast]; first | done | rfl | omega | (simp; done) | (simp; omega)) | (simp (disch := omega) only [hS.glob, wraps, plain, Int.ofNat_eq_natCast, Vx.toN]; omega))) | (refine ptq ?_ ?_ ?_ <;> (first | rfl | omega | (simp (disch := omega) only [hS.glob, wraps, plain, Int.ofNat_eq_natCast]; first | done | rfl | omega | (simp; done) | (simp; omega)) | (simp (disch := omega) only [hS.glob, wraps, plain, Int.ofNat_eq_natCast, Vx.toN]; omega))) | (refine blq ?_; (first | rfl | omega | (simp (disch := omega) only [hS.glob, wraps, plain, Int.ofNat_eq_natCast]; first | done | rfl | omega | (simp; done) | (simp; omega)) | (simp (disch := omega) only [hS.glob, wraps, plain, Int.ofNat_eq_natCast, Vx.toN]; omega))))) rfl trivial (by rw [hC]; simp)
      · conv => cbv
        simp (disch := first | omega | (simp only [hS.glob, wraps, plain, Int.ofNat_eq_natCast]; omega)) only [hS.glob, wraps, plain, Int.ofNat_eq_natCast] at h4
        refine no (fun h => ?_)
        have := h.two (i - 1) (by omega)
        rw [show i - 1 + 1 = i by omega] at this
        omega
end Go.Proofs.Ytngagepodbcohaa

/- Which lists of spans are right, by the program. -/
namespace Go.Proofs.Ytngagepodbcohaa
open Go Vx
set_option maxRecDepth 100000
theorem f12_ok (n : Nat) (hn : n ≤ 2000000) (g : Nat → Sp) (hs : ∀ j, j < n → inSz (g j)) (z : Int) (R : Bool) (hR : R = true ↔ RightL g n z) : FSpec Try.prog 12 [.rows 6 n (spc g), .int .i64 z] [] (fun r H' => r = .bool R ∧ H' = []) := by
  refine (show FSpec Try.prog 12 [.rows 6 n (spc g), .int .i64 z] [] (fun r H' => r = .bool R) from ?_).weaken ?_
  case refine_2 =>
    rintro r H' rfl
    exact ⟨[], by cases H' <;> simp [heapCov], rfl, Nat.le_refl _, rfl, rfl⟩
  have no : ¬ RightL g n z → AV.bool false = AV.bool R := fun h => by
    cases R
    · rfl
    · exact absurd (hR.1 rfl) h
  obtain ⟨L, hL0, hL⟩ : ∃ L : Nat → Int, L 0 = 0 ∧ ∀ i, L (i + 1) = (g i).to := ⟨fun i => match i with | 0 => 0 | i + 1 => (g i).to, rfl, fun _ => rfl⟩
  refine FSpec.of (fn := Try.f12) Try.func12 rfl rfl (by simp) fun C hC => ?_
  obtain ⟨iadd, isub, imul, iquo, irem, iband, ibor, ibxor, ibandn, ishl, ishr, iconv, ieq, ine, ilt, ile, igt, ige, bbeq, bbne, bnot, bband, sseq, ssne, sscat, sssub, sslen, sssz, ssbyte, toN, ofN, addN, subN, eqN, ltB, leN, imx, imn, inb, leb, sslt, ltN, fit, ne0, ge0, ssfit, minN, inR, bcol, bstr, isBy, hS⟩ := names
  refine V.goF (by first | exact trivial | assumption) Try.func12 tl_ok mixed hS.ops [] 400 ?_
  intro VV VA W hVV hVA hW
  conv => cbv
  rw [hVV]
  clear hVV hVA VV VA hW W
  refine V.to (s' := [(10, .int .i64 (ofN 0)), (5, .int .i64 (L 0)), (8, .rows 6 n (spc g)), (9, .int .i64 (ofN n)), (0, .rows 6 n (spc g)), (1, .int .i64 z)]) (H' := []) ?_ (by
    refine ⟨sti ?_, sti hL0.symm, rfl, rfl, rfl, rfl, trivial⟩
    (first | rfl | omega | (simp (disch := omega) only [hS.glob, wraps, plain, Int.ofNat_eq_natCast]; first | done | rfl | omega | (simp; done) | (simp; omega)) | (simp (disch := omega) only [hS.glob, wraps, plain, Int.ofNat_eq_natCast, Vx.toN]; omega))) rfl trivial (by rw [hC]; simp)
  refine V.loop (γ := Nat) (fun i => i ≤ n ∧ RUp g z i) (fun i => [(10, .int .i64 (ofN i)), (5, .int .i64 (L i)), (8, .rows 6 n (spc g)), (9, .int .i64 (ofN n)), (0, .rows 6 n (spc g)), (1, .int .i64 z)]) (fun _ => []) (fun i => n - i) ?_ 0 ⟨Nat.zero_le _, fun j hj => by omega, fun j hj => by omega⟩
  rintro i ⟨hi, hu⟩ hback
  refine V.goF (by first | exact trivial | assumption) Try.func12 tl_ok mixed hS.ops [] 400 ?_
  intro VV VA W hVV hVA hW
  conv => cbv
  cases h1 : ilt (ofN i) (ofN n)
  · conv => cbv
    simp (disch := first | omega | (simp only [hS.glob, wraps, plain, Int.ofNat_eq_natCast]; omega)) only [hS.glob, wraps, plain, Int.ofNat_eq_natCast] at h1
    obtain rfl : i = n := by omega
    congr 1
    cases h2 : ile (ofN i) 40
    · simp (disch := first | omega | (simp only [hS.glob, wraps, plain, Int.ofNat_eq_natCast]; omega)) only [hS.glob, wraps, plain, Int.ofNat_eq_natCast] at h2
      cases R
      · rfl
      · have := (hR.1 rfl).len; omega
    · simp (disch := first | omega | (simp only [hS.glob, wraps, plain, Int.ofNat_eq_natCast]; omega)) only [hS.glob, wraps, plain, Int.ofNat_eq_natCast] at h2
      exact (hR.2 ⟨by omega, hu.1, hu.2⟩).symm
  · conv => cbv
    simp (disch := first | omega | (simp only [hS.glob, wraps, plain, Int.ofNat_eq_natCast]; omega)) only [hS.glob, wraps, plain, Int.ofNat_eq_natCast] at h1
    repeat (refine ⟨by first | (rw [hW]; show ordOk _ _ _ = true; kernel_rfl) | (first | trivial | omega | (simp (disch := omega) only [hS.glob, wraps, plain, Int.ofNat_eq_natCast]; first | done | omega | trivial | (simp; done) | (simp; omega) | (constructor <;> omega)) | (simp (disch := omega) only [hS.glob, wraps, plain, Int.ofNat_eq_natCast, Vx.toN]; omega)), ?_⟩)
    simp only [hS.tidy]
    rw [hVV]
    clear hVV hVA VV VA hW W
    obtain ⟨R1, hR1⟩ := bool_of (okSp (g i))
    refine V.call rfl rfl rfl rfl rfl Try.func25 rfl (by decide) [] (by simp) (by simp) (by (first | rfl | ((conv => cbv); (repeat' apply And.intro) <;> first | rfl | trivial | (first | rfl | omega | (simp (disch := omega) only [hS.glob, wraps, plain, Int.ofNat_eq_natCast]; first | done | rfl | omega | (simp; done) | (simp; omega)) | (simp (disch := omega) only [hS.glob, wraps, plain, Int.ofNat_eq_natCast, Vx.toN]; omega))))) rfl (f25_ok (g i).fr (g i).to (g i).po (g i).co (g i).ru (g i).sc (hs i (by omega)) R1 hR1) ?_
    rintro r Hc ⟨rfl, rfl⟩
    refine V.goF (by first | exact trivial | assumption) Try.func12 tl_ok mixed hS.ops [] 400 ?_
    intro VV VA W hVV hVA hW
    conv => cbv
    cases R1
    case false =>
      conv => cbv
      exact no (fun h => by have := hR1.2 (h.one i (by omega)).1; cases this)
    have hok := hR1.1 rfl
    have hfr : 0 ≤ (g i).fr := hok.2.2.1
    conv => cbv
    cases h2 : ilt (g i).fr (L i)
    case true =>
      conv => cbv
      simp (disch := first | omega | (simp only [hS.glob, wraps, plain, Int.ofNat_eq_natCast]; omega)) only [hS.glob, wraps, plain, Int.ofNat_eq_natCast] at h2
      refine no (fun h => ?_)
      rcases Nat.eq_zero_or_pos i with rfl | h3
      · omega
      · obtain ⟨q, rfl⟩ : ∃ q, i = q + 1 := ⟨i - 1, by omega⟩
        have := h.two q (by omega)
        rw [hL] at h2
        omega
    conv => cbv
    simp (disch := first | omega | (simp only [hS.glob, wraps, plain, Int.ofNat_eq_natCast]; omega)) only [hS.glob, wraps, plain, Int.ofNat_eq_natCast] at h2
    cases h3 : igt (g i).to z
    case true =>
      conv => cbv
      simp (disch := first | omega | (simp only [hS.glob, wraps, plain, Int.ofNat_eq_natCast]; omega)) only [hS.glob, wraps, plain, Int.ofNat_eq_natCast] at h3
      exact no (fun h => by have := (h.one i (by omega)).2; omega)
    conv => cbv
    simp (disch := first | omega | (simp only [hS.glob, wraps, plain, Int.ofNat_eq_natCast]; omega)) only [hS.glob, wraps, plain, Int.ofNat_eq_natCast] at h3
    rw [hVV]
    clear hVV hVA VV VA hW W
    refine V.to (hback (i + 1) ⟨by omega, fun j hj => ?_, fun j hj => ?_⟩ (by omega)) (by
      refine ⟨sti ?_, sti (hL i).symm, rfl, rfl, rfl, rfl, trivial⟩
      (first | rfl | omega | (simp (disch := omega) only [hS.glob, wraps, plain, Int.ofNat_eq_natCast]; first | done | rfl | omega | (simp; done) | (simp; omega)) | (simp (disch := omega) only [hS.glob, wraps, plain, Int.ofNat_eq_natCast, Vx.toN]; omega))) rfl trivial (by rw [hC]; simp)
    · rcases Nat.lt_or_ge j i with h4 | h4
      · exact hu.1 j h4
      · obtain rfl : j = i := by omega
        exact ⟨hok, h3⟩
    · rcases Nat.lt_or_ge (j + 1) i with h4 | h4
      · exact hu.2 j h4
      · obtain rfl : i = j + 1 := by omega
        rw [hL] at h2
        exact h2
end Go.Proofs.Ytngagepodbcohaa

/- A scalar's style. -/
namespace Go.Proofs.Ytngagepodbcohaa
open Go Vx
set_option maxRecDepth 100000
def bareS (s : Sp) : Sp := ⟨0, 0, s.po, s.co, s.ru, s.sc⟩
def noSp : Sp := ⟨0, 0, 0, false, ⟨#[]⟩, 0⟩
noncomputable def styS (g : Nat → Sp) (n : Nat) (i : Int) : Sp := match atF g i 0 n with | none => noSp | some k => bareS (g k)
theorem RightL.ord {g : Nat → Sp} {n : Nat} {z : Int} (h : RightL g n z) (hs : ∀ j, j < n → inSz (g j)) : Ord g n := by
  refine ⟨fun j hj => ?_, ?_⟩
  · have h1 := (h.one j hj).1
    have h2 := (hs j hj).2.1
    exact ⟨h1.2.2.1, h1.2.2.2.1, h2.2⟩
  · intro j k hjk hk
    obtain ⟨d, rfl⟩ : ∃ d, k = j + 1 + d := ⟨k - (j + 1), by omega⟩
    clear hjk
    induction d with
    | zero => exact h.two j (by omega)
    | succ d ih =>
      have h1 := ih (by omega)
      have h2 := h.two (j + 1 + d) (by omega)
      have h3 := (h.one (j + 1 + d) (by omega)).1.2.2.2.1
      have e : j + 1 + (d + 1) = j + 1 + d + 1 := by omega
      rw [e]
      omega
theorem f35_ok (n : Nat) (hn : n ≤ 2000000) (g : Nat → Sp) (ho : Ord g n) (i : Int) (s : Sp) (hs : s = styS g n i) : FSpec Try.prog 35 [.rows 6 n (spc g), .int .i64 i] [] (fun r H' => r = .agg [.int .i64 s.fr, .int .i64 s.to, .int .i64 s.po, .bool s.co, .str s.ru, .int .u64 s.sc] ∧ H' = []) := by
  refine (show FSpec Try.prog 35 [.rows 6 n (spc g), .int .i64 i] [] (fun r H' => r = .agg [.int .i64 s.fr, .int .i64 s.to, .int .i64 s.po, .bool s.co, .str s.ru, .int .u64 s.sc]) from ?_).weaken ?_
  case refine_2 =>
    rintro r H' rfl
    exact ⟨[], by cases H' <;> simp [heapCov], rfl, Nat.le_refl _, rfl, rfl⟩
  obtain ⟨A, hA⟩ : ∃ A, A = atF g i 0 n := ⟨_, rfl⟩
  unfold styS at hs
  rw [← hA] at hs
  refine FSpec.of (fn := Try.f35) Try.func35 rfl rfl (by simp) fun C hC => ?_
  obtain ⟨iadd, isub, imul, iquo, irem, iband, ibor, ibxor, ibandn, ishl, ishr, iconv, ieq, ine, ilt, ile, igt, ige, bbeq, bbne, bnot, bband, sseq, ssne, sscat, sssub, sslen, sssz, ssbyte, toN, ofN, addN, subN, eqN, ltB, leN, imx, imn, inb, leb, sslt, ltN, fit, ne0, ge0, ssfit, minN, inR, bcol, bstr, isBy, hS⟩ := names
  refine V.goF (by first | exact trivial | assumption) Try.func35 tl_ok mixed hS.ops [] 400 ?_
  intro VV VA W hVV hVA hW
  conv => cbv
  rw [hVV]
  clear hVV hVA VV VA hW W
  refine V.call rfl rfl rfl rfl rfl Try.func34 rfl (by decide) [] (by simp) (by simp) (by (first | rfl | ((conv => cbv); (repeat' apply And.intro) <;> first | rfl | trivial | (first | rfl | omega | (simp (disch := omega) only [hS.glob, wraps, plain, Int.ofNat_eq_natCast]; first | done | rfl | omega | (simp; done) | (simp; omega)) | (simp (disch := omega) only [hS.glob, wraps, plain, Int.ofNat_eq_natCast, Vx.toN]; omega))))) rfl (f34_ok n hn g ho i A hA) ?_
  rintro r Hc ⟨rfl, ⟨h1, rfl⟩ | ⟨k, h1, z, hz, rfl⟩⟩
  · rw [h1] at hs
    subst hs
    refine V.goF (by first | exact trivial | assumption) Try.func35 tl_ok mixed hS.ops [] 400 ?_
    intro VV VA W hVV hVA hW
    conv => cbv
    trivial
  · rw [h1] at hs
    subst hs
    refine V.goF (by first | exact trivial | assumption) Try.func35 tl_ok mixed hS.ops [] 400 ?_
    intro VV VA W hVV hVA hW
    conv => cbv
    have hk : k < n := by
      have := (show ∀ (m a : Nat), atF g i a m = some k → k < a + m from ?_) n 0 (hA.symm.trans h1)
      · omega
      · intro m
        induction m with
        | zero => intro a h; cases h
        | succ m ih =>
          intro a h
          rw [atF] at h
          split at h
          · injection h with h; omega
          · have := ih (a + 1) h; omega
    have ez : z = ofN k := by (first | rfl | omega | (simp (disch := omega) only [hS.glob, wraps, plain, Int.ofNat_eq_natCast]; first | done | rfl | omega | (simp; done) | (simp; omega)) | (simp (disch := omega) only [hS.glob, wraps, plain, Int.ofNat_eq_natCast, Vx.toN]; omega))
    rw [ez]
    repeat (refine ⟨by first | (rw [hW]; show ordOk _ _ _ = true; kernel_rfl) | (first | trivial | omega | (simp (disch := omega) only [hS.glob, wraps, plain, Int.ofNat_eq_natCast]; first | done | omega | trivial | (simp; done) | (simp; omega) | (constructor <;> omega)) | (simp (disch := omega) only [hS.glob, wraps, plain, Int.ofNat_eq_natCast, Vx.toN]; omega)), ?_⟩)
    simp only [hS.tidy]
    rw [hVV]
    clear hVV hVA VV VA hW W
    refine V.call rfl rfl rfl rfl rfl Try.func63 rfl (by decide) [] (by simp) (by simp) (by (first | rfl | ((conv => cbv); (repeat' apply And.intro) <;> first | rfl | trivial | (first | rfl | omega | (simp (disch := omega) only [hS.glob, wraps, plain, Int.ofNat_eq_natCast]; first | done | rfl | omega | (simp; done) | (simp; omega)) | (simp (disch := omega) only [hS.glob, wraps, plain, Int.ofNat_eq_natCast, Vx.toN]; omega))))) rfl (f63_ok (g k).fr (g k).to (g k).po (g k).co (g k).ru (g k).sc) ?_
    rintro r Hc ⟨rfl, rfl⟩
    refine V.goF (by first | exact trivial | assumption) Try.func35 tl_ok mixed hS.ops [] 400 ?_
    intro VV VA W hVV hVA hW
    conv => cbv
    trivial
end Go.Proofs.Ytngagepodbcohaa
