/- Contracts of functions by an evaluator of the model: its part T10. -/
import Derived.Test.YtandgpkibpggnaaV2
import Derived.Test.YtandgpkibpggnaaT9
set_option linter.all false
/- Regions that draw their order, held against their trees by numbers' bits. -/
namespace Vx
open Go
def bitm (l : List Nat) : Nat := l.foldr (fun i a => a ||| (1 <<< i)) 0
theorem bitm_test (l : List Nat) (i : Nat) : (bitm l).testBit i = decide (i ∈ l) := by
  induction l with
  | nil => simp [bitm]
  | cons a l ih =>
    have : bitm (a :: l) = bitm l ||| (1 <<< a) := rfl
    rw [this, Nat.testBit_or, ih, Nat.one_shiftLeft, Nat.testBit_two_pow]
    by_cases h : a = i
    · subst h; simp
    · simp [h, Ne.symm h]
theorem sub_bits {a b : Nat} (h : a &&& b = a) : ∀ i, a.testBit i = true → b.testBit i = true := by
  intro i hi
  rw [← h, Nat.testBit_and] at hi
  simp at hi
  exact hi.2
theorem sub_bits' {a b : Nat} (h : ∀ i, a.testBit i = true → b.testBit i = true) : a &&& b = a := by
  refine Nat.eq_of_testBit_eq fun i => ?_
  rw [Nat.testBit_and]
  cases ha : a.testBit i with
  | false => rfl
  | true => rw [h i ha]; rfl
theorem beq_sub' {a b : Nat} (h : ∀ i, a.testBit i = true → b.testBit i = true) : Nat.beq (Nat.land a b) a = true := by
  have e : Nat.land a b = a := sub_bits' h
  rw [e]
  exact Nat.beq_refl a
def preOf (ops : Array Oper) (j : Nat) : Nat := match ops[j]? with
  | some o => bitm ((o.after.toList.filter fun e => Region.binds .any e).map (·.on))
  | none => 0
def rdyF (n : Nat) (pre : List Nat) (L : Nat) : List Nat := (List.range n).filter fun i => !(L.testBit i) && Nat.beq (Nat.land (pre.getD i 0) L) (pre.getD i 0)
def okRow (ops : Array Oper) (ws : Array Bool) (oj : Oper) (m n : Nat) : Bool :=
  (List.range n).all fun k => !(m.testBit k) || (match ops[k]? with
    | some ok => ws.getD k false || (oj.apart ops ok && (decide (kind oj.op = .pure) || decide (kind ok.op ≠ .other)))
    | none => true)
def tabF (ops : Array Oper) (n : Nat) (pre okm : List Nat) (prm : Nat) : Bool :=
  Nat.beq ops.size n && decide (pre = (List.range n).map (preOf ops)) && (List.range n).all fun j => match ops[j]? with
    | some oj => (!(prm.testBit j) || decide (kind oj.op = .pure) || decide (kind oj.op = .read)) && okRow ops (waitSet ops j) oj (okm.getD j 0) n
    | none => false
def treeF (n full : Nat) (pre okm : List Nat) (prm : Nat) : Tr → Nat → Option (List Nat) → Nat → Bool
  | .done, _, .none, L => Nat.beq (Nat.land full L) full
  | .one j .none t, k + 1, .none, L => ((!(L.testBit j) && Nat.blt j n && Nat.beq (Nat.land (pre.getD j 0) L) (pre.getD j 0) && prm.testBit j && Nat.beq (Nat.land full (Nat.lor (Nat.lor L (okm.getD j 0)) (1 <<< j))) full) ||
      (match rdyF n pre L with | [i] => Nat.beq i j | _ => false)) && treeF n full pre okm prm t k .none (Nat.lor L (1 <<< j))
  | .alt j t rest, k + 1, .none, L => match rdyF n pre L with
    | i :: rs => Nat.beq i j && treeF n full pre okm prm t k .none (Nat.lor L (1 <<< j)) && treeF n full pre okm prm rest (k + 1) (some rs) L
    | [] => false
  | .alt j t rest, k + 1, some (i :: rs), L => Nat.beq i j && Nat.blt j n && treeF n full pre okm prm t k .none (Nat.lor L (1 <<< j)) && treeF n full pre okm prm rest (k + 1) (some rs) L
  | .none, _ + 1, some [], _ => true
  | _, _, _, _ => false
structure CorrF (n : Nat) (listed : Array Bool) (L : Nat) : Prop where
  size : listed.size = n
  bit : ∀ i, listed.getD i false = L.testBit i
section
variable {T : Tab} {ops : Array Oper} {n : Nat} {pre okm : List Nat} {prm : Nat}
theorem CorrF.set {listed : Array Bool} {L j : Nat} (h : CorrF n listed L) (hj : j < n) : CorrF n (listed.setIfInBounds j true) (Nat.lor L (1 <<< j)) := by
  refine ⟨by simp [h.size], fun i => ?_⟩
  have hb := h.bit i
  show _ = (L ||| 1 <<< j).testBit i
  rw [Nat.testBit_or, Nat.one_shiftLeft, Nat.testBit_two_pow]
  by_cases e : j = i
  · subst e
    have : j < listed.size := by rw [h.size]; exact hj
    simp [this]
  · rw [getD_set_ne false e, hb]
    simp [e]
theorem CorrF.true_ {listed : Array Bool} {L i : Nat} (h : CorrF n listed L) (hi : i < n) : listed.getD i true = L.testBit i := by
  rw [← h.bit i]
  have : i < listed.size := by rw [h.size]; exact hi
  simp [this]
theorem ready_eq (hn : ops.size = n) (hp : pre = (List.range n).map (preOf ops)) {listed : Array Bool} {L : Nat} (h : CorrF n listed L) : Region.ready .any ops listed = rdyF n pre L := by
  unfold Region.ready rdyF
  rw [hn]
  refine List.filter_congr fun i hi => ?_
  have hi' : i < n := by simpa using hi
  have hlt : i < ops.size := by omega
  rw [h.true_ hi']
  congr 1
  have e1 : pre.getD i 0 = preOf ops i := by rw [hp]; simp [List.getD_eq_getElem?_getD, hi']
  rw [e1]
  unfold preOf
  rw [Array.getElem?_eq_getElem hlt]
  simp only [Option.map_some, Option.getD_some]
  generalize ops[i] = o
  refine Bool.eq_iff_iff.2 ?_
  constructor
  · intro hall
    refine beq_sub' fun q hq => ?_
    rw [bitm_test] at hq
    simp only [decide_eq_true_eq, List.mem_map, List.mem_filter] at hq
    obtain ⟨e, ⟨he, hb⟩, rfl⟩ := hq
    have := (Array.all_eq_true_iff_forall_mem.1 hall) e (by simpa using he)
    rw [hb] at this
    simp only [Bool.not_true, Bool.false_or] at this
    rw [← h.bit]
    exact this
  · intro hb
    have hs := sub_bits (Nat.eq_of_beq_eq_true hb)
    refine Array.all_eq_true_iff_forall_mem.2 fun e he => ?_
    cases hbd : Region.binds .any e with
    | false => rfl
    | true =>
      simp only [Bool.not_true, Bool.false_or]
      rw [h.bit]
      refine hs e.on ?_
      rw [bitm_test]
      simp only [decide_eq_true_eq, List.mem_map, List.mem_filter]
      exact ⟨e, ⟨by simpa using he, hbd⟩, rfl⟩
theorem treeF_sound (hn : ops.size = n) (hp : pre = (List.range n).map (preOf ops)) {full : Nat} (hfull : ∀ i, i < n → full.testBit i = true)
    (hrow : ∀ j oj, ops[j]? = some oj → (prm.testBit j = true → kind oj.op = .pure ∨ kind oj.op = .read) ∧ okRow ops (waitSet ops j) oj (okm.getD j 0) n = true) :
    ∀ (t : Tr) (k : Nat) (rs : Option (List Nat)) (listed : Array Bool) (L : Nat), CorrF n listed L → (∀ l, rs = some l → ∀ i ∈ l, i < n) → treeF n full pre okm prm t k rs L = true → treeB T ops t k rs listed = true := by
  intro t
  induction t with
  | done =>
    intro k rs listed L hc _ h
    cases rs with
    | some l => cases k <;> simp [treeF] at h
    | none =>
      simp only [treeF] at h
      have h := Nat.eq_of_beq_eq_true h
      simp only [treeB, List.isEmpty_iff]
      rw [ready_eq hn hp hc]
      unfold rdyF
      refine List.filter_eq_nil_iff.2 fun i hi => ?_
      have hi' : i < n := by simpa using hi
      have := sub_bits h i (hfull i hi')
      simp [this]
  | none =>
    intro k rs listed L _ _ h
    cases rs with
    | none => cases k <;> simp [treeF] at h
    | some l => cases k <;> cases l <;> simp [treeF, treeB] at h ⊢
  | one j e t ih =>
    intro k rs listed L hc _ h
    cases e with
    | some e => cases k <;> cases rs <;> simp [treeF] at h
    | none =>
    cases rs with
    | some l => cases k <;> simp [treeF] at h
    | none =>
    cases k with
    | zero => simp [treeF] at h
    | succ k =>
      simp only [treeF, Bool.and_eq_true, Bool.or_eq_true] at h
      obtain ⟨h1, h2⟩ := h
      have hjn : j ∈ Region.ready .any ops listed ∧ ((Region.ready .any ops listed).contains j && firstB T ops listed j .none || decide (Region.ready .any ops listed = [j])) = true := by
        rw [ready_eq hn hp hc]
        rcases h1 with ⟨⟨⟨⟨a1, a2⟩, a3⟩, a4⟩, a5⟩ | h1
        · have hlt : j < n := by simpa using a2
          have hmem : j ∈ rdyF n pre L := by
            unfold rdyF
            rw [List.mem_filter]
            exact ⟨by simpa using hlt, by rw [a1, a3]; rfl⟩
          refine ⟨hmem, ?_⟩
          have hlt' : j < ops.size := by omega
          have hoj := Array.getElem?_eq_getElem hlt'
          obtain ⟨r1, r2⟩ := hrow j _ hoj
          have hfirst : firstB T ops listed j .none = true := by
            unfold firstB
            rw [hoj]
            simp only [Bool.and_eq_true, Bool.or_eq_true, decide_eq_true_eq]
            refine ⟨r1 a4, ?_⟩
            refine List.all_eq_true.2 fun q hq => ?_
            have hq' : q < n := by rw [← hn]; simpa using hq
            have hbit := sub_bits (Nat.eq_of_beq_eq_true a5) q (hfull q hq')
            have hbit' : (L ||| okm.getD j 0 ||| 1 <<< j).testBit q = true := hbit
            rw [Nat.testBit_or, Nat.testBit_or, Nat.one_shiftLeft, Nat.testBit_two_pow] at hbit'
            simp only [Bool.or_eq_true, decide_eq_true_eq] at hbit' ⊢
            rcases hbit' with (hb | hb) | hb
            · exact .inl (.inr (by rw [hc.true_ hq']; exact hb))
            · right
              have := List.all_eq_true.1 r2 q (by simpa using hq')
              rw [hb] at this
              simp only [Bool.not_true, Bool.false_or] at this
              have hq2 : q < ops.size := by omega
              rw [Array.getElem?_eq_getElem hq2] at this ⊢
              simp only [Bool.or_eq_true, Bool.and_eq_true, decide_eq_true_eq] at this ⊢
              rcases this with h | ⟨h, h'⟩
              · exact .inl h
              · exact .inr ⟨h, .inl h'⟩
            · exact .inl (.inl (by simp [hb]))
          have hcon : (rdyF n pre L).contains j = true := by simpa using hmem
          rw [hcon, hfirst]
          rfl
        · split at h1
          · rename_i i heq
            have := Nat.eq_of_beq_eq_true h1
            subst this
            rw [heq]
            exact ⟨by simp, by simp⟩
          · cases h1
      have hlt : j < n := by
        obtain ⟨_, o, ho, _⟩ := mem_ready.1 hjn.1
        have := (Array.getElem?_eq_some_iff.1 ho).1
        omega
      simp only [treeB, Bool.and_eq_true]
      exact ⟨hjn.2, ih k .none _ _ (hc.set hlt) (fun l hl => by cases hl) h2⟩
  | alt j t rest iht ihr =>
    intro k rs listed L hc hrs h
    cases k with
    | zero => cases rs <;> simp [treeF] at h
    | succ k =>
    cases rs with
    | none =>
      simp only [treeF] at h
      simp only [treeB]
      have hall : ∀ i ∈ Region.ready .any ops listed, i < n := fun i hi => by
        obtain ⟨_, o, ho, _⟩ := mem_ready.1 hi
        have := (Array.getElem?_eq_some_iff.1 ho).1
        omega
      rw [ready_eq hn hp hc] at hall ⊢
      split at h
      · rename_i i rs heq
        rw [heq] at hall ⊢
        simp only [Bool.and_eq_true] at h ⊢
        obtain ⟨⟨h1, h2⟩, h3⟩ := h
        have hij := Nat.eq_of_beq_eq_true h1
        have hlt : j < n := by rw [← hij]; exact hall i (by simp)
        exact ⟨⟨h1, iht k .none _ _ (hc.set hlt) (fun l hl => by cases hl) h2⟩, ihr (k + 1) (some rs) _ _ hc (fun l hl q hq => by injection hl with hl; subst hl; exact hall q (by simp [hq])) h3⟩
      · cases h
    | some l =>
      cases l with
      | nil => simp [treeF] at h
      | cons i rs =>
        simp only [treeF, Bool.and_eq_true] at h
        simp only [treeB, Bool.and_eq_true]
        obtain ⟨⟨⟨h1, h4⟩, h2⟩, h3⟩ := h
        have hlt : j < n := by simpa using h4
        exact ⟨⟨h1, iht k .none _ _ (hc.set hlt) (fun l hl => by cases hl) h2⟩, ihr (k + 1) (some rs) _ _ hc (fun l hl q hq => by injection hl with hl; subst hl; exact hrs _ rfl q (by simp [hq])) h3⟩
/-- A tree that fits, by tables of bits. -/
theorem ordOk_of {t : Tr} (n : Nat) (pre okm : List Nat) (prm : Nat) (h1 : tabF ops n pre okm prm = true) (h2 : treeF n (2 ^ n - 1) pre okm prm t n .none 0 = true) : ordOk T ops t = true := by
  simp only [tabF, Bool.and_eq_true, decide_eq_true_eq] at h1
  obtain ⟨⟨a1, a2⟩, a3⟩ := h1
  have hn : ops.size = n := Nat.eq_of_beq_eq_true a1
  unfold ordOk
  rw [hn]
  refine treeF_sound hn a2 (full := 2 ^ n - 1) (fun i hi => ?_) (fun j oj hoj => ?_) t n .none _ 0 ⟨by simp, fun i => ?_⟩ (fun l hl => by cases hl) h2
  · rw [Nat.testBit_two_pow_sub_one]; simpa using hi
  · have hj : j < n := by rw [← hn]; exact (Array.getElem?_eq_some_iff.1 hoj).1
    have := List.all_eq_true.1 a3 j (by simpa using hj)
    rw [hoj] at this
    simp only [Bool.and_eq_true, Bool.or_eq_true, decide_eq_true_eq, Bool.not_eq_true'] at this
    refine ⟨fun hp => ?_, this.2⟩
    rcases this.1 with (h | h) | h
    · rw [hp] at h; cases h
    · exact .inl h
    · exact .inr h
  · rw [Nat.zero_testBit, Array.getD_eq_getD_getElem?, Array.getElem?_replicate]
    split <;> rfl
end
end Vx

/- Plain laws of the shortest spans. -/
namespace Go.Proofs.Ytandgpkibpggnaa
open Go Vx
structure NInv (g : Nat → Sp) (z : Int) (i m : Nat) (f : Nat → Sp) : Prop where
  eq : normU i g = tab m f
  le : m ≤ i
  one : ∀ j, j < m → okSp (f j) ∧ (f j).to ≤ z ∧ bareS (f j) ≠ noSp
  two : ∀ j, j + 1 < m → (f j).to ≤ (f (j + 1)).fr ∧ ¬ joinS (f j) (f (j + 1))
  last : 0 < m → 0 < i ∧ (f (m - 1)).to ≤ (g (i - 1)).to
  into : ∀ x j, j < m → inSp (f j) x → ∃ q, q < i ∧ inSp (g q) x ∧ bareS (g q) = bareS (f j)
  from_ : ∀ x q, q < i → inSp (g q) x → bareS (g q) = noSp ∨ ∃ j, j < m ∧ inSp (f j) x ∧ bareS (f j) = bareS (g q)
theorem norm_inv {g : Nat → Sp} {n : Nat} {z : Int} (h : RightL g n z) : ∀ i, i ≤ n → ∃ m f, NInv g z i m f := by
  intro i
  induction i with
  | zero => exact fun _ => ⟨0, fun _ => noSp, rfl, Nat.le_refl _, fun j hj => by omega, fun j hj => by omega, fun hj => by omega, fun x j hj => by omega, fun x q hq => by omega⟩
  | succ i ih =>
    intro hi
    obtain ⟨m, f, I⟩ := ih (by omega)
    have o := h.one i (by omega)
    have hlast : 0 < m → (f (m - 1)).to ≤ (g i).fr := fun hm => by
      obtain ⟨h1, h2⟩ := I.last hm
      have h3 := h.all (i - 1) i (by omega) (by omega)
      omega
    have hlt := o.1.2.2.2.1
    obtain ⟨n1, n2, n3⟩ := nstep_tab m f (g i)
    have hu : normU (i + 1) g = nstep (tab m f) (g i) := by rw [normU_succ, I.eq]
    by_cases hz : bareS (g i) = noSp
    · refine ⟨m, f, by rw [hu, n1 hz], by have := I.le; omega, I.one, I.two, fun hm => ⟨by omega, ?_⟩, fun x j hj hx => ?_, fun x q hq hx => ?_⟩
      · have := hlast hm
        rw [Nat.add_sub_cancel]
        omega
      · obtain ⟨q, h1, h2⟩ := I.into x j hj hx
        exact ⟨q, by omega, h2⟩
      · rcases Nat.lt_or_ge q i with h1 | h1
        · exact I.from_ x q h1 hx
        · obtain rfl : q = i := by omega
          exact .inl hz
    · by_cases hj : 0 < m ∧ joinS (f (m - 1)) (g i)
      · obtain ⟨hm, hj⟩ := hj
        obtain ⟨f', e1⟩ : ∃ f' : Nat → Sp, ∀ j, f' j = if j = m - 1 then { f (m - 1) with to := (g i).to } else f j := ⟨_, fun _ => rfl⟩
        have e2 : f' (m - 1) = { f (m - 1) with to := (g i).to } := by rw [e1, if_pos rfl]
        have e3 : ∀ j, j ≠ m - 1 → f' j = f j := fun j hj => by rw [e1, if_neg hj]
        have ot := I.one (m - 1) (by omega)
        obtain ⟨j1, j2, j3, j4⟩ := hj
        have hco : (f (m - 1)).co = false := by
          have := congrArg Sp.co j2
          simp only [bareS] at this
          rw [this]; exact j3
        have hb' : ∀ j, bareS (f' j) = bareS (f j) := fun j => by
          by_cases hq : j = m - 1
          · subst hq; rw [e2]; rfl
          · rw [e3 j hq]
        have hfr : ∀ j, (f' j).fr = (f j).fr := fun j => by
          by_cases hq : j = m - 1
          · subst hq; rw [e2]
          · rw [e3 j hq]
        have hto : ∀ j, j < m → (f j).to ≤ (f' j).to := fun j hj => by
          by_cases hq : j = m - 1
          · subst hq; rw [e2]; show (f (m - 1)).to ≤ (g i).to; omega
          · rw [e3 j hq]; exact Int.le_refl _
        refine ⟨m, f', by rw [hu, n3 hz hm ⟨j1, j2, j3, j4⟩ f' (fun j hj => e3 j (by omega)) e2], by have := I.le; omega, fun j hj => ?_, fun j hj => ?_, fun _ => ⟨by omega, ?_⟩, fun x j hj hx => ?_, fun x q hq hx => ?_⟩
        · rw [hb' j]
          by_cases hq : j = m - 1
          · subst hq
            rw [e2]
            obtain ⟨⟨o1, o2, o3, o4, o5, o6, o7⟩, o8, o9⟩ := ot
            exact ⟨⟨o1, o2, o3, by show (f (m - 1)).fr < (g i).to; omega, o5, (fun hc => by have hc2 : (f (m - 1)).co = true := hc; rw [hco] at hc2; cases hc2), o7⟩, o.2, o9⟩
          · rw [e3 j hq]; exact I.one j hj
        · obtain ⟨t1, t2⟩ := I.two j hj
          rw [e3 j (by omega)]
          by_cases hq : j + 1 = m - 1
          · rw [hq, e2]
            rw [hq] at t1 t2
            exact ⟨t1, t2⟩
          · rw [e3 (j + 1) hq]; exact ⟨t1, t2⟩
        · rw [e2, Nat.add_sub_cancel]; exact Int.le_refl _
        · rw [hb' j]
          by_cases hq : j = m - 1
          · subst hq
            rw [e2] at hx
            unfold inSp at hx
            dsimp only at hx
            by_cases hq2 : x < (f (m - 1)).to
            · obtain ⟨q, h1, h2⟩ := I.into x (m - 1) hj ⟨hx.1, hq2⟩
              exact ⟨q, by omega, h2⟩
            · exact ⟨i, by omega, ⟨by omega, hx.2⟩, j2.symm⟩
          · rw [e3 j hq] at hx
            obtain ⟨q, h1, h2⟩ := I.into x j hj hx
            exact ⟨q, by omega, h2⟩
        · rcases Nat.lt_or_ge q i with h1 | h1
          · rcases I.from_ x q h1 hx with h2 | ⟨j, h2, h3, h4⟩
            · exact .inl h2
            · refine .inr ⟨j, h2, ⟨by rw [hfr]; exact h3.1, ?_⟩, by rw [hb']; exact h4⟩
              have := hto j h2
              have := h3.2
              omega
          · obtain rfl : q = i := by omega
            refine .inr ⟨m - 1, by omega, ⟨by rw [hfr]; have := ot.1.2.2.2.1; have := hx.1; omega, by rw [e2]; exact hx.2⟩, by rw [hb']; exact j2⟩
      · obtain ⟨f', e1, e2⟩ := snocF f m (g i)
        have hno : m = 0 ∨ ¬ joinS (f (m - 1)) (g i) := by
          rcases Nat.eq_zero_or_pos m with h0 | h0
          · exact .inl h0
          · exact .inr fun hx => hj ⟨h0, hx⟩
        refine ⟨m + 1, f', by rw [hu, n2 hz hno f' e1 e2], by have := I.le; omega, fun j hj => ?_, fun j hj => ?_, fun _ => ⟨by omega, ?_⟩, fun x j hj hx => ?_, fun x q hq hx => ?_⟩
        · rcases Nat.lt_or_ge j m with h1 | h1
          · rw [e1 j h1]; exact I.one j h1
          · obtain rfl : j = m := by omega
            rw [e2]; exact ⟨o.1, o.2, hz⟩
        · rw [e1 j (by omega)]
          rcases Nat.lt_or_ge (j + 1) m with h1 | h1
          · rw [e1 (j + 1) h1]; exact I.two j h1
          · obtain rfl : m = j + 1 := by omega
            rw [e2]
            refine ⟨hlast (by omega), ?_⟩
            rcases hno with h2 | h2
            · omega
            · exact h2
        · rw [Nat.add_sub_cancel, Nat.add_sub_cancel, e2]; exact Int.le_refl _
        · rcases Nat.lt_or_ge j m with h1 | h1
          · rw [e1 j h1] at hx ⊢
            obtain ⟨q, h3, h4⟩ := I.into x j h1 hx
            exact ⟨q, by omega, h4⟩
          · obtain rfl : j = m := by omega
            rw [e2] at hx ⊢
            exact ⟨i, by omega, hx, rfl⟩
        · rcases Nat.lt_or_ge q i with h1 | h1
          · rcases I.from_ x q h1 hx with h2 | ⟨j, h2, h3, h4⟩
            · exact .inl h2
            · exact .inr ⟨j, by omega, by rw [e1 j h2]; exact h3, by rw [e1 j h2]; exact h4⟩
          · obtain rfl : q = i := by omega
            exact .inr ⟨m, by omega, by rw [e2]; exact hx, by rw [e2]⟩
/-- What the shortest spans are. -/
theorem norm_law {g : Nat → Sp} {n : Nat} {z : Int} (h : RightL g n z) (N : List Sp) (hN : N = normU n g) :
    RightT N z ∧ N.length ≤ n ∧ normU N.length (gL N) = N ∧ ∀ x, styS (gL N) N.length x = styS g n x := by
  obtain ⟨m, f, I⟩ := norm_inv h n (Nat.le_refl _)
  have hr : RightL f m z := ⟨by have := I.le; have := h.len; omega, fun j hj => ⟨(I.one j hj).1, (I.one j hj).2.1⟩, fun j hj => (I.two j hj).1⟩
  have e : N = tab m f := by rw [hN, I.eq]
  have hrt : RightT N z := by rw [e]; exact hr.list
  refine ⟨hrt, by rw [hN]; exact normU_len n g, ?_, fun x => ?_⟩
  · have key : ∀ j, j ≤ m → normU j f = tab j f := by
      intro j
      induction j with
      | zero => intro _; rfl
      | succ j ih =>
        intro hj
        rw [normU_succ, ih (by omega)]
        refine (nstep_tab j f (f j)).2.1 (I.one j (by omega)).2.2 ?_ f (fun _ _ => rfl) rfl
        rcases Nat.eq_zero_or_pos j with h0 | h0
        · exact .inl h0
        · obtain ⟨q, rfl⟩ : ∃ q, j = q + 1 := ⟨j - 1, by omega⟩
          exact .inr (I.two q (by omega)).2
    have e2 : normU N.length (gL N) = normU m f := by
      unfold normU
      rw [tab_gL, ← e]
    rw [e2, key m (Nat.le_refl _), e]
  · obtain ⟨m1, m2⟩ := styT hrt x
    obtain ⟨q1, q2⟩ := sty_mem h x
    by_cases hx : ∃ j, j < m ∧ inSp (f j) x
    · obtain ⟨j, hj, hx⟩ := hx
      rw [m1 (f j) (by rw [e]; exact mem_tab.2 ⟨j, hj, rfl⟩) hx]
      obtain ⟨q, hq, h1, h2⟩ := I.into x j hj hx
      rw [q1 (g q) (mem_tab.2 ⟨q, hq, rfl⟩) h1, h2]
    · rw [m2 (fun t ht hx2 => by
        rw [e] at ht
        obtain ⟨j, hj, rfl⟩ := mem_tab.1 ht
        exact hx ⟨j, hj, hx2⟩)]
      by_cases hy : ∃ q, q < n ∧ inSp (g q) x
      · obtain ⟨q, hq, hy⟩ := hy
        rw [q1 (g q) (mem_tab.2 ⟨q, hq, rfl⟩) hy]
        rcases I.from_ x q hq hy with h1 | ⟨j, h1, h2, _⟩
        · exact h1.symm
        · exact absurd ⟨j, h1, h2⟩ hx
      · rw [q2 (fun t ht hx2 => by
          obtain ⟨q, hq, rfl⟩ := mem_tab.1 ht
          exact hy ⟨q, hq, hx2⟩)]
/-- Members are no larger. -/
theorem norm_mem {g : Nat → Sp} {n : Nat} {z : Int} (h : RightL g n z) (hs : ∀ j, j < n → inSz (g j)) (N : List Sp) (hN : N = normU n g) : ∀ t ∈ N, inSz t := by
  obtain ⟨m, f, I⟩ := norm_inv h n (Nat.le_refl _)
  intro t ht
  rw [hN, I.eq] at ht
  obtain ⟨j, hj, rfl⟩ := mem_tab.1 ht
  have o := I.one j hj
  obtain ⟨q, hq, h1, h2⟩ := I.into (f j).fr j hj ⟨Int.le_refl _, o.1.2.2.2.1⟩
  have hq2 := hs q hq
  have e1 := congrArg Sp.ru h2
  have e2 := congrArg Sp.sc h2
  simp only [bareS] at e1 e2
  obtain ⟨s1, s2, s3, s4⟩ := hq2
  have hto : (f j).to ≤ 9223372036854775807 := by
    obtain ⟨p, hp, h3, h4⟩ := I.into ((f j).to - 1) j hj ⟨by have := o.1.2.2.2.1; omega, by omega⟩
    have := (hs p hp).2.1.2
    have := h3.2
    omega
  refine ⟨⟨by have := o.1.2.2.1; omega, by have := o.1.2.2.2.1; omega⟩, ⟨by have := o.1.2.2.1; have := o.1.2.2.2.1; omega, hto⟩, by rw [← e2]; exact s3, by rw [← e1]; exact s4⟩
end Go.Proofs.Ytandgpkibpggnaa

/- The law SpanNormal. -/
namespace Go.Proofs.Ytandgpkibpggnaa
open Go Vx
set_option maxRecDepth 100000 in
set_option maxHeartbeats 8000000 in
theorem f5_ok (n : Nat) (hn : n ≤ 10000000000000) (g : Nat → Sp) (hs : ∀ j, j < n → inW (g j)) (z q : Int) : FSpec Try.prog 5 [.rows 6 n (spc g), .int .i64 z, .int .i64 q] [] (fun r H' => r = .bool true ∧ H' = []) := by
  refine (show FSpec Try.prog 5 [.rows 6 n (spc g), .int .i64 z, .int .i64 q] [] (fun r H' => r = .bool true) from ?_).weaken ?_
  case refine_2 =>
    rintro r H' rfl
    exact ⟨[], by cases H' <;> simp [heapCov], rfl, Nat.le_refl _, rfl, rfl⟩
  refine FSpec.of (fn := Try.f5) Try.func5 rfl rfl (by simp) fun C hC => ?_
  obtain ⟨iadd, isub, imul, iquo, irem, iband, ibor, ibxor, ibandn, ishl, ishr, iconv, ieq, ine, ilt, ile, igt, ige, bbeq, bbne, bnot, bband, sseq, ssne, sscat, sssub, sslen, sssz, ssbyte, toN, ofN, addN, subN, eqN, ltB, leN, imx, imn, inb, leb, sslt, ltN, fit, ne0, ge0, ssfit, minN, inR, bcol, bstr, isBy, hS⟩ := names
  obtain ⟨R, hR⟩ := bool_of (fitsL g n z)
  refine V.goF (by first | exact trivial | assumption) Try.func5 tl_ok mixed hS.ops [] 400 ?_
  intro VV VA W hVV hVA hW
  conv => cbv
  rw [hVV]
  clear hVV hVA VV VA hW W
  refine V.call rfl rfl rfl rfl rfl Try.func18 rfl (by decide) [] (by simp) (by simp) (by (first | rfl | ((conv => cbv); (repeat' apply And.intro) <;> first | rfl | trivial | (first | rfl | omega | (simp (disch := omega) only [hS.glob, wraps, plain, Int.ofNat_eq_natCast]; first | done | rfl | omega | (simp; done) | (simp; omega)) | (simp (disch := omega) only [hS.glob, wraps, plain, Int.ofNat_eq_natCast, Vx.toN]; omega))))) rfl (f18_ok n hn g hs z R hR) ?_
  rintro r0 Hc ⟨rfl, rfl⟩
  refine V.goF (by first | exact trivial | assumption) Try.func5 tl_ok mixed hS.ops [] 400 ?_
  intro VV VA W hVV hVA hW
  conv => cbv
  cases R
  case false =>
    conv => cbv
    rw [hVV]
    clear hVV hVA VV VA hW W
    refine V.call rfl rfl rfl rfl rfl Try.func8 rfl (by decide) [] (by simp) (by simp) (by (first | rfl | ((conv => cbv); (repeat' apply And.intro) <;> first | rfl | trivial | (first | rfl | omega | (simp (disch := omega) only [hS.glob, wraps, plain, Int.ofNat_eq_natCast]; first | done | rfl | omega | (simp; done) | (simp; omega)) | (simp (disch := omega) only [hS.glob, wraps, plain, Int.ofNat_eq_natCast, Vx.toN]; omega))))) rfl f8_ok ?_
    rintro r0 Hc ⟨rfl, rfl⟩
    refine V.goF (by first | exact trivial | assumption) Try.func5 tl_ok mixed hS.ops [] 400 ?_
    intro VV VA W hVV hVA hW
    conv => cbv
    trivial
  obtain ⟨c1, c2, c3, c4, hr⟩ := hR.1 rfl
  have hz : ∀ j, j < n → inSz (g j) := fun j hj => (hs j hj).sz (c4 j hj)
  have ho := hr.ord hz
  obtain ⟨N, hN⟩ : ∃ N, N = normU n g := ⟨_, rfl⟩
  obtain ⟨k1, k2, k3, k4⟩ := norm_law hr N hN
  have k5 := norm_mem hr hz N hN
  have h14 := LstR.frozen (f14_ok n (by omega) g N hN)
  have h14b := LstR.frozen (f14_ok N.length (by omega) (gL N) N k3.symm)
  have hz2 : ∀ j, j < N.length → inSz (gL N j) := fun j hj => by
    have e := tab_gL N
    exact k5 _ (by rw [← e]; exact mem_tab.2 ⟨j, hj, by rw [e]⟩)
  have hrm := k1.gl
  obtain ⟨m, hm⟩ : ∃ m, m = N.length := ⟨_, rfl⟩
  obtain ⟨h, hh⟩ : ∃ h, h = gL N := ⟨_, rfl⟩
  rw [← hm, ← hh] at h14 h14b hrm k4
  rw [← hm] at k2
  rw [← hm, ← hh] at hz2
  have hom := hrm.ord hz2
  have h10 := f10_ok m (by omega) h hz2 z true ⟨fun _ => hrm, fun _ => rfl⟩
  have s1 := f13_ok m m h h true ⟨fun _ => ⟨rfl, fun _ _ => rfl⟩, fun _ => rfl⟩
  have sty : ∀ x, ∃ s : Sp, FSpec Try.prog 16 [.rows 6 n (spc g), .int .i64 x] [] (fun r H' => r = .agg [.int .i64 s.fr, .int .i64 s.to, .int .i64 s.po, .bool s.co, .str s.ru, .int .u64 s.sc] ∧ H' = []) ∧
      FSpec Try.prog 16 [.rows 6 m (spc h), .int .i64 x] [] (fun r H' => r = .agg [.int .i64 s.fr, .int .i64 s.to, .int .i64 s.po, .bool s.co, .str s.ru, .int .u64 s.sc] ∧ H' = []) := fun x =>
    ⟨styS g n x, f16_ok n (by omega) g ho x _ rfl, f16_ok m (by omega) h hom x _ (k4 x).symm⟩
  clear k1 k3 k4 k5 hN hm hh
  conv => cbv
  rw [hVV]
  clear hVV hVA VV VA hW W
  refine V.call rfl rfl rfl rfl rfl Try.func14 rfl (by decide) [] (by simp) (by simp) (by (first | rfl | ((conv => cbv); (repeat' apply And.intro) <;> first | rfl | trivial | (first | rfl | omega | (simp (disch := omega) only [hS.glob, wraps, plain, Int.ofNat_eq_natCast]; first | done | rfl | omega | (simp; done) | (simp; omega)) | (simp (disch := omega) only [hS.glob, wraps, plain, Int.ofNat_eq_natCast, Vx.toN]; omega))))) rfl h14 ?_
  rintro r0 Hc ⟨rfl, rfl⟩
  refine V.goF (by first | exact trivial | assumption) Try.func5 tl_ok mixed hS.ops [] 400 ?_
  intro VV VA W hVV hVA hW
  conv => cbv
  rw [hVV]
  clear hVV hVA VV VA hW W
  refine V.call rfl rfl rfl rfl rfl Try.func10 rfl (by decide) [] (by simp) (by simp) (by (first | rfl | ((conv => cbv); (repeat' apply And.intro) <;> first | rfl | trivial | (first | rfl | omega | (simp (disch := omega) only [hS.glob, wraps, plain, Int.ofNat_eq_natCast]; first | done | rfl | omega | (simp; done) | (simp; omega)) | (simp (disch := omega) only [hS.glob, wraps, plain, Int.ofNat_eq_natCast, Vx.toN]; omega))))) rfl h10 ?_
  rintro r0 Hc ⟨rfl, rfl⟩
  refine V.goF (by first | exact trivial | assumption) Try.func5 tl_ok mixed hS.ops [] 400 ?_
  intro VV VA W hVV hVA hW
  conv => cbv
  cases h1 : igt (ofN m) (ofN n)
  case true =>
    simp (disch := first | omega | (simp only [hS.glob, wraps, plain, Int.ofNat_eq_natCast]; omega)) only [hS.glob, wraps, plain, Int.ofNat_eq_natCast] at h1
    omega
  conv => cbv
  rw [hVV]
  clear hVV hVA VV VA hW W
  refine V.call rfl rfl rfl rfl rfl Try.func14 rfl (by decide) [] (by simp) (by simp) (by (first | rfl | ((conv => cbv); (repeat' apply And.intro) <;> first | rfl | trivial | (first | rfl | omega | (simp (disch := omega) only [hS.glob, wraps, plain, Int.ofNat_eq_natCast]; first | done | rfl | omega | (simp; done) | (simp; omega)) | (simp (disch := omega) only [hS.glob, wraps, plain, Int.ofNat_eq_natCast, Vx.toN]; omega))))) rfl h14b ?_
  rintro r0 Hc ⟨rfl, rfl⟩
  refine V.goF (by first | exact trivial | assumption) Try.func5 tl_ok mixed hS.ops [] 400 ?_
  intro VV VA W hVV hVA hW
  conv => cbv
  rw [hVV]
  clear hVV hVA VV VA hW W
  refine V.call rfl rfl rfl rfl rfl Try.func13 rfl (by decide) [] (by simp) (by simp) (by (first | rfl | ((conv => cbv); (repeat' apply And.intro) <;> first | rfl | trivial | (first | rfl | omega | (simp (disch := omega) only [hS.glob, wraps, plain, Int.ofNat_eq_natCast]; first | done | rfl | omega | (simp; done) | (simp; omega)) | (simp (disch := omega) only [hS.glob, wraps, plain, Int.ofNat_eq_natCast, Vx.toN]; omega))))) rfl s1 ?_
  rintro r0 Hc ⟨rfl, rfl⟩
  refine V.goF (by first | exact trivial | assumption) Try.func5 tl_ok mixed hS.ops [] 400 ?_
  intro VV VA W hVV hVA hW
  conv => cbv
  rw [hVV]
  clear hVV hVA VV VA hW W
  refine V.to (s' := [(9, .int .i64 (ofN 0)), (8, .rows 6 m (spc h)), (0, .rows 6 n (spc g)), (1, .int .i64 z), (2, .int .i64 q)]) (H' := []) ?_ (by (repeat' first | exact trivial | rfl | (refine And.intro ?_ ?_) | (refine sti ?_; (first | rfl | omega | (simp (disch := omega) only [hS.glob, wraps, plain, Int.ofNat_eq_natCast]; first | done | rfl | omega | (simp; done) | (simp; omega)) | (simp (disch := omega) only [hS.glob, wraps, plain, Int.ofNat_eq_natCast, Vx.toN]; omega))) | (refine slq ?_ ?_ ?_ <;> (first | rfl | omega | (simp (disch := omega) only [hS.glob, wraps, plain, Int.ofNat_eq_natCast]; first | done | rfl | omega | (simp; done) | (simp; omega)) | (simp (disch := omega) only [hS.glob, wraps, plain, Int.ofNat_eq_natCast, Vx.toN]; omega))) | (refine ptq ?_ ?_ ?_ <;> (first | rfl | omega | (simp (disch := omega) only [hS.glob, wraps, plain, Int.ofNat_eq_natCast]; first | done | rfl | omega | (simp; done) | (simp; omega)) | (simp (disch := omega) only [hS.glob, wraps, plain, Int.ofNat_eq_natCast, Vx.toN]; omega))) | (refine blq ?_; (first | rfl | omega | (simp (disch := omega) only [hS.glob, wraps, plain, Int.ofNat_eq_natCast]; first | done | rfl | omega | (simp; done) | (simp; omega)) | (simp (disch := omega) only [hS.glob, wraps, plain, Int.ofNat_eq_natCast, Vx.toN]; omega))))) rfl trivial (by rw [hC]; simp)
  refine V.loop (γ := Nat) (fun i => i ≤ n) (fun i => [(9, .int .i64 (ofN i)), (8, .rows 6 m (spc h)), (0, .rows 6 n (spc g)), (1, .int .i64 z), (2, .int .i64 q)]) (fun _ => []) (fun i => n - i) ?_ 0 (Nat.zero_le _)
  rintro i hi hback
  refine V.goF (by first | exact trivial | assumption) Try.func5 tl_ok mixed hS.ops [(10, .none)] 400 ?_
  intro VV VA W hVV hVA hW
  conv => cbv
  cases h4 : ilt (ofN i) (ofN n)
  · conv => cbv
    rw [hVV]
    clear hVV hVA VV VA hW W
    refine V.call rfl rfl rfl rfl rfl Try.func8 rfl (by decide) [] (by simp) (by simp) (by (first | rfl | ((conv => cbv); (repeat' apply And.intro) <;> first | rfl | trivial | (first | rfl | omega | (simp (disch := omega) only [hS.glob, wraps, plain, Int.ofNat_eq_natCast]; first | done | rfl | omega | (simp; done) | (simp; omega)) | (simp (disch := omega) only [hS.glob, wraps, plain, Int.ofNat_eq_natCast, Vx.toN]; omega))))) rfl f8_ok ?_
    rintro r0 Hc ⟨rfl, rfl⟩
    obtain ⟨⟨a1, b1, p1, d1, u1, x1⟩, y1, y2⟩ := sty q
    dsimp only at y1 y2
    refine V.goF (by first | exact trivial | assumption) Try.func5 tl_ok mixed hS.ops [] 400 ?_
    intro VV VA W hVV hVA hW
    conv => cbv
    rw [hVV]
    clear hVV hVA VV VA hW W
    refine V.call rfl rfl rfl rfl rfl Try.func16 rfl (by decide) [] (by simp) (by simp) (by (first | rfl | ((conv => cbv); (repeat' apply And.intro) <;> first | rfl | trivial | (first | rfl | omega | (simp (disch := omega) only [hS.glob, wraps, plain, Int.ofNat_eq_natCast]; first | done | rfl | omega | (simp; done) | (simp; omega)) | (simp (disch := omega) only [hS.glob, wraps, plain, Int.ofNat_eq_natCast, Vx.toN]; omega))))) rfl y2 ?_
    rintro r0 Hc ⟨rfl, rfl⟩
    refine V.goF (by first | exact trivial | assumption) Try.func5 tl_ok mixed hS.ops [] 400 ?_
    intro VV VA W hVV hVA hW
    conv => cbv
    rw [hVV]
    clear hVV hVA VV VA hW W
    refine V.call rfl rfl rfl rfl rfl Try.func16 rfl (by decide) [] (by simp) (by simp) (by (first | rfl | ((conv => cbv); (repeat' apply And.intro) <;> first | rfl | trivial | (first | rfl | omega | (simp (disch := omega) only [hS.glob, wraps, plain, Int.ofNat_eq_natCast]; first | done | rfl | omega | (simp; done) | (simp; omega)) | (simp (disch := omega) only [hS.glob, wraps, plain, Int.ofNat_eq_natCast, Vx.toN]; omega))))) rfl y1 ?_
    rintro r0 Hc ⟨rfl, rfl⟩
    refine V.goF (by first | exact trivial | assumption) Try.func5 tl_ok mixed hS.ops [] 400 ?_
    intro VV VA W hVV hVA hW
    conv => cbv
    have e6 : bband (ieq a1 a1) (bband (ieq b1 b1) (bband (ieq p1 p1) (bband (bbeq d1 d1) (bband (sseq u1 u1) (bband (ieq x1 x1) true))))) = true := by
      have key := (sp_all ⟨a1, b1, p1, d1, u1, x1⟩ ⟨a1, b1, p1, d1, u1, x1⟩).2 rfl
      simp only [hS.glob]
      exact key
    simp only [e6]
    try trivial
  conv => cbv
  simp (disch := first | omega | (simp only [hS.glob, wraps, plain, Int.ofNat_eq_natCast]; omega)) only [hS.glob, wraps, plain, Int.ofNat_eq_natCast] at h4
  rw [hVV]
  clear hVV hVA VV VA hW W
  obtain ⟨fr, hfr⟩ : ∃ fr, fr = (g i).fr := ⟨_, rfl⟩
  obtain ⟨to_, hto⟩ : ∃ to_, to_ = (g i).to := ⟨_, rfl⟩
  obtain ⟨y, hy⟩ : ∃ y, y = to_ - 1 := ⟨_, rfl⟩
  obtain ⟨⟨a1, b1, p1, d1, u1, x1⟩, f1, f2⟩ := sty fr
  obtain ⟨⟨a2, b2, p2, d2, u2, x2⟩, f3, f4⟩ := sty y
  obtain ⟨⟨a3, b3, p3, d3, u3, x3⟩, f5, f6⟩ := sty to_
  dsimp only at f1 f2 f3 f4 f5 f6
  have e1 : bband (ieq a1 a1) (bband (ieq b1 b1) (bband (ieq p1 p1) (bband (bbeq d1 d1) (bband (sseq u1 u1) (bband (ieq x1 x1) true))))) = true := by
    have key := (sp_all ⟨a1, b1, p1, d1, u1, x1⟩ ⟨a1, b1, p1, d1, u1, x1⟩).2 rfl
    simp only [hS.glob]
    exact key
  have e2 : bband (ieq a2 a2) (bband (ieq b2 b2) (bband (ieq p2 p2) (bband (bbeq d2 d2) (bband (sseq u2 u2) (bband (ieq x2 x2) true))))) = true := by
    have key := (sp_all ⟨a2, b2, p2, d2, u2, x2⟩ ⟨a2, b2, p2, d2, u2, x2⟩).2 rfl
    simp only [hS.glob]
    exact key
  have e3 : bband (ieq a3 a3) (bband (ieq b3 b3) (bband (ieq p3 p3) (bband (bbeq d3 d3) (bband (sseq u3 u3) (bband (ieq x3 x3) true))))) = true := by
    have key := (sp_all ⟨a3, b3, p3, d3, u3, x3⟩ ⟨a3, b3, p3, d3, u3, x3⟩).2 rfl
    simp only [hS.glob]
    exact key
  have eb : bnot true = false := by simp only [hS.glob]; rfl
  have zz := hz i (by omega)
  have zr := (hr.one i (by omega)).1
  have ey : isub .i64 to_ 1 = y := by
    have h7 := zz.2.1
    have h8 := zr.2.2.1
    have h9 := zr.2.2.2.1
    rw [hy]
    (first | rfl | omega | (simp (disch := omega) only [hS.glob, wraps, plain, Int.ofNat_eq_natCast]; first | done | rfl | omega | (simp; done) | (simp; omega)) | (simp (disch := omega) only [hS.glob, wraps, plain, Int.ofNat_eq_natCast, Vx.toN]; omega))
  refine V.drawnK tl_ok mixed (.one 0 .none (.one 1 .none (.one 2 .none (.one 3 .none (.one 4 .none (.one 5 .none (.one 7 .none (.one 8 .none (.one 9 .none (.alt 6 (.one 10 .none (.one 11 .none (.one 12 .none (.one 13 .none (.one 14 .none (.one 15 .none (.one 16 .none (.one 17 .none (.one 18 .none (.one 19 .none (.one 20 .none (.one 21 .none (.one 22 .none (.one 24 .none (.one 25 .none (.one 26 .none (.alt 23 (.one 27 .none (.one 28 .none (.one 29 .none (.one 30 .none (.one 31 .none (.one 32 .none (.one 33 .none (.one 34 .none (.one 35 .none (.one 36 .none (.one 37 .none (.one 38 .none (.one 39 .none (.one 40 .none (.one 42 .none (.one 43 .none (.one 44 .none (.alt 41 (.one 45 .none (.one 46 .none (.one 47 .none (.one 48 .none (.one 49 .none (.one 50 .none .done)))))) (.alt 45 (.one 46 .none (.alt 41 (.one 47 .none (.one 48 .none (.one 49 .none (.one 50 .none .done)))) (.alt 47 (.one 41 .none (.one 48 .none (.one 49 .none (.one 50 .none .done)))) .none))) .none))))))))))))))))))) (.alt 27 (.one 28 .none (.alt 23 (.one 29 .none (.one 30 .none (.one 31 .none (.one 32 .none (.one 33 .none (.one 34 .none (.one 35 .none (.one 36 .none (.one 37 .none (.one 38 .none (.one 39 .none (.one 40 .none (.one 42 .none (.one 43 .none (.one 44 .none (.alt 41 (.one 45 .none (.one 46 .none (.one 47 .none (.one 48 .none (.one 49 .none (.one 50 .none .done)))))) (.alt 45 (.one 46 .none (.alt 41 (.one 47 .none (.one 48 .none (.one 49 .none (.one 50 .none .done)))) (.alt 47 (.one 41 .none (.one 48 .none (.one 49 .none (.one 50 .none .done)))) .none))) .none))))))))))))))))) (.alt 29 (.one 30 .none (.one 23 .none (.one 31 .none (.one 32 .none (.one 33 .none (.one 34 .none (.one 35 .none (.one 36 .none (.one 37 .none (.one 38 .none (.one 39 .none (.one 40 .none (.one 42 .none (.one 43 .none (.one 44 .none (.alt 41 (.one 45 .none (.one 46 .none (.one 47 .none (.one 48 .none (.one 49 .none (.one 50 .none .done)))))) (.alt 45 (.one 46 .none (.alt 41 (.one 47 .none (.one 48 .none (.one 49 .none (.one 50 .none .done)))) (.alt 47 (.one 41 .none (.one 48 .none (.one 49 .none (.one 50 .none .done)))) .none))) .none))))))))))))))))) .none))) .none)))))))))))))))))) (.alt 10 (.one 11 .none (.alt 6 (.one 12 .none (.one 13 .none (.one 14 .none (.one 15 .none (.one 16 .none (.one 17 .none (.one 18 .none (.one 19 .none (.one 20 .none (.one 21 .none (.one 22 .none (.one 24 .none (.one 25 .none (.one 26 .none (.alt 23 (.one 27 .none (.one 28 .none (.one 29 .none (.one 30 .none (.one 31 .none (.one 32 .none (.one 33 .none (.one 34 .none (.one 35 .none (.one 36 .none (.one 37 .none (.one 38 .none (.one 39 .none (.one 40 .none (.one 42 .none (.one 43 .none (.one 44 .none (.alt 41 (.one 45 .none (.one 46 .none (.one 47 .none (.one 48 .none (.one 49 .none (.one 50 .none .done)))))) (.alt 45 (.one 46 .none (.alt 41 (.one 47 .none (.one 48 .none (.one 49 .none (.one 50 .none .done)))) (.alt 47 (.one 41 .none (.one 48 .none (.one 49 .none (.one 50 .none .done)))) .none))) .none))))))))))))))))))) (.alt 27 (.one 28 .none (.alt 23 (.one 29 .none (.one 30 .none (.one 31 .none (.one 32 .none (.one 33 .none (.one 34 .none (.one 35 .none (.one 36 .none (.one 37 .none (.one 38 .none (.one 39 .none (.one 40 .none (.one 42 .none (.one 43 .none (.one 44 .none (.alt 41 (.one 45 .none (.one 46 .none (.one 47 .none (.one 48 .none (.one 49 .none (.one 50 .none .done)))))) (.alt 45 (.one 46 .none (.alt 41 (.one 47 .none (.one 48 .none (.one 49 .none (.one 50 .none .done)))) (.alt 47 (.one 41 .none (.one 48 .none (.one 49 .none (.one 50 .none .done)))) .none))) .none))))))))))))))))) (.alt 29 (.one 30 .none (.one 23 .none (.one 31 .none (.one 32 .none (.one 33 .none (.one 34 .none (.one 35 .none (.one 36 .none (.one 37 .none (.one 38 .none (.one 39 .none (.one 40 .none (.one 42 .none (.one 43 .none (.one 44 .none (.alt 41 (.one 45 .none (.one 46 .none (.one 47 .none (.one 48 .none (.one 49 .none (.one 50 .none .done)))))) (.alt 45 (.one 46 .none (.alt 41 (.one 47 .none (.one 48 .none (.one 49 .none (.one 50 .none .done)))) (.alt 47 (.one 41 .none (.one 48 .none (.one 49 .none (.one 50 .none .done)))) .none))) .none))))))))))))))))) .none))) .none)))))))))))))))) (.alt 12 (.one 6 .none (.one 13 .none (.one 14 .none (.one 15 .none (.one 16 .none (.one 17 .none (.one 18 .none (.one 19 .none (.one 20 .none (.one 21 .none (.one 22 .none (.one 24 .none (.one 25 .none (.one 26 .none (.alt 23 (.one 27 .none (.one 28 .none (.one 29 .none (.one 30 .none (.one 31 .none (.one 32 .none (.one 33 .none (.one 34 .none (.one 35 .none (.one 36 .none (.one 37 .none (.one 38 .none (.one 39 .none (.one 40 .none (.one 42 .none (.one 43 .none (.one 44 .none (.alt 41 (.one 45 .none (.one 46 .none (.one 47 .none (.one 48 .none (.one 49 .none (.one 50 .none .done)))))) (.alt 45 (.one 46 .none (.alt 41 (.one 47 .none (.one 48 .none (.one 49 .none (.one 50 .none .done)))) (.alt 47 (.one 41 .none (.one 48 .none (.one 49 .none (.one 50 .none .done)))) .none))) .none))))))))))))))))))) (.alt 27 (.one 28 .none (.alt 23 (.one 29 .none (.one 30 .none (.one 31 .none (.one 32 .none (.one 33 .none (.one 34 .none (.one 35 .none (.one 36 .none (.one 37 .none (.one 38 .none (.one 39 .none (.one 40 .none (.one 42 .none (.one 43 .none (.one 44 .none (.alt 41 (.one 45 .none (.one 46 .none (.one 47 .none (.one 48 .none (.one 49 .none (.one 50 .none .done)))))) (.alt 45 (.one 46 .none (.alt 41 (.one 47 .none (.one 48 .none (.one 49 .none (.one 50 .none .done)))) (.alt 47 (.one 41 .none (.one 48 .none (.one 49 .none (.one 50 .none .done)))) .none))) .none))))))))))))))))) (.alt 29 (.one 30 .none (.one 23 .none (.one 31 .none (.one 32 .none (.one 33 .none (.one 34 .none (.one 35 .none (.one 36 .none (.one 37 .none (.one 38 .none (.one 39 .none (.one 40 .none (.one 42 .none (.one 43 .none (.one 44 .none (.alt 41 (.one 45 .none (.one 46 .none (.one 47 .none (.one 48 .none (.one 49 .none (.one 50 .none .done)))))) (.alt 45 (.one 46 .none (.alt 41 (.one 47 .none (.one 48 .none (.one 49 .none (.one 50 .none .done)))) (.alt 47 (.one 41 .none (.one 48 .none (.one 49 .none (.one 50 .none .done)))) .none))) .none))))))))))))))))) .none))) .none)))))))))))))))) .none))) .none))))))))))) (fun s H => covers s [(92, .bool false), (9, .int .i64 (ofN i)), (8, .rows 6 m (spc h)), (0, .rows 6 n (spc g)), (1, .int .i64 z), (2, .int .i64 q)] ∧ H = []) (ordOk_of 51 [0, 0, 0, 6, 8, 16, 33, 0, 0, 0, 768, 1024, 2048, 4288, 8256, 24576, 32768, 32768, 32768, 425984, 557056, 1081344, 2129920, 4292608, 32768, 32768, 32768, 100696064, 134250496, 268468224, 536903680, 1098940416, 2155905024, 4295000064, 10737418240, 17179869184, 17179869184, 17179869184, 223338299392, 292057776128, 566935683072, 1151051235328, 17179869184, 17179869184, 17179869184, 26405458935808, 35201551958016, 70385924046848, 147351737991168, 283691179835392, 562967133290496] [2251799813685246, 2251799813685245, 2251799813685243, 2251799813685233, 2251799813685223, 2251799813685199, 2251799813685150, 2251799813685119, 2251799813684991, 2251799813684735, 2251799813683391, 2251799813682175, 2251799813679039, 2251799813672767, 2251799813660607, 2251799813636095, 2251799813586943, 2251799813521407, 2251799813390335, 2251799812726719, 2251799812079615, 2251799810498495, 2251799807361023, 2251799800995775, 2251799796875263, 2251799780098047, 2251799746543615, 2251799570374591, 2251799410999295, 2251798999949247, 2251798203039743, 2251796567252927, 2251793362812927, 2251786928750591, 2251774043881471, 2251748274077695, 2251713914339327, 2251645194862591, 2251299441598399, 2250958000095231, 2250131210493887, 2248447583313855, 2247384587304959, 2242986540793855, 2234190447771647, 2188008803524543, 2146229517549567, 2038475222147007, 1822970943102911, 1405158680428543, 562932773552127] 1968123657838527 (by as_aux_lemma => kernel_rfl) (by as_aux_lemma => kernel_rfl)) ?_ ?_
  · as_aux_lemma =>
      refine AnyT.goK tl_ok hS.ops ?_
      intro KK VA hKK hVA
      conv => cbv
      simp only [hS.tidy, ← hfr, ← hto]
      repeat' first
        | trivial
        | apply And.intro
        | (rw [hKK]; exact ⟨⟨rfl, rfl, rfl, rfl, rfl, rfl, trivial⟩, rfl⟩)
        | (rw [hVA]; clear hKK hVA KK VA; refine AnyT.call rfl rfl rfl rfl rfl Try.func16 rfl (by decide) [] (by simp) (by simp) (by rfl) rfl f2 ?_; rintro r0 Hc ⟨rfl, rfl⟩; refine AnyT.goK tl_ok hS.ops ?_; intro KK VA hKK hVA; conv => cbv)
        | (rw [hVA]; clear hKK hVA KK VA; refine AnyT.call rfl rfl rfl rfl rfl Try.func16 rfl (by decide) [] (by simp) (by simp) (by rfl) rfl f1 ?_; rintro r0 Hc ⟨rfl, rfl⟩; refine AnyT.goK tl_ok hS.ops ?_; intro KK VA hKK hVA; conv => cbv)
        | (rw [hVA]; clear hKK hVA KK VA; refine AnyT.call rfl rfl rfl rfl rfl Try.func16 rfl (by decide) [] (by simp) (by simp) (by rfl) rfl f4 ?_; rintro r0 Hc ⟨rfl, rfl⟩; refine AnyT.goK tl_ok hS.ops ?_; intro KK VA hKK hVA; conv => cbv)
        | (rw [hVA]; clear hKK hVA KK VA; refine AnyT.call rfl rfl rfl rfl rfl Try.func16 rfl (by decide) [] (by simp) (by simp) (by rfl) rfl f3 ?_; rintro r0 Hc ⟨rfl, rfl⟩; refine AnyT.goK tl_ok hS.ops ?_; intro KK VA hKK hVA; conv => cbv)
        | (rw [hVA]; clear hKK hVA KK VA; refine AnyT.call rfl rfl rfl rfl rfl Try.func16 rfl (by decide) [] (by simp) (by simp) (by rfl) rfl f6 ?_; rintro r0 Hc ⟨rfl, rfl⟩; refine AnyT.goK tl_ok hS.ops ?_; intro KK VA hKK hVA; conv => cbv)
        | (rw [hVA]; clear hKK hVA KK VA; refine AnyT.call rfl rfl rfl rfl rfl Try.func16 rfl (by decide) [] (by simp) (by simp) (by rfl) rfl f5 ?_; rintro r0 Hc ⟨rfl, rfl⟩; refine AnyT.goK tl_ok hS.ops ?_; intro KK VA hKK hVA; conv => cbv)
        | (simp only [e1, e2, e3, eb, ey, hS.tidy, ← hfr, ← hto]; conv => cbv)
        | (simp only [hS.glob, plain]; omega)
      all_goals done
  rintro s H ⟨hcov, rfl⟩
  refine V.to (s' := [(92, .bool false), (9, .int .i64 (ofN i)), (8, .rows 6 m (spc h)), (0, .rows 6 n (spc g)), (1, .int .i64 z), (2, .int .i64 q)]) (H' := []) ?_ hcov rfl trivial (by rw [hC]; simp)
  clear hcov
  refine V.goF (by first | exact trivial | assumption) Try.func5 tl_ok mixed hS.ops [] 400 ?_
  intro VV VA W hVV hVA hW
  conv => cbv
  rw [hVV]
  clear hVV hVA VV VA hW W
  exact V.to (hback (i + 1) (by omega) (by omega)) (by (repeat' first | exact trivial | rfl | (refine And.intro ?_ ?_) | (refine sti ?_; (first | rfl | omega | (simp (disch := omega) only [hS.glob, wraps, plain, Int.ofNat_eq_natCast]; first | done | rfl | omega | (simp; done) | (simp; omega)) | (simp (disch := omega) only [hS.glob, wraps, plain, Int.ofNat_eq_natCast, Vx.toN]; omega))) | (refine slq ?_ ?_ ?_ <;> (first | rfl | omega | (simp (disch := omega) only [hS.glob, wraps, plain, Int.ofNat_eq_natCast]; first | done | rfl | omega | (simp; done) | (simp; omega)) | (simp (disch := omega) only [hS.glob, wraps, plain, Int.ofNat_eq_natCast, Vx.toN]; omega))) | (refine ptq ?_ ?_ ?_ <;> (first | rfl | omega | (simp (disch := omega) only [hS.glob, wraps, plain, Int.ofNat_eq_natCast]; first | done | rfl | omega | (simp; done) | (simp; omega)) | (simp (disch := omega) only [hS.glob, wraps, plain, Int.ofNat_eq_natCast, Vx.toN]; omega))) | (refine blq ?_; (first | rfl | omega | (simp (disch := omega) only [hS.glob, wraps, plain, Int.ofNat_eq_natCast]; first | done | rfl | omega | (simp; done) | (simp; omega)) | (simp (disch := omega) only [hS.glob, wraps, plain, Int.ofNat_eq_natCast, Vx.toN]; omega))))) rfl trivial (by rw [hC]; simp)
end Go.Proofs.Ytandgpkibpggnaa
