/- Contracts of functions by an evaluator of the model: its part V3. -/
import Derived.Test.YtngagepodbcohaaV2
import Derived.ChangeOld
import Derived.ChangeArms
import Derived.Carry
import Derived.SizedLaws
import Derived.WalkKit
import Derived.ProofKit
import Derived.OpenShut
import Derived.ShutString
import Derived.RangeFuncRecord
set_option linter.all false
namespace Vx
open Go

/-! ## The frame of a law: arguments of whatever plain type -/
def contig (P : Program) : List Field → Nat → Nat → Bool
  | [], o, m => decide (o = m)
  | f :: r, o, m => decide (f.offset = o) && contig P r (o + P.cellsOf f.type) m
/-- Types that are served: numbers, bools, strings, slices, structs and arrays of such. -/
def sup (P : Program) : Nat → TypeId → Bool
  | 0, _ => false
  | n + 1, t => match P.underlying t with
    | some .bool => true
    | some (.int _) => true
    | some (.float _) => true
    | some .string => true
    | some (.slice e) => decide (0 < P.cellsOf e) && sup P n e
    | some (.struct fs) => contig P fs.toList 0 (P.cellsOf t) && fs.toList.all fun f => sup P n f.type
    | some (.array m e) => decide (m * P.cellsOf e = P.cellsOf t) && sup P n e
    | _ => false

/-- The cells of a value of a type. -/
def Ty (P : Program) : Nat → TypeId → List AV → Prop
  | 0, _, _ => False
  | n + 1, t, cs => match P.underlying t with
    | some .bool => ∃ b, cs = [.bool b]
    | some (.int k) => ∃ z, cs = [.int k z] ∧ (Lit.int k z).wf = true
    | some (.float k) => ∃ z, cs = [.flt k z] ∧ (Lit.float k z).wf = true
    | some .string => ∃ s : ByteArray, cs = [.str s] ∧ s.size ≤ reachBytes
    | some (.slice e) => ∃ (m : Nat) (f : Nat → List AV), cs = [.rows (P.cellsOf e) m f] ∧ m * P.bytesOf e ≤ reachBytes ∧ ∀ i, i < m → Ty P n e (f i)
    | some (.struct fs) => cs.length = P.cellsOf t ∧ ∀ f ∈ fs.toList, Ty P n f.type ((cs.drop f.offset).take (P.cellsOf f.type))
    | some (.array m e) => cs.length = P.cellsOf t ∧ ∀ i, i < m → Ty P n e ((cs.drop (i * P.cellsOf e)).take (P.cellsOf e))
    | _ => False

theorem range_mapM {α : Type} {n : Nat} {f : Nat → Option α} {xs : List α} (h : (List.range n).mapM f = some xs) : xs.length = n ∧ ∀ i, i < n → f i = xs[i]? := by
  have g : ∀ (l : List Nat) (ys : List α), l.mapM f = some ys → ys.length = l.length ∧ ∀ (i x : Nat), l[i]? = some x → f x = ys[i]? := by
    intro l
    induction l with
    | nil => intro ys h; simp at h; subst h; simp
    | cons a l ih =>
      intro ys h
      rw [List.mapM_cons] at h
      simp only [bind, Option.bind_eq_some_iff, pure, Option.some.injEq] at h
      obtain ⟨y, hy, zs, hz, rfl⟩ := h
      obtain ⟨h1, h2⟩ := ih zs hz
      refine ⟨by simp [h1], fun i x hx => ?_⟩
      cases i with
      | zero => simp at hx; subst hx; simpa using hy
      | succ i => simp at hx; simpa using h2 i x hx
  obtain ⟨h1, h2⟩ := g _ _ h
  refine ⟨by simpa using h1, fun i hi => h2 i i (by simp [hi])⟩
theorem list_mapM {α β : Type} {l : List α} {f : α → Option β} {xs : List β} (h : l.mapM f = some xs) : xs.length = l.length ∧ ∀ (i : Nat) x, l[i]? = some x → f x = xs[i]? := by
  induction l generalizing xs with
  | nil => simp at h; subst h; simp
  | cons a l ih =>
    rw [List.mapM_cons] at h
    simp only [bind, Option.bind_eq_some_iff, pure, Option.some.injEq] at h
    obtain ⟨y, hy, zs, hz, rfl⟩ := h
    obtain ⟨h1, h2⟩ := ih hz
    refine ⟨by simp [h1], fun i x hx => ?_⟩
    cases i with
    | zero => simp at hx; subst hx; simpa using hy
    | succ i => simp at hx; simpa using h2 i x hx

theorem weights_each {H : Type} {P : Program} : ∀ {ts : List TypeId} {ds : List (DataW H)} {i : Nat} {t : TypeId} {d : DataW H}, (DataW.weightsEach P ts ds).all (· ≤ reachBytes) = true → ts[i]? = some t → ds[i]? = some d → (d.weights P t).all (· ≤ reachBytes) = true := by
  intro ts ds i t d h ht hd
  refine List.all_eq_true.2 fun n hn => ?_
  exact List.all_eq_true.1 h n (DataW.weights_mem_each ht hd n hn)
theorem weights_all {H : Type} {P : Program} {e : TypeId} : ∀ {ds : List (DataW H)} {i : Nat} {d : DataW H}, (DataW.weightsAll P e ds).all (· ≤ reachBytes) = true → ds[i]? = some d → (d.weights P e).all (· ≤ reachBytes) = true
  | [], i, d, _, hd => by simp at hd
  | x :: r, 0, d, h, hd => by
    simp only [List.getElem?_cons_zero, Option.some.injEq] at hd
    subst hd
    simp only [DataW.weightsAll, List.all_append, Bool.and_eq_true] at h
    exact h.1
  | x :: r, i + 1, d, h, hd => by
    simp only [List.getElem?_cons_succ] at hd
    simp only [DataW.weightsAll, List.all_append, Bool.and_eq_true] at h
    exact weights_all h.2 hd

theorem addr_plain {w : World} {a : Addr} {v : Value} (h : w.cell? a = some v) : a.spot = none := by
  obtain ⟨b, o, sp⟩ := a
  cases sp with
  | none => rfl
  | some y =>
    simp only [World.cell?, Option.isSome_some, if_true] at h
    split at h <;> cases h

/-- Cells that are read as data, and what they are told as. -/
def Rd1 (P : Program) (w : World) (n : Nat) (t : TypeId) (cs : List Value) : Prop :=
  ∃ avs : List AV, avs.length = cs.length ∧ allLeaf avs = true ∧ (∀ j, j < cs.length → RelV rho0 (muOf w) (avs.getD j .top) (cs.getD j undef)) ∧ Ty P n t avs
theorem leaf_app : ∀ {a b : List AV}, allLeaf a = true → allLeaf b = true → allLeaf (a ++ b) = true
  | [], b, _, h => h
  | x :: r, b, ha, h => by
    simp only [allLeaf, Bool.and_eq_true] at ha
    simp only [List.cons_append, allLeaf, Bool.and_eq_true]
    exact ⟨ha.1, leaf_app ha.2 h⟩

section
variable {H : Type} {enc : TypeId × Value → H} {P : Program} {w : World} {base : Nat} {sp : Nat → Bool} {held : Bool}

theorem rd_fields {n : Nat} {cs : List Value} {M : Nat} (hM : cs.length = M) : ∀ (fs : List Field) (o : Nat), contig P fs o M = true → o ≤ M → (∀ f ∈ fs, Rd1 P w n f.type ((cs.drop f.offset).take (P.cellsOf f.type))) →
    ∃ avs : List AV, avs.length = M - o ∧ allLeaf avs = true ∧ (∀ j, j < M - o → RelV rho0 (muOf w) (avs.getD j .top) (cs.getD (o + j) undef)) ∧ ∀ f ∈ fs, o ≤ f.offset ∧ Ty P n f.type ((avs.drop (f.offset - o)).take (P.cellsOf f.type))
  | [], o, h, ho, _ => by
    simp only [contig, decide_eq_true_eq] at h
    exact ⟨[], by simp; omega, rfl, fun j hj => by omega, fun f hf => by simp at hf⟩
  | f :: r, o, h, ho, hr => by
    simp only [contig, Bool.and_eq_true, decide_eq_true_eq] at h
    obtain ⟨h1, h2⟩ := h
    have hle : o + P.cellsOf f.type ≤ M := by
      have : ∀ (fs : List Field) (o : Nat), contig P fs o M = true → o ≤ M := by
        intro fs
        induction fs with
        | nil => intro o h; simp only [contig, decide_eq_true_eq] at h; omega
        | cons g gs ih =>
          intro o h
          simp only [contig, Bool.and_eq_true, decide_eq_true_eq] at h
          have := ih _ h.2
          omega
      exact this _ _ h2
    obtain ⟨a1, l1, f1, r1, t1⟩ := hr f (by simp)
    rw [h1] at l1 r1
    have hl1 : ((cs.drop o).take (P.cellsOf f.type)).length = P.cellsOf f.type := by simp; omega
    rw [hl1] at l1 r1
    obtain ⟨a2, l2, f2, r2, t2⟩ := rd_fields hM r _ h2 hle (fun g hg => hr g (by simp [hg]))
    refine ⟨a1 ++ a2, by simp [l1, l2]; omega, leaf_app f1 f2, fun j hj => ?_, fun g hg => ?_⟩
    · rw [List.getD_eq_getElem?_getD]
      by_cases hjl : j < P.cellsOf f.type
      · rw [List.getElem?_append_left (by omega)]
        have := r1 j hjl
        rw [List.getD_eq_getElem?_getD, List.getD_eq_getElem?_getD, List.getElem?_take, if_pos hjl, List.getElem?_drop] at this
        rw [List.getD_eq_getElem?_getD]
        exact this
      · rw [List.getElem?_append_right (by omega), l1]
        have := r2 (j - P.cellsOf f.type) (by omega)
        rw [List.getD_eq_getElem?_getD] at this
        rw [show o + j = o + P.cellsOf f.type + (j - P.cellsOf f.type) by omega]
        exact this
    · simp only [List.mem_cons] at hg
      rcases hg with rfl | hg
      · refine ⟨by omega, ?_⟩
        rw [h1, Nat.sub_self, List.drop_zero, List.take_append_of_le_length (by omega), List.take_of_length_le (by omega)]
        exact t1
      · obtain ⟨q1, q2⟩ := t2 g hg
        refine ⟨by omega, ?_⟩
        rw [show g.offset - o = P.cellsOf f.type + (g.offset - (o + P.cellsOf f.type)) by omega, ← List.drop_drop, List.drop_append_of_le_length (by omega), List.drop_of_length_le (by omega : a1.length ≤ P.cellsOf f.type), List.nil_append]
        exact q2

theorem rd_array {n e : Nat} {cs : List Value} : ∀ (m k : Nat), (∀ i, i < m → Rd1 P w n e ((cs.drop ((k + i) * P.cellsOf e)).take (P.cellsOf e))) → (k + m) * P.cellsOf e ≤ cs.length →
    ∃ avs : List AV, avs.length = m * P.cellsOf e ∧ allLeaf avs = true ∧ (∀ j, j < m * P.cellsOf e → RelV rho0 (muOf w) (avs.getD j .top) (cs.getD (k * P.cellsOf e + j) undef)) ∧ ∀ i, i < m → Ty P n e ((avs.drop (i * P.cellsOf e)).take (P.cellsOf e))
  | 0, k, _, _ => ⟨[], by simp, rfl, fun j hj => by simp at hj, fun i hi => by omega⟩
  | m + 1, k, hr, hl => by
    obtain ⟨a1, l1, f1, r1, t1⟩ := hr 0 (by omega)
    rw [Nat.add_zero] at l1 r1
    have hk : k * P.cellsOf e + P.cellsOf e ≤ cs.length := by
      have : (k + (m + 1)) * P.cellsOf e = k * P.cellsOf e + P.cellsOf e + m * P.cellsOf e := by rw [Nat.add_mul, Nat.add_mul]; omega
      omega
    have hl1 : ((cs.drop (k * P.cellsOf e)).take (P.cellsOf e)).length = P.cellsOf e := by simp; omega
    rw [hl1] at l1 r1
    obtain ⟨a2, l2, f2, r2, t2⟩ := rd_array m (k + 1) (fun i hi => by rw [show k + 1 + i = k + (i + 1) by omega]; exact hr (i + 1) (by omega)) (by rw [show k + 1 + m = k + (m + 1) by omega]; exact hl)
    have em : (m + 1) * P.cellsOf e = P.cellsOf e + m * P.cellsOf e := by rw [Nat.add_mul, Nat.one_mul, Nat.add_comm]
    refine ⟨a1 ++ a2, by rw [List.length_append, l1, l2, em], leaf_app f1 f2, fun j hj => ?_, fun i hi => ?_⟩
    · rw [List.getD_eq_getElem?_getD]
      by_cases hjl : j < P.cellsOf e
      · rw [List.getElem?_append_left (by omega)]
        have := r1 j hjl
        rw [List.getD_eq_getElem?_getD, List.getD_eq_getElem?_getD, List.getElem?_take, if_pos hjl, List.getElem?_drop] at this
        rw [List.getD_eq_getElem?_getD]
        exact this
      · rw [List.getElem?_append_right (by omega), l1]
        have := r2 (j - P.cellsOf e) (by omega)
        rw [List.getD_eq_getElem?_getD, show (k + 1) * P.cellsOf e + (j - P.cellsOf e) = k * P.cellsOf e + j by rw [Nat.add_mul, Nat.one_mul]; omega] at this
        exact this
    · cases i with
      | zero =>
        rw [Nat.zero_mul, List.drop_zero, List.take_append_of_le_length (by omega), List.take_of_length_le (by omega)]
        exact t1
      | succ i =>
        rw [show (i + 1) * P.cellsOf e = P.cellsOf e + i * P.cellsOf e by rw [Nat.add_mul, Nat.one_mul, Nat.add_comm], ← List.drop_drop, List.drop_append_of_le_length (by omega), List.drop_of_length_le (by omega : a1.length ≤ P.cellsOf e), List.nil_append]
        exact t2 i (by omega)

theorem rd_cells {a : Addr} {m : Nat} {cs : List Value} (h : w.cells? base a m = some cs) : cs.length = m ∧ ∀ j, j < m → w.cell? (a.add j) = some (cs.getD j undef) := by
  unfold World.cells? at h
  split at h
  · obtain ⟨h1, h2⟩ := range_mapM h
    refine ⟨h1, fun j hj => ?_⟩
    rw [h2 j hj, List.getD_eq_getElem?_getD, List.getElem?_eq_getElem (by omega)]
    rfl
  · cases h

theorem trod_float {k : FloatKind} {fuel t : Nat} {cs : List Value} {x : DataW H × List MemPlace} (ht : P.underlying t = some (.float k)) (h : DataW.trod enc P w base sp held fuel t cs = some x) : ∃ z, cs = [.float k z] ∧ (Lit.float k z).wf = true := by
  cases fuel with
  | zero => simp [DataW.trod] at h
  | succ fuel =>
    unfold DataW.trod at h
    rw [ht] at h
    split at h <;> simp_all

theorem trod_rd : ∀ (n fuel : Nat) (t : TypeId) (cs : List Value) (d : DataW H) (ps : List MemPlace), DataW.trod enc P w base sp held fuel t cs = some (d, ps) → sup P n t = true → (d.weights P t).all (· ≤ reachBytes) = true → Rd1 P w n t cs
  | 0, _, _, _, _, _, _, hs, _ => by simp [sup] at hs
  | n + 1, fuel, t, cs, d, ps, h, hs, hw => by
    unfold sup at hs
    split at hs
    · rename_i hu
      obtain ⟨b, rfl, _⟩ := DataW.trod_bool hu h
      exact ⟨[.bool b], rfl, rfl, fun j hj => by obtain rfl : j = 0 := by simpa using hj
                                                 exact .bool .., by unfold Ty; rw [hu]; exact ⟨b, rfl⟩⟩
    · rename_i k hu
      obtain ⟨z, rfl, _, hwf⟩ := DataW.trod_int hu h
      exact ⟨[.int k z], rfl, rfl, fun j hj => by obtain rfl : j = 0 := by simpa using hj
                                                  exact .int .., by unfold Ty; rw [hu]; exact ⟨z, rfl, hwf⟩⟩
    · rename_i k hu
      obtain ⟨z, rfl, hwf⟩ : ∃ z, cs = [.float k z] ∧ (Lit.float k z).wf = true := by
        exact trod_float hu h
      exact ⟨[.flt k z], rfl, rfl, fun j hj => by obtain rfl : j = 0 := by simpa using hj
                                                  exact .flt .., by unfold Ty; rw [hu]; exact ⟨z, rfl, hwf⟩⟩
    · rename_i hu
      obtain ⟨s, rfl, hx, hm⟩ := DataW.trod_string hu h
      injection hx with hx _
      subst hx
      have hsz : s.size ≤ reachBytes := by
        have : s.data.toList.length ≤ reachBytes := by simpa only [DataW.weights, List.all_cons, List.all_nil, Bool.and_true, decide_eq_true_eq] using hw
        rwa [Array.length_toList] at this
      exact ⟨[.str s], rfl, rfl, fun j hj => by obtain rfl : j = 0 := by simpa using hj
                                                exact .str .., by unfold Ty; rw [hu]; exact ⟨s, rfl, hsz⟩⟩
    · rename_i e hu
      simp only [Bool.and_eq_true, decide_eq_true_eq] at hs
      obtain ⟨hp, hs⟩ := hs
      rcases DataW.trod_slice hu h with ⟨rfl, _⟩ | ⟨a, len, cap, elems, rest, q, rfl, rfl, hx, hb, hl, hm, hlen, hel, _, _⟩
      · refine ⟨[.rows (P.cellsOf e) 0 fun _ => []], rfl, rfl, fun j hj => ?_, by unfold Ty; rw [hu]; exact ⟨0, _, rfl, by simp, fun i hi => by omega⟩⟩
        obtain rfl : j = 0 := by simpa using hj
        exact .rows _ _ _ _ _ _ _ 0 0 (fun _ _ => undef) (fun i hi => by omega) hp (fun i j hi => by omega) (fun i j hi => by omega) (Nat.le_refl _) (by simp)
      · injection hx with hx _
        subst hx
        simp only [DataW.weights, hu, List.all_cons, List.all_append, Bool.and_eq_true, decide_eq_true_eq, List.length_map] at hw
        obtain ⟨hw1, hw2, _⟩ := hw
        have each : ∀ i, i < len → ∃ cs', w.cells? base (a.add (i * P.cellsOf e)) (P.cellsOf e) = some cs' ∧ Rd1 P w n e cs' := by
          intro i hi
          have := hel i hi
          rw [List.getElem?_eq_getElem (by omega)] at this
          obtain ⟨cs', h1, h2⟩ := Option.bind_eq_some_iff.1 this
          refine ⟨cs', h1, trod_rd n q e cs' _ _ (show _ = some (elems[i].1, elems[i].2) from h2) hs ?_⟩
          exact weights_all (i := i) hw2 (by simp [show i < elems.length by omega])
        have hc : ∀ i, ∃ (cs' : List Value) (avs : List AV), i < len → w.cells? base (a.add (i * P.cellsOf e)) (P.cellsOf e) = some cs' ∧ avs.length = cs'.length ∧ allLeaf avs = true ∧ (∀ j, j < cs'.length → RelV rho0 (muOf w) (avs.getD j .top) (cs'.getD j undef)) ∧ Ty P n e avs := by
          intro i
          by_cases hi : i < len
          · obtain ⟨cs', h1, avs, h2⟩ := each i hi
            exact ⟨cs', avs, fun _ => ⟨h1, h2⟩⟩
          · exact ⟨[], [], fun h => absurd h hi⟩
        obtain ⟨cc, hc⟩ := Classical.axiomOfChoice hc
        obtain ⟨f, hc⟩ := Classical.axiomOfChoice hc
        refine ⟨[.rows (P.cellsOf e) len f], rfl, rfl, fun j hj => ?_, ?_⟩
        rotate_left
        · unfold Ty
          rw [hu]
          refine ⟨len, f, rfl, ?_, fun i hi => (hc i hi).2.2.2.2⟩
          have : len * P.bytesOf e ≤ (elems.length + rest.length) * P.bytesOf e := Nat.mul_le_mul_right _ (by omega)
          omega
        · obtain rfl : j = 0 := by simpa using hj
          show RelV rho0 (muOf w) (.rows (P.cellsOf e) len f) (.slice (some a) len cap)
          refine .rows _ _ _ _ _ _ _ a.block a.off (fun i j => (cc i).getD j undef) (fun i hi => ?_) hp (fun i j hi hj => ?_) (fun i j hi hj => ?_) hl hm
          · obtain ⟨h1, h2, _⟩ := hc i hi
            rw [h2, (rd_cells h1).1]
          · obtain ⟨h1, h2, _, h4, _⟩ := hc i hi
            exact h4 j (by rw [(rd_cells h1).1]; exact hj)
          · obtain ⟨h1, h2, h3, h4, _⟩ := hc i hi
            obtain ⟨g1, g2⟩ := rd_cells h1
            have hcell := g2 j hj
            have hs0 : a.spot = none := by
              obtain ⟨k1, _⟩ := hc 0 (by omega)
              have := (rd_cells k1).2 0 hp
              rw [Nat.zero_mul] at this
              have e0 : (a.add 0).add 0 = a := by simp [Addr.add]
              rw [e0] at this
              exact addr_plain this
            obtain ⟨b, o, sp⟩ := a
            simp only at hs0
            subst hs0
            refine ⟨rfl, muOf_some ?_ ?_⟩
            · rw [add_at, add_at] at hcell
              exact hcell
            · have hj' : j < (cc i).length := by omega
              exact (h4 j hj').leaf (allLeaf_get h3 (by omega))
    · rename_i fs hu
      simp only [Bool.and_eq_true] at hs
      obtain ⟨hk, hs⟩ := hs
      cases fuel with
      | zero => simp [DataW.trod] at h
      | succ fuel =>
        rw [DataW.trod_step] at h
        unfold DataW.trodStep at h
        simp only [hu] at h
        split at h
        · rename_i hlen
          simp only [Option.map_eq_some_iff] at h
          obtain ⟨xs, hx, he⟩ := h
          injection he with he _
          subst he
          obtain ⟨x1, x2⟩ := list_mapM hx
          simp only [DataW.weights, hu] at hw
          obtain ⟨avs, l1, f1, r1, t1⟩ := rd_fields (n := n) hlen fs.toList 0 hk (Nat.zero_le _) (fun f hf => by
            obtain ⟨i, hi, rfl⟩ := List.getElem_of_mem hf
            have hg := x2 i _ (List.getElem?_eq_getElem hi)
            rw [List.getElem?_eq_getElem (by omega)] at hg
            refine trod_rd n fuel _ _ _ _ (show _ = some (xs[i].1, xs[i].2) from hg) (List.all_eq_true.1 hs _ (List.getElem_mem hi)) ?_
            exact weights_each (i := i) hw (by rw [List.getElem?_map, List.getElem?_eq_getElem hi]; rfl) (by simp [show i < xs.length by omega]))
          rw [Nat.sub_zero] at l1 r1
          refine ⟨avs, by rw [l1, hlen], f1, fun j hj => by simpa using r1 j (by omega), ?_⟩
          unfold Ty
          rw [hu]
          exact ⟨l1, fun f hf => by simpa using (t1 f hf).2⟩
        · cases h
    · rename_i m e hu
      simp only [Bool.and_eq_true, decide_eq_true_eq] at hs
      obtain ⟨hk, hs⟩ := hs
      cases fuel with
      | zero => simp [DataW.trod] at h
      | succ fuel =>
        rw [DataW.trod_step] at h
        unfold DataW.trodStep at h
        simp only [hu] at h
        split at h
        · rename_i hlen
          simp only [Option.map_eq_some_iff] at h
          obtain ⟨xs, hx, he⟩ := h
          injection he with he _
          subst he
          obtain ⟨x1, x2⟩ := range_mapM hx
          simp only [DataW.weights, hu] at hw
          obtain ⟨avs, l1, f1, r1, t1⟩ := rd_array (n := n) (e := e) (cs := cs) m 0 (fun i hi => by
            have hg := x2 i hi
            rw [List.getElem?_eq_getElem (by omega)] at hg
            rw [Nat.zero_add]
            refine trod_rd n fuel _ _ _ _ (show _ = some (xs[i].1, xs[i].2) from hg) hs ?_
            exact weights_all (i := i) hw (by simp [show i < xs.length by omega])) (by rw [Nat.zero_add]; omega)
          rw [hk] at l1 r1
          refine ⟨avs, by rw [l1, hlen], f1, fun j hj => by simpa using r1 j (by omega), ?_⟩
          unfold Ty
          rw [hu]
          exact ⟨l1, t1⟩
        · cases h
    · cases hs
end
end Vx

namespace Vx
open Go Go.ChangeShapes Go.WideShapes Go.RowKit

/-! ## The frame of a law, written once -/
def TyV (P : Program) (n : Nat) (t : TypeId) (av : AV) : Prop :=
  match P.underlying t with
  | some (.struct _) | some (.array _ _) => ∃ cs, av = .agg cs ∧ Ty P n t cs
  | _ => Ty P n t [av]
def TyArgs (P : Program) (n : Nat) : List TypeId → List AV → Prop
  | [], [] => True
  | t :: ts, a :: as => TyV P n t a ∧ TyArgs P n ts as
  | _, _ => False

section
variable {H : Type} {enc : TypeId × Value → H} {P : Program} {w : World} {base b0 : Nat} {sp : Nat → Bool} {held : Bool}

theorem v_rd {n : Nat} {t : TypeId} {v : Value} {d : DataW H} {ps : List MemPlace} (hval : Value.okWide P w .any b0 t v) (ht : DataW.Trod enc P w base sp held t v d ps) (hs : sup P n t = true) (hw : (d.weights P t).all (· ≤ reachBytes) = true) :
    ∃ av, RelV rho0 (muOf w) av v ∧ TyV P n t av := by
  obtain ⟨fuel, hf⟩ := ht
  obtain ⟨avs, h1, h2, h3, h4⟩ := trod_rd n fuel t _ d ps hf hs hw
  have hagg : ∀ cs : Array Value, v = .agg cs → RelV rho0 (muOf w) (.agg avs) v := by
    rintro cs rfl
    refine .agg _ _ _ _ (by simpa [Value.cells] using h1.symm) fun j hj => ?_
    have := h3 j (by simp [Value.cells] at h1 ⊢; omega)
    simpa [Value.cells] using this
  have hleaf : v.cells = #[v] → ∃ av, RelV rho0 (muOf w) av v ∧ avs = [av] := by
    intro e
    rw [e] at h1 h3
    match avs, h1 with
    | [av], _ => exact ⟨av, by simpa using h3 0 (by simp), rfl⟩
  cases n with
  | zero => simp [sup] at hs
  | succ n =>
  unfold TyV
  unfold Value.okWide at hval
  split at hval
  · rename_i fs hu
    obtain ⟨cs, hv, _⟩ := hval
    rw [hu]
    exact ⟨_, hagg cs hv, avs, rfl, h4⟩
  · rename_i m e hu
    obtain ⟨cs, hv, _⟩ := hval
    rw [hu]
    exact ⟨_, hagg cs hv, avs, rfl, h4⟩
  · rename_i q1 q2
    have hc : v.cells = #[v] := by
      cases v with
      | agg cs =>
        exfalso
        unfold sup at hs
        split at hs
        · rename_i hu; simp [Cell.okWide, hu, Cell.ok] at hval
        · rename_i hu; simp [Cell.okWide, hu, Cell.ok] at hval
        · rename_i hu; simp [Cell.okWide, hu, Cell.ok] at hval
        · rename_i hu; simp [Cell.okWide, hu, Cell.ok] at hval
        · rename_i hu; simp [Cell.okWide, hu, Cell.ok] at hval
        · rename_i hu; exact q1 _ hu
        · rename_i hu; exact q2 _ _ hu
        · cases hs
      | _ => rfl
    obtain ⟨av, r, rfl⟩ := hleaf hc
    refine ⟨av, r, ?_⟩
    split
    · rename_i hu; exact absurd hu (q1 _)
    · rename_i hu; exact absurd hu (q2 _ _)
    · exact h4

theorem args_rd {n : Nat} : ∀ (ts : List TypeId) (vs : List Value) (ds : List (DataW H)) (ps : List MemPlace), DataW.TrodAll enc P w base sp held ts vs ds ps → (∀ (j : Nat) t v, ts[j]? = some t → vs[j]? = some v → Value.okWide P w .any b0 t v) →
    ts.all (sup P n) = true → (DataW.weightsEach P ts ds).all (· ≤ reachBytes) = true →
    ∃ avs : List AV, avs.length = vs.length ∧ ds.length = ts.length ∧ (∀ j, j < vs.length → RelV rho0 (muOf w) (avs.getD j .top) (vs.getD j undef)) ∧ TyArgs P n ts avs
  | [], vs, ds, ps, h, _, _, _ => by
    cases vs <;> cases ds <;> simp [DataW.TrodAll] at h
    exact ⟨[], rfl, rfl, fun j hj => by simp at hj, trivial⟩
  | t :: ts, vs, ds, ps, h, hv, hs, hw => by
    obtain ⟨v, vs', d, ds', p, q, rfl, rfl, rfl, h1, h2⟩ := trodAll_cons h
    simp only [List.all_cons, Bool.and_eq_true] at hs
    simp only [DataW.weightsEach, List.all_append, Bool.and_eq_true] at hw
    obtain ⟨av, r, ty⟩ := v_rd (hv 0 t v rfl rfl) h1 hs.1 hw.1
    obtain ⟨avs, l1, l2, l3, l4⟩ := args_rd ts vs' ds' q h2 (fun j t v h1 h2 => hv (j + 1) t v (by simpa using h1) (by simpa using h2)) hs.2 hw.2
    refine ⟨av :: avs, by simp [l1], by simp [l2], fun j hj => ?_, ty, l4⟩
    cases j with
    | zero => simpa using r
    | succ j => simpa using l3 j (by simpa using hj)

theorem trodAll_below {W W' : World} (hl : laidOutB P = true) (hb : Below W.heap.size W W') : ∀ (ts : List TypeId) (vs : List Value) (ds : List (DataW H)) (ps : List MemPlace), DataW.TrodAll enc P W 0 (fun _ => true) true ts vs ds ps →
    (ts.all fun t => P.readableRec t && decide (t < P.types.size)) = true → DataW.TrodAll enc P W' 0 (fun b => decide (b < W.heap.size)) true ts vs ds ps
  | [], vs, ds, ps, h, _ => by
    cases vs <;> cases ds <;> simp [DataW.TrodAll] at h
    subst h
    rfl
  | t :: ts, vs, ds, ps, h, hr => by
    obtain ⟨v, vs', d, ds', p, q, rfl, rfl, rfl, h1, h2⟩ := trodAll_cons h
    simp only [List.all_cons, Bool.and_eq_true, decide_eq_true_eq] at hr
    have lt : ∀ x ∈ p, x.block < W.heap.size := by obtain ⟨m, hm⟩ := h1; exact DataW.trod_lt m _ _ _ hm
    exact ⟨p, q, Below.trod hl hr.1.1 hr.1.2 h1 hb lt, trodAll_below hl hb ts vs' ds' q h2 hr.2, rfl⟩
end

theorem weightsEach_nil {H : Type} {P : Program} {ts us : List TypeId} {ds : List (DataW H)} : (DataW.weightsEach P (ts ++ us) (ds ++ [])).all (· ≤ reachBytes) = true → ds.length = ts.length → (DataW.weightsEach P ts ds).all (· ≤ reachBytes) = true := by
  intro h hl
  rw [List.append_nil] at h
  have g : ∀ (ts : List TypeId) (ds : List (DataW H)), (DataW.weightsEach P (ts ++ us) ds).all (· ≤ reachBytes) = true → ds.length = ts.length → (DataW.weightsEach P ts ds).all (· ≤ reachBytes) = true := by
    intro ts
    induction ts with
    | nil => intro ds _ _; cases ds <;> rfl
    | cons t ts ih =>
      intro ds h hl
      cases ds with
      | nil => simp at hl
      | cons d ds =>
        simp only [List.cons_append, DataW.weightsEach, List.all_append, Bool.and_eq_true] at h ⊢
        exact ⟨h.1, ih ds h.2 (by simpa using hl)⟩
  exact g ts ds h hl
theorem trodAll_len {H : Type} {enc : TypeId × Value → H} {P : Program} {w : World} {base : Nat} {sp : Nat → Bool} {held : Bool} : ∀ (ts : List TypeId) (vs : List Value) (ds : List (DataW H)) (ps : List MemPlace), DataW.TrodAll enc P w base sp held ts vs ds ps → vs.length = ts.length ∧ ds.length = ts.length
  | [], vs, ds, ps, h => by
    cases vs <;> cases ds <;> simp [DataW.TrodAll] at h
    exact ⟨rfl, rfl⟩
  | t :: ts, vs, ds, ps, h => by
    obtain ⟨v, vs', d, ds', p, q, rfl, rfl, rfl, h1, h2⟩ := trodAll_cons h
    have := trodAll_len ts vs' ds' q h2
    simp [this.1, this.2]

/-- A law that returns true whatever its arguments, from its contract. -/
theorem law_lift {H : Type} {enc : TypeId × Value → H} {C : Checked} {os : Os} {f : FuncId} {fn : Func} {s : ChangeSpec} {conds : List PathCond} (n : Nat) {tb : TypeId}
    (own : ownKnob C.prog.godebug = none) (started : os.Started) (noInit : C.prog.inits.idxOf? f = none) (hfn : C.prog.funcs[f]? = some fn) (laid : laidOutB C.prog = true)
    (witness : ∃ (w : World) (tape : Tape) (i : Input), w.os = os ∧ (w.forCall tape i).Shaped C.prog ∧ i.vars = [] ∧ Input.okWide C.prog (w.forCall tape i) .any w.heap.size f i ∧
      s.pre6 enc C.prog fn conds false (w.forCall tape i).memory i.args ∧ ({} : Assume).holds C.prog (lone (Frame.enter C.prog f i.args .normal) [] (w.forCall tape i)))
    (hvars : s.vars = []) (hres : fn.resultTypes = #[tb]) (htb : C.prog.underlying tb = some .bool) (hsup : fn.params.toList.all (sup C.prog n) = true)
    (hread : (fn.params.toList.all fun t => C.prog.readableRec t && decide (t < C.prog.types.size)) = true)
    (hsfn : ∀ ds : List (DataW H), ds.length = fn.params.toList.length → s.fn H (ds ++ []) = { results := [.lit (.bool true)], args := ds })
    (spec : ∀ avs, TyArgs C.prog n fn.params.toList avs → FSpec C.prog f avs [] (fun r H' => r = .bool true ∧ H' = [])) :
    ReturnsInHanded {} C os f .any (s.pre6 enc C.prog fn conds false) (s.post enc C.prog fn false true false false) := by
  refine returnsInHanded_of_change_sized own started noInit hfn witness ?_
  intro W base args ds gs before hval hW _ hsz _
  have hW' := hW
  obtain ⟨p, q, hA, hV, rfl, hfz, hnd⟩ := hW
  rw [hvars] at hV
  obtain ⟨rfl, rfl⟩ := trodVars_none hV
  obtain ⟨k1, k2⟩ := trodAll_len _ _ _ _ hA
  obtain ⟨avs, l1, l2, l3, l4⟩ := args_rd (n := n) (b0 := base) fn.params.toList args.toList ds p hA (fun j t v h1 h2 => hval j t v (by simpa using h1) (by simpa using h2)) hsup (weightsEach_nil hsz k2)
  refine ((spec avs l4).law W args (by rw [l1]; simp) (fun j hj => ?_)).mono fun e W' ⟨he, bel⟩ => ?_
  · have := l3 j (by rw [← l1]; exact hj)
    simpa using this
  · subst he
    refine ⟨_, rfl, ds, [], _, [], p, [], hW', ?_, ?_, ?_, bel.frame _, fun h => by cases h⟩
    · rw [hsfn ds l2, hres]
      exact trodAll_mk1 (shut_bool htb _)
    · rw [hsfn ds l2]
      exact trodAll_below laid bel _ _ _ _ hA hread
    · rw [hvars, hsfn ds l2]; rfl
end Vx

namespace Vx
open Go

/-! ## What the arguments of a law look like -/
def Sub (a b : AV) : Prop := ∀ ρ μ v, RelV ρ μ a v → RelV ρ μ b v
theorem Sub.refl (a : AV) : Sub a a := fun _ _ _ h => h
theorem Sub.trans {a b c : AV} (h : Sub a b) (k : Sub b c) : Sub a c := fun ρ μ v r => k ρ μ v (h ρ μ v r)
def Subs : List AV → List AV → Prop
  | [], [] => True
  | a :: as, b :: bs => Sub a b ∧ Subs as bs
  | _, _ => False
theorem Subs.len : ∀ {as bs : List AV}, Subs as bs → as.length = bs.length
  | [], [], _ => rfl
  | [], _ :: _, h => h.elim
  | _ :: _, [], h => h.elim
  | a :: as, b :: bs, h => by simp [Subs.len h.2]
theorem Subs.get : ∀ {as bs : List AV}, Subs as bs → ∀ j, Sub (as.getD j .top) (bs.getD j .top)
  | [], [], _, j => by simp; exact Sub.refl _
  | [], _ :: _, h, _ => h.elim
  | _ :: _, [], h, _ => h.elim
  | a :: as, b :: bs, h, 0 => by simpa using h.1
  | a :: as, b :: bs, h, j + 1 => by simpa using Subs.get h.2 j
theorem Subs.refl : ∀ as : List AV, Subs as as
  | [] => trivial
  | a :: as => ⟨Sub.refl a, Subs.refl as⟩
theorem Sub.agg {as bs : List AV} (h : Subs as bs) : Sub (.agg as) (.agg bs) := by
  intro ρ μ v r
  cases r with
  | agg _ _ _ vs hl hr => exact .agg _ _ _ _ (by rw [hl, h.len]) fun j hj => h.get j _ _ _ (hr j (by rw [h.len]; exact hj))
theorem Sub.rows {sz n : Nat} {f g : Nat → List AV} (h : ∀ i, i < n → Subs (f i) (g i)) : Sub (.rows sz n f) (.rows sz n g) := by
  intro ρ μ v r
  cases r with
  | rows _ _ _ _ a c _ b o ws hlen hsz hrel hmem hc hm =>
    exact .rows _ _ _ _ _ _ _ b o ws (fun i hi => by rw [← (h i hi).len]; exact hlen i hi) hsz (fun i j hi hj => (h i hi).get j _ _ _ (hrel i j hi hj)) hmem hc hm
theorem FSpec.sub {P : Program} {f : FuncId} {as bs : List AV} {H : Hp} {Q : AV → Hp → Prop} (h : FSpec P f bs H Q) (hs : Subs as bs) : FSpec P f as H Q := by
  intro ρ μ w vs hl hr hrep
  exact h ρ μ w vs (by rw [hl, hs.len]) (fun j hj => hs.get j _ _ _ (hr j (by rw [hs.len]; exact hj))) hrep

section
variable {P : Program} {n t e : Nat}
theorem Ty.int_inv {k : IntKind} (hu : P.underlying t = some (.int k)) {cs : List AV} (h : Ty P n t cs) : ∃ z, cs = [.int k z] ∧ (Lit.int k z).wf = true := by
  cases n with
  | zero => exact h.elim
  | succ n => unfold Ty at h; rw [hu] at h; exact h
theorem Ty.bool_inv (hu : P.underlying t = some .bool) {cs : List AV} (h : Ty P n t cs) : ∃ b, cs = [.bool b] := by
  cases n with
  | zero => exact h.elim
  | succ n => unfold Ty at h; rw [hu] at h; exact h
theorem Ty.flt_inv {k : FloatKind} (hu : P.underlying t = some (.float k)) {cs : List AV} (h : Ty P n t cs) : ∃ z, cs = [.flt k z] ∧ (Lit.float k z).wf = true := by
  cases n with
  | zero => exact h.elim
  | succ n => unfold Ty at h; rw [hu] at h; exact h
theorem Ty.str_inv (hu : P.underlying t = some .string) {cs : List AV} (h : Ty P n t cs) : ∃ s : ByteArray, cs = [.str s] ∧ s.size ≤ reachBytes := by
  cases n with
  | zero => exact h.elim
  | succ n => unfold Ty at h; rw [hu] at h; exact h
theorem Ty.slice_inv (hu : P.underlying t = some (.slice e)) {cs : List AV} (h : Ty P n t cs) : ∃ (m : Nat) (f : Nat → List AV), cs = [.rows (P.cellsOf e) m f] ∧ m * P.bytesOf e ≤ reachBytes ∧ ∀ i, i < m → Ty P (n - 1) e (f i) := by
  cases n with
  | zero => exact h.elim
  | succ n => unfold Ty at h; rw [hu] at h; exact h
theorem Ty.array_inv {m : Nat} (hu : P.underlying t = some (.array m e)) {cs : List AV} (h : Ty P n t cs) : cs.length = P.cellsOf t ∧ ∀ i, i < m → Ty P (n - 1) e ((cs.drop (i * P.cellsOf e)).take (P.cellsOf e)) := by
  cases n with
  | zero => exact h.elim
  | succ n => unfold Ty at h; rw [hu] at h; exact h
theorem Ty.struct_inv {fs : Array Field} (hu : P.underlying t = some (.struct fs)) {cs : List AV} (h : Ty P n t cs) : cs.length = P.cellsOf t ∧ ∀ f ∈ fs.toList, Ty P (n - 1) f.type ((cs.drop f.offset).take (P.cellsOf f.type)) := by
  cases n with
  | zero => exact h.elim
  | succ n => unfold Ty at h; rw [hu] at h; exact h

/-- A slice of integers. -/
theorem Ty.ints {k : IntKind} (hu : P.underlying t = some (.slice e)) (he : P.underlying e = some (.int k)) (hc : P.cellsOf e = 1) {cs : List AV} (h : Ty P n t cs) :
    ∃ (m : Nat) (l : Nat → Int), Subs cs [.rows 1 m (icol k l)] ∧ m * P.bytesOf e ≤ reachBytes ∧ ∀ i, i < m → (Lit.int k (l i)).wf = true := by
  obtain ⟨m, f, rfl, hm, hf⟩ := h.slice_inv hu
  rw [hc]
  refine ⟨m, fun i => match f i with | [.int _ z] => z | _ => 0, ⟨Sub.rows fun i hi => ?_, trivial⟩, hm, fun i hi => ?_⟩
  · obtain ⟨z, hz, _⟩ := (hf i hi).int_inv he
    simp only [icol, hz]
    exact Subs.refl _
  · obtain ⟨z, hz, hw⟩ := (hf i hi).int_inv he
    simpa only [hz] using hw
theorem TyV.int {k : IntKind} (hu : P.underlying t = some (.int k)) {av : AV} (h : TyV P n t av) : ∃ z, av = .int k z ∧ (Lit.int k z).wf = true := by
  unfold TyV at h
  rw [hu] at h
  obtain ⟨z, hz, hw⟩ := Ty.int_inv hu h
  injection hz with hz
  exact ⟨z, hz, hw⟩
theorem TyV.ints {k : IntKind} (hu : P.underlying t = some (.slice e)) (he : P.underlying e = some (.int k)) (hc : P.cellsOf e = 1) {av : AV} (h : TyV P n t av) :
    ∃ (m : Nat) (l : Nat → Int), Sub av (.rows 1 m (icol k l)) ∧ m * P.bytesOf e ≤ reachBytes ∧ ∀ i, i < m → (Lit.int k (l i)).wf = true := by
  unfold TyV at h
  rw [hu] at h
  obtain ⟨m, l, h1, h2, h3⟩ := Ty.ints hu he hc h
  exact ⟨m, l, h1.1, h2, h3⟩
theorem TyV.array {m : Nat} (hu : P.underlying t = some (.array m e)) {av : AV} (h : TyV P n t av) : ∃ cs, av = .agg cs ∧ cs.length = P.cellsOf t ∧ ∀ i, i < m → Ty P (n - 1) e ((cs.drop (i * P.cellsOf e)).take (P.cellsOf e)) := by
  unfold TyV at h
  rw [hu] at h
  obtain ⟨cs, h1, h2⟩ := h
  exact ⟨cs, h1, Ty.array_inv hu h2⟩
theorem TyV.struct {fs : Array Field} (hu : P.underlying t = some (.struct fs)) {av : AV} (h : TyV P n t av) : ∃ cs, av = .agg cs ∧ cs.length = P.cellsOf t ∧ ∀ f ∈ fs.toList, Ty P (n - 1) f.type ((cs.drop f.offset).take (P.cellsOf f.type)) := by
  unfold TyV at h
  rw [hu] at h
  obtain ⟨cs, h1, h2⟩ := h
  exact ⟨cs, h1, Ty.struct_inv hu h2⟩
theorem TyArgs.cons {ts : List TypeId} {avs : List AV} (h : TyArgs P n (t :: ts) avs) : ∃ a as, avs = a :: as ∧ TyV P n t a ∧ TyArgs P n ts as := by
  cases avs with
  | nil => exact h.elim
  | cons a as => exact ⟨a, as, rfl, h.1, h.2⟩
theorem TyArgs.nil {avs : List AV} (h : TyArgs P n [] avs) : avs = [] := by
  cases avs with
  | nil => rfl
  | cons a as => exact h.elim
end
end Vx

namespace Vx
open Go

/-! ## Loops over functions -/
section
variable {P : Program} {N : Nat} {f : FuncId} {C : Ctx} {k : List Item} {s : Slots} {H : Hp}

theorem setB_same {w : World} {l : Nat} {o o' : Obj} (h : w.heap[l]? = some o') : (setB w l o).heap[l]? = some o := by
  have := (Array.getElem?_eq_some_iff.1 h).1
  simp [setB, this]
theorem setB_ne {w : World} {l b : Nat} {o : Obj} (h : b ≠ l) : (setB w l o).heap[b]? = w.heap[b]? := by
  simp [setB, Array.getElem?_setIfInBounds_ne (Ne.symm h)]
theorem setB_size {w : World} {l : Nat} {o : Obj} : (setB w l o).heap.size = w.heap.size := by simp [setB]
theorem setB_setB {w : World} {l : Nat} {o o' : Obj} : setB (setB w l o) l o' = setB w l o' := by
  simp [setB]
def notCells : Obj → Prop
  | .cells .. => False
  | _ => True
theorem cell_ne {w : World} {l b x : Nat} {o : Obj} {v : Value} (h : w.heap[l]? = some o) (hn : notCells o) (hc : w.cell? ⟨b, x, none⟩ = some v) : b ≠ l := by
  rintro rfl
  simp only [World.cell?, h] at hc
  cases o <;> simp [notCells] at hn hc

theorem Rep.setB {ρ : Rho} {μ : Mu} {w : World} (h : Rep ρ μ H w) {l : Nat} {o : Obj} (hl : w.heap[l]? = some o) (hn : notCells o) (o' : Obj) : Rep ρ μ H (setB w l o') := by
  have ne : ∀ {o : Nat} {ob : Ob} {L : Loc} {cs : Array Value}, ObAt ρ μ w o ob L cs → L.b ≠ l := by
    intro o2 ob L cs hat e
    have := hat.heap
    rw [e, hl] at this
    injection this with this
    subst this
    exact hn
  refine ⟨h.dom, fun o2 ob ho => ?_, h.distinct, fun b x v hb => ?_, h.sep⟩
  · rcases h.obj o2 ob ho with ⟨L, cs, hat⟩ | h1
    · exact .inl ⟨L, cs, hat.cont (RhoLe.refl _) (MuLe.refl _) (setB_ne (ne hat))⟩
    · exact .inr h1
  · obtain ⟨h1, h2⟩ := h.mem b x v hb
    refine ⟨?_, h2⟩
    rw [← h1]
    exact World.cell?_of_block (a := ⟨b, x, none⟩) (setB_ne (cell_ne hl hn h1))
theorem St.setB {ρ : Rho} {μ : Mu} {w : World} (h : St C ρ μ H w) {l : Nat} {o : Obj} (hl : w.heap[l]? = some o) (hn : notCells o) (hown : C.own l) (o' : Obj) : St C ρ μ H (setB w l o') := by
  refine ⟨h.rep.setB hl hn o', ⟨h.keep.hl, h.keep.rho, h.keep.mu, by rw [setB_size]; exact h.keep.size, h.keep.os, h.keep.tape, h.keep.output, fun b hb => ?_, h.keep.own, h.keep.muo⟩⟩
  rw [setB_ne (fun e => by subst e; exact hb hown)]
  exact h.keep.block b hb
/-- A block that a call does not touch may be put back. -/
theorem St.unset {n : Nat} {ρ ρ' : Rho} {μ μ' : Mu} {H H' : Hp} {w w' : World} {l : Nat} {o x : Obj} (hl : w.heap[l]? = some o) (hx : notCells x) (hno : ¬ (⟨w, ρ, μ, H, n⟩ : Ctx).own l) (h : St ⟨Vx.setB w l x, ρ, μ, H, n⟩ ρ' μ' H' w') : St ⟨w, ρ, μ, H, n⟩ ρ' μ' H' (Vx.setB w' l o) := by
  have eown : ∀ b, (⟨Vx.setB w l x, ρ, μ, H, n⟩ : Ctx).own b ↔ (⟨w, ρ, μ, H, n⟩ : Ctx).own b := fun b => by simp only [Ctx.own, setB_size]
  have hl' : w'.heap[l]? = some x := by
    rw [h.keep.block l (fun h1 => hno ((eown l).1 h1))]
    exact setB_same hl
  refine ⟨h.rep.setB hl' hx o, ⟨h.keep.hl, h.keep.rho, h.keep.mu, ?_, h.keep.os, h.keep.tape, h.keep.output, fun b hb => ?_, fun o2 L ho hL => (eown _).1 (h.keep.own o2 L ho hL), fun b y hb => h.keep.muo b y (fun h1 => hb ((eown b).1 h1))⟩⟩
  · have := h.keep.size
    simp only [setB_size] at this ⊢
    exact this
  · by_cases e : b = l
    · subst e
      rw [setB_same hl']; exact hl.symm
    · rw [setB_ne e, h.keep.block b (fun h1 => hb ((eown b).1 h1))]
      exact setB_ne e
theorem notown_start {n : Nat} {ρ : Rho} {μ : Mu} {w : World} (h : Rep ρ μ H w) {l : Nat} {o : Obj} (hl : w.heap[l]? = some o) (hn : notCells o) : ¬ (⟨w, ρ, μ, H, n⟩ : Ctx).own l := by
  rintro (h1 | ⟨o2, L, h1, h2, h3⟩)
  · have := (Array.getElem?_eq_some_iff.1 hl).1
    simp only at h1
    omega
  · obtain ⟨ob, h1⟩ := h1
    rcases h.obj o2 ob h1 with ⟨L', cs, hat⟩ | ⟨h4, _⟩
    · obtain rfl : L' = L := Option.some.inj (hat.loc.symm.trans h2)
      have := hat.heap
      rw [h3, hl] at this
      injection this with this
      subst this
      exact hn
    · simp only at h2; rw [h4] at h2; cases h2

/-- The round's record is ready. -/
def RoundAt (C : Ctx) (l : Nat) : Prop := ∃ R, C.w0.heap[l]? = some (.loop R) ∧ R.state = .ready ∧ ¬ C.own l
theorem RoundAt.fits {l : Nat} (h : RoundAt C l) (QR : Option Code → Hp → Prop) : Md.fits C (.round l QR) := let ⟨R, h1, _, h3⟩ := h; ⟨⟨R, h1⟩, h3⟩
theorem V.beginRound {l : Nat} {QR : Option Code → Hp → Prop} (hr : RoundAt C l) (h : ∀ C' : Ctx, C'.n0 = H.length → Md.fits C' (.round l QR) → V P f N C' (.round l QR) k s H) : V P f N C (.round l QR) (.beginRound :: k) s H := by
  obtain ⟨R, hR, hrd, hno⟩ := hr
  intro ρ μ a w hs hst b cs hb hk hro
  have hl : w.heap[l]? = some (.loop R) := by rw [hst.keep.block l hno]; exact hR
  have hrun := run_beginRound (P := P) hl hrd
  change _ = Result.ok () (Vx.setB w l (.loop { R with state := .busy })) at hrun
  have hno2 := notown_start (n := H.length) hst.rep hl trivial
  have hrep := hst.rep.setB hl trivial (.loop { R with state := .busy })
  have hbusy : (Vx.setB w l (.loop { R with state := .busy })).heap[l]? = some (.loop { R with state := .busy }) := setB_same hl
  obtain ⟨ex, a', w', fr, hfin, hd, hc, hx⟩ := h ⟨_, ρ, μ, H, H.length⟩ rfl ⟨⟨_, hbusy⟩, notown_start hrep hbusy trivial⟩ ρ μ a _ hs (.start hrep) b cs hb hk hro
  cases ex with
  | ret => exact hfin.elim
  | panic v => exact hfin.elim
  | at_ todo0 => exact hfin.elim
  | leave j =>
    obtain ⟨H', ρ', μ', hq, R0, R', e1, e2, e3, hst'⟩ := hfin
    replace e1 : (Vx.setB w l (.loop { R with state := .busy })).heap[l]? = some (.loop R0) := e1
    rw [hbusy] at e1
    injection e1 with e1
    injection e1 with e1
    subst e1
    refine ⟨.leave j, a', w', fr, ⟨H', ρ', μ', hq, R, R', hR, e2, ?_, ?_⟩, hd, .head (stepR_beginRound (by rw [hro]; rfl) hrun) hc, hx⟩
    · obtain ⟨q1, q2, q3, q4, q5, q6, q7, q8⟩ := R'
      obtain ⟨p1, p2, p3, p4, p5, p6, p7, p8⟩ := R
      simp_all
    · have := hst'.unset (x := .loop { R with state := .busy }) hl trivial hno2
      rw [setB_setB] at this
      exact hst.rebase hst.keep.hl this

/-- What an iterator's frame knows of the loop. -/
structure ItAt (C : Ctx) (l : Nat) (f : FuncId) (N : Nat) (s : Slots) (params : Array Tmp) (assign body : Code) : Prop where
  loop : ∃ R, C.w0.heap[l]? = some (.loop R) ∧ R.state = .ready ∧ R.pending = none ∧ R.fn = f ∧ R.params = params ∧ R.assign = assign ∧ R.body = body ∧ RelS C.ρ0 C.μ0 N s ⟨R.tmps, []⟩
  out : ¬ C.own l
  bnd : bndS C.n0 s = true

def bindS : List Tmp → List AV → Slots → Slots
  | t :: ts, v :: vs, s => bindS ts vs ((t, v) :: s)
  | _, _, s => s
theorem bind_rel {ρ : Rho} {μ : Mu} : ∀ (ps : List Tmp) (xs : List AV) (vs : List Value) (s : Slots) (tm : Array Value), ps.all (fun t => Nat.blt t N) = true → vs.length = xs.length → (∀ j, j < xs.length → RelV ρ μ (xs.getD j .top) (vs.getD j undef)) → ps.length = xs.length → RelS ρ μ N s ⟨tm, []⟩ →
    RelS ρ μ N (bindS ps xs s) ⟨(ps.zip vs).foldl (fun tm (p : Tmp × Value) => tm.setIfInBounds p.1 p.2) tm, []⟩
  | [], xs, vs, s, tm, _, _, _, _, h => by cases xs <;> simpa [bindS] using h
  | t :: ps, [], vs, s, tm, _, _, _, hl, _ => by simp at hl
  | t :: ps, x :: xs, [], s, tm, _, hl, _, _, _ => by simp at hl
  | t :: ps, x :: xs, v :: vs, s, tm, hb, hl, hr, hl2, h => by
    simp only [List.all_cons, Bool.and_eq_true] at hb
    simp only [bindS, List.zip_cons_cons, List.foldl_cons]
    refine bind_rel ps xs vs _ _ hb.2 (by simpa using hl) (fun j hj => by simpa using hr (j + 1) (by simpa using hj)) (by simpa using hl2) ?_
    have := h.put (d := t) (by simpa using hb.1) (x := x) (v := v) (by simpa using hr 0 (by simp))
    simpa [Act.put] using this

theorem Rep.rho_le {ρ ρ' : Rho} {μ : Mu} {w : World} (h : Rep ρ μ H w) (he : ∀ o, o < H.length → ρ' o = ρ o) : RhoLe ρ ρ' := by
  intro o L hL
  rcases Nat.lt_or_ge o H.length with h1 | h1
  · rw [he o h1]; exact hL
  · rw [h.dom o h1] at hL; cases hL

/-- A round, as the iterator sees it. -/
theorem V.yield {g : FuncId} {Ng l : Nat} {QN : Hp → Prop} {QS : Option Code → Hp → Prop} {params : Array Tmp} {assign body : Code} (it : ItAt C l f N s params assign body)
    {sg : Slots} {ops : Array Oper} {i : Nat} {rest : List Nat} {o : Oper} (ho : ops[i]? = some o) (hw : awant ops sg o.guard = .yes) (hd : dstOk Ng o.dst = true)
    {fo : Operand} {args : Array Operand} {ts : Array TypeId} (hop : o.op = .call ⟨.value fo, args, ts⟩) (hf : aeval sg fo = .fn (.yield l) [] []) (hsz : args.size = params.size) (hpb : params.toList.all (fun t => Nat.blt t N) = true)
    {s0 : Slots} (hs0 : bindS params.toList (args.toList.map (aeval sg)) s = s0) {QR : Option Code → Hp → Prop}
    (round : ∀ C' : Ctx, C'.n0 = H.length → RoundAt C' l → V P f N C' (.round l QR) [.code assign, .beginRound, .code body] s0 H)
    (go : ∀ H', QR none H' → V P g Ng C (.iter l QN QS) (.inRegion ops rest :: k) (putS sg o.dst (.bool true)) H')
    (stop : ∀ j H', QR (some j) H' → ∀ C' : Ctx, C'.n0 = H'.length → V P g Ng C' (.norm fun _ H'' => QS (some j) H'') (.inRegion ops rest :: k) (putS sg o.dst (.bool false)) H') :
    V P g Ng C (.iter l QN QS) (.inRegion ops (i :: rest) :: k) sg H := by
  subst hs0
  obtain ⟨R, hR, r1, r2, r3, r4, r5, r6, r7⟩ := it.loop
  intro ρ μ a w hs hst b cs hb hk hro
  have hl : w.heap[l]? = some (.loop R) := by rw [hst.keep.block l it.out]; exact hR
  have h2 := aeval_rel hs fo
  rw [hf] at h2
  generalize hv : a.eval fo = v at h2
  have hno := notown_start (n := H.length) hst.rep hl trivial
  cases h2 with
  | fn _ _ _ _ _ us vs hl1 hl2 _ _ =>
    have e1 : us = #[] := Array.eq_empty_of_size_eq_zero (by simpa using hl1)
    have e2 : vs = #[] := Array.eq_empty_of_size_eq_zero (by simpa using hl2)
    subst e1 e2
    -- the call asks for a round
    have hrun : (execOp a.eval o).run P w = .ok (.round l f ((params.zip (args.map a.eval)).foldl (fun tmps (p : Tmp × Value) => tmps.setIfInBounds p.1 p.2) R.tmps) assign body) w := by
      have hy := run_yield (P := P) (w := w) (l := l) (r := R) (args := args.map a.eval) hl (by rw [r4]; simpa using hsz)
      rw [r3, r4, r5, r6] at hy
      simp [execOp, hop, resolve, hv, Deferred.ofValue, invoke, hy]
    have hwt := (awant_sound hs ops o).1 hw
    have hg := stepGR_op (P := P) (b := b) (k := k) (cs := cs) (w := w) (rest := rest) ho hwt
    rw [semAt_of b.roundOf hrun (fun _ h => by cases h)] at hg
    have hfinish : ∀ v, (b.atR a (.inRegion ops (i :: rest) :: k)).finish v = b.atR (a.put o.dst v) (.inRegion ops rest :: k) := by
      intro v; rw [Frame.finish_atR, ho]; rfl
    generalize htm : (params.zip (args.map a.eval)).foldl (fun tmps (p : Tmp × Value) => tmps.setIfInBounds p.1 p.2) R.tmps = tm at hrun hg
    have hrelS : RelS ρ μ N (bindS params.toList (args.toList.map (aeval sg)) s) ⟨tm, []⟩ := by
      have h0 : RelS ρ μ N s ⟨R.tmps, []⟩ := ⟨r7.size, trivial, fun t => ((r7.v t).mono (RhoLe.refl _) hst.keep.mu).to (bndS_look it.bnd t) hst.keep.rho⟩
      have := bind_rel (N := N) (ρ := ρ) (μ := μ) params.toList (args.toList.map (aeval sg)) (args.toList.map a.eval) s R.tmps hpb (by simp) (fun j hj => ?_) (by simpa using hsz.symm) h0
      · have e : (params.toList.zip (args.toList.map a.eval)).foldl (fun tm (p : Tmp × Value) => tm.setIfInBounds p.1 p.2) R.tmps = tm := by
          rw [← htm, ← Array.foldl_toList, Array.toList_zip, Array.toList_map]
        rw [e] at this
        exact this
      · have := amap_rel hs args.toList j hj
        simpa [List.getD_eq_getElem?_getD] using this
    let br : Frame := { (frame0 f) with roundOf := some l }
    have hround : Frame.round l f tm assign body .normal = br.atR ⟨tm, []⟩ [.code assign, .beginRound, .code body] := by
      simp [Frame.round, Frame.atR, br, frame0]
    have henter : step P (lone (b.atR a (.inRegion ops (i :: rest) :: k)) cs w) = .next (lone (br.atR ⟨tm, []⟩ [.code assign, .beginRound, .code body]) (b.atR a (.inRegion ops (i :: rest) :: k) :: cs) w) := by
      rw [← hround]
      exact step_lone_go (by rw [hg]; simp [stepG.apply, hrun, Frame.atR])
    obtain ⟨ex, a', w', fr, hfin, hdf, hc, hx⟩ := round ⟨w, ρ, μ, H, H.length⟩ rfl ⟨R, hl, r1, hno⟩ ρ μ ⟨tm, []⟩ w hrelS (.start hst.rep) br (b.atR a (.inRegion ops (i :: rest) :: k) :: cs) rfl rfl rfl
    cases ex with
    | ret => exact hfin.elim
    | panic v => exact hfin.elim
    | at_ todo0 => exact hfin.elim
    | leave j =>
      obtain ⟨H', ρ', μ', hq, R0, R', q1, q2, q3, hst'⟩ := hfin
      replace q1 : w.heap[l]? = some (.loop R0) := q1
      rw [hl] at q1
      injection q1 with q1
      injection q1 with q1
      subst q1
      obtain ⟨bf, todo, rfl, hbf, hbr, hbk, hla⟩ := hx
      have hend := run_endRound (P := P) j q2
      change _ = Result.ok _ (Vx.setB w' l _) at hend
      have hle : RhoLe ρ ρ' := hst.rep.rho_le hst'.keep.rho
      have hstep : step P (lone (bf.atR a' todo) (b.atR a (.inRegion ops (i :: rest) :: k) :: cs) w') = .next (lone (b.atR (a.put o.dst (.bool j.isNone)) (.inRegion ops rest :: k)) cs (Vx.setB w' l (.loop { R' with state := if j.isNone then .ready else .done, pending := j }))) := by
        rw [← hfinish]
        match j, todo, hla with
        | none, [], _ => exact stepR_round_end hbr hbk hend
        | some .ret, .code .ret :: _, _ => exact stepR_round_ret hbr hbk hend
        | some (.exit id), .code (.exit id') :: kk, h => obtain ⟨rfl, hx⟩ := h; exact stepR_round_exit hbr hbk hx hend
      have hpath := Steps.head henter (Steps.trans hc (.one hstep))
      have hsg : ∀ v, RelS ρ' μ' Ng (putS sg o.dst (.bool v)) (a.put o.dst (.bool v)) := fun v => (hs.mono hle hst'.keep.mu).putS hd (.bool ..)
      cases j with
      | none =>
        have ew : Vx.setB w' l (.loop { R' with state := .ready, pending := none }) = Vx.setB w' l (.loop R) := by
          rw [q3, r1, r2]
        have hpath' : Steps P (lone (b.atR a (.inRegion ops (i :: rest) :: k)) cs w) (lone (b.atR (a.put o.dst (.bool true)) (.inRegion ops rest :: k)) cs (Vx.setB w' l (.loop R))) := by
          rw [← ew]; exact hpath
        obtain ⟨ex2, a2, w2, fr2, p1, p2, p3, p4⟩ := go H' hq ρ' μ' _ _ (hsg true) (hst.rebase hst.keep.hl hst') b cs hb hk hro
        exact ⟨ex2, a2, w2, fr2, p1, p2.trans (put_defers a _ _), Steps.trans hpath' p3, p4⟩
      | some j =>
        have hsame : (Vx.setB w' l (.loop R)).heap[l]? = some (.loop R) := setB_same q2
        have hst2 : Rep ρ' μ' H' (Vx.setB w' l (.loop { R' with state := .done, pending := some j })) := by
          have := hst'.rep.setB hsame trivial (.loop { R' with state := .done, pending := some j })
          rwa [setB_setB] at this
        have hl2 : (Vx.setB w' l (.loop { R' with state := .done, pending := some j })).heap[l]? = some (.loop { R' with state := .done, pending := some j }) := setB_same q2
        obtain ⟨ex2, a2, w2, fr2, p1, p2, p3, p4⟩ := stop j H' hq ⟨_, ρ', μ', H', H'.length⟩ rfl ρ' μ' _ _ (hsg false) (.start hst2) b cs hb hk hro
        cases ex2 with
        | leave j => exact p1.elim
        | panic v => exact p1.elim
        | at_ todo0 => exact p1.elim
        | ret =>
          obtain ⟨fn, v, r, H3, ρ3, μ3, f1, f2, f3, f4, f5⟩ := p1
          have hl3 : w2.heap[l]? = some (.loop { R' with state := .done, pending := some j }) := by
            rw [f5.keep.block l (notown_start hst2 hl2 trivial)]; exact hl2
          refine ⟨.ret, a2, w2, fr2, ⟨⟨fn, v, f1, f2⟩, .inr ⟨some j, H3, ρ3, μ3, f3, ⟨R, _, hR, hl3, ?_, ?_⟩, _, hl3, rfl, rfl⟩⟩, p2.trans (put_defers a _ _), Steps.trans hpath p3, p4⟩
          · obtain ⟨q1, q2, q3, q4, q5, q6, q7, q8⟩ := R'
            obtain ⟨p1, p2, p3, p4, p5, p6, p7, p8⟩ := R
            simp_all
          · have e0 : Vx.setB w' l (.loop { R' with state := .done, pending := some j }) = Vx.setB (Vx.setB w' l (.loop R)) l (.loop { R' with state := .done, pending := some j }) := by rw [setB_setB]
            rw [e0] at f5
            have := f5.unset (x := .loop { R' with state := .done, pending := some j }) hsame trivial (notown_start hst'.rep hsame trivial)
            exact (hst.rebase hst.keep.hl hst').rebase (hst.rebase hst.keep.hl hst').keep.hl this

theorem St.allocBoth {ρ : Rho} {μ : Mu} {w : World} (h : St C ρ μ H w) (o o' : Obj) : St C ρ μ H ((w.alloc o).alloc o') := (h.allocRaw o).allocRaw o'
/-- A loop over a function. -/
theorem V.rangeFunc {Q : AV → Hp → Prop} {M : Md} (hM : M = .norm Q ∨ M = .late Q) {f0 : Operand} {params : Array Tmp} {assign body : Code} {g : FuncId} {first cap : List AV} (hf : aeval s f0 = .fn (.func g) first cap)
    {gfn : Func} {gc : Code} {Ng : Nat} (hg : P.funcs[g]? = some gfn) (hgb : gfn.body = some gc) (hgn : gfn.ntmps = Ng) (hgl : first.length + 1 + cap.length ≤ Ng) (hnm : (gfn.name == "runtime.NumGoroutine") = false) (hb : bndS H.length s = true)
    {QN : Hp → Prop} {QS : Option Code → Hp → Prop}
    (iter : ∀ (C' : Ctx) (l : Nat), C'.n0 = H.length → ItAt C' l f N s params assign body → V P g Ng C' (.iter l QN QS) [.code gc] (argSlots 0 (first ++ [.fn (.yield l) [] []] ++ cap)) H)
    (done : ∀ H', QN H' → ∀ C' : Ctx, C'.n0 = C.n0 → V P f N C' (.late Q) k s H')
    (stop : ∀ j H', QS (some j) H' → ∀ C' : Ctx, C'.n0 = C.n0 → V P f N C' (.late Q) (.code j :: k) s H')
    (hnone : ∀ H', QS none H' → False) :
    V P f N C M (.code (.rangeFunc f0 params assign body) :: k) s H := by
  have hrn : M.rnd = none := by rcases hM with rfl | rfl <;> rfl
  have hkn : M.knd = .normal := by rcases hM with rfl | rfl <;> rfl
  intro ρ μ a w hs hst b cs hbf hk hro
  have h2 := aeval_rel hs f0
  rw [hf] at h2
  generalize hv : a.eval f0 = v at h2
  cases h2 with
  | fn _ _ _ _ _ us vs hl1 hl2 hr1 hr2 =>
    obtain ⟨R, hRdef⟩ : ∃ R : Loop, R = { state := .ready, pending := none, fn := f, tmps := a.tmps, params := params, assign := assign, body := body, defers := w.heap.size } := ⟨_, rfl⟩
    obtain ⟨w2, hw2⟩ : ∃ w2, w2 = (w.alloc (.deferred (some []))).alloc (.loop R) := ⟨_, rfl⟩
    have henterL := run_enterLoop_outer (P := P) (w := w) b.fn a.tmps params assign body
    rw [hbf, ← hRdef, ← hw2] at henterL
    have hst2 : St C ρ μ H w2 := by rw [hw2]; exact hst.allocBoth _ _
    have hl : w2.heap[w.heap.size + 1]? = some (.loop R) := by
      have := heap_alloc_new (w.alloc (.deferred (some []))) (.loop R)
      rw [World.size_alloc] at this
      rw [hw2]; exact this
    have hdef : w2.heap[w.heap.size]? = some (.deferred (some [])) := by
      rw [hw2, heap_alloc_old _ _ (by simp), heap_alloc_new]
    have hb' : ¬ gfn.body = none := by intro e; rw [e] at hgb; cases hgb
    have hnm' : ¬ gfn.name = "runtime.NumGoroutine" := by simpa using hnm
    have hstep := stepR_rangeFunc (P := P) (b := b) (a := a) (k := k) (cs := cs) (w := w) (g := f0) (ps := params) (assign := assign) (body := body) (l := w.heap.size + 1) (mark := [{ target := .collected w.heap.size, args := #[] }]) (w₁ := w2) (w₁' := w2) (w₂ := w2) (f := g)
      (d := { target := .fn (.func g) vs, args := us ++ #[Value.func (.yield (w.heap.size + 1)) #[] #[]] }) (args := us ++ #[Value.func (.yield (w.heap.size + 1)) #[] #[]] ++ vs) (by rw [hbf, hro, hrn]; exact henterL)
      (by simp only [resolve, rangeCall, hv]; simp [Deferred.ofValue, Act.eval]) (by simp [invoke, callFunc, hg, hb', hnm'])
    obtain ⟨m, hm⟩ : ∃ m : Deferred, m = { target := .collected w.heap.size, args := #[] } := ⟨_, rfl⟩
    rw [← hm] at hstep
    -- the iterator
    have hno := notown_start (n := H.length) hst2.rep hl trivial
    have hnod := notown_start (n := H.length) hst2.rep hdef trivial
    have hit : ItAt ⟨w2, ρ, μ, H, H.length⟩ (w.heap.size + 1) f N s params assign body := ⟨⟨R, hl, by rw [hRdef], by rw [hRdef], by rw [hRdef], by rw [hRdef], by rw [hRdef], by rw [hRdef], by rw [hRdef]; exact ⟨hs.size, trivial, hs.v⟩⟩, hno, hb⟩
    have hargs : RelS ρ μ Ng (argSlots 0 (first ++ [.fn (.yield (w.heap.size + 1)) [] []] ++ cap)) { tmps := (us ++ #[Value.func (.yield (w.heap.size + 1)) #[] #[]] ++ vs) ++ Array.replicate (gfn.ntmps - (us ++ #[Value.func (.yield (w.heap.size + 1)) #[] #[]] ++ vs).size) undef, defers := [] } := by
      refine enter_rel hgn (by simp; omega) (by simp [hl1, hl2]; omega) fun j hj => ?_
      simp only [List.getD_eq_getElem?_getD, Array.getD_eq_getD_getElem?, List.append_assoc, Array.append_assoc]
      by_cases h1 : j < first.length
      · rw [List.getElem?_append_left h1, Array.getElem?_append_left (by omega)]
        simpa [List.getD_eq_getElem?_getD] using hr1 j h1
      · rw [List.getElem?_append_right (by omega), Array.getElem?_append_right (by omega), hl1]
        by_cases h3 : j - first.length = 0
        · rw [h3]
          rw [Array.getElem?_append_left (by simp)]
          exact .fn _ _ _ [] [] #[] #[] rfl rfl (fun j hj => by simp at hj) (fun j hj => by simp at hj)
        · obtain ⟨q, hq⟩ : ∃ q, j - first.length = q + 1 := ⟨j - first.length - 1, by omega⟩
          rw [hq]
          have hq2 : q < cap.length := by
            simp only [List.length_append, List.length_cons, List.length_nil] at hj
            omega
          have := hr2 q hq2
          simp only [List.cons_append, List.nil_append, List.getElem?_cons_succ]
          rw [Array.getElem?_append_right (by simp)]
          simpa [List.getD_eq_getElem?_getD] using this
    have hen := enter_frame (P := P) hg hgb (us ++ #[Value.func (.yield (w.heap.size + 1)) #[] #[]] ++ vs)
    rw [hen] at hstep
    obtain ⟨ex, a1, w3, fr, hfin, hd1, hpath1, hx1⟩ := iter ⟨w2, ρ, μ, H, H.length⟩ (w.heap.size + 1) rfl hit ρ μ _ w2 hargs (.start hst2.rep) (frame0 g) (b.atR { a with defers := [m] ++ a.defers } (.inRangeFunc (w.heap.size + 1) :: k) :: cs) rfl rfl rfl
    cases ex with
    | leave j => exact hfin.elim
    | panic v => exact hfin.elim
    | at_ todo0 => exact hfin.elim
    | ret =>
      obtain ⟨⟨fn1, v1, hf1, hv1⟩, hout⟩ := hfin
      obtain ⟨_, e1, e2, e3, e4, e5⟩ := hx1
      have hleave : fr.leaving P w3 (.returned v1) := ⟨e4, by rw [e3, hd1], e5, fn1, by rw [e1]; exact hf1, by rw [e2]; exact hv1⟩
      have hback := step_leave_returned (c := b.atR { a with defers := [m] ++ a.defers } (.inRangeFunc (w.heap.size + 1) :: k)) (cs := cs) hleave
      rw [finish_atR_inRangeFunc] at hback
      -- behind the iterator: a record that is not busy, and the jump
      have hmain : ∃ (R' : Loop) (H' : Hp) (ρ' : Rho) (μ' : Mu), w3.heap[w.heap.size + 1]? = some (.loop R') ∧ R'.state ≠ .busy ∧ w3.heap[w.heap.size]? = some (.deferred (some [])) ∧ RhoLe ρ ρ' ∧ MuLe μ μ' ∧ St C ρ' μ' H' (Vx.setB w3 (w.heap.size + 1) (.loop R)) ∧
          ((R'.pending = none ∧ QN H') ∨ ∃ j, R'.pending = some j ∧ QS (some j) H') := by
        rcases hout with ⟨H', ρ', μ', hq, hst3⟩ | ⟨j, H', ρ', μ', hq, ⟨R0, R1, q1, q2, q3, hst3⟩, R2, q4, q5, q6⟩
        · have hl3 : w3.heap[w.heap.size + 1]? = some (.loop R) := by rw [hst3.keep.block _ hno]; exact hl
          refine ⟨R, H', ρ', μ', hl3, by rw [hRdef]; simp, by rw [hst3.keep.block _ hnod]; exact hdef, hst2.rep.rho_le hst3.keep.rho, hst3.keep.mu, ?_, .inl ⟨by rw [hRdef], hq⟩⟩
          rw [setB_self hl3]
          exact hst2.rebase hst2.keep.hl hst3
        · replace q1 : w2.heap[w.heap.size + 1]? = some (.loop R0) := q1
          rw [hl] at q1
          injection q1 with q1
          injection q1 with q1
          subst q1
          rw [q2] at q4
          injection q4 with q4
          injection q4 with q4
          subst q4
          refine ⟨R1, H', ρ', μ', q2, by rw [q5]; simp, ?_, hst2.rep.rho_le hst3.keep.rho, hst3.keep.mu, hst2.rebase hst2.keep.hl hst3, ?_⟩
          · have := hst3.keep.block _ hnod
            rw [setB_ne (by omega)] at this
            rw [this]; exact hdef
          · cases j with
            | none => exact (hnone _ hq).elim
            | some j => exact .inr ⟨j, q6, hq⟩
      obtain ⟨R', H', ρ', μ', m1, m2, m3, m4, m5, m6, m7⟩ := hmain
      have hendL := run_endLoop (P := P) m1 m2
      change _ = Result.ok _ (Vx.setB w3 _ _) at hendL
      have hsame : (Vx.setB w3 (w.heap.size + 1) (.loop R)).heap[w.heap.size + 1]? = some (.loop R) := setB_same m1
      have hownl : C.own (w.heap.size + 1) := .inl (by have := hst.keep.size; omega)
      have hownd : C.own w.heap.size := .inl hst.keep.size
      obtain ⟨w4, hw4⟩ : ∃ w4, w4 = Vx.setB w3 (w.heap.size + 1) (.loop { R' with state := .exhausted }) := ⟨_, rfl⟩
      rw [← hw4] at hendL
      have hst4 : St C ρ' μ' H' w4 := by
        have := m6.setB hsame trivial hownl (.loop { R' with state := .exhausted })
        rw [setB_setB] at this
        rw [hw4]; exact this
      have hdef4 : w4.heap[w.heap.size]? = some (.deferred (some [])) := by rw [hw4, setB_ne (by omega)]; exact m3
      have hstep4 := stepR_endRangeFunc (P := P) (b := b) (a := { a with defers := [m] ++ a.defers }) (k := k) (cs := cs) hendL
      have hpath4 : Steps P (lone (b.atR a (.code (.rangeFunc f0 params assign body) :: k)) cs w) (lone (b.atR { a with defers := [m] ++ a.defers } ((R'.pending.map Item.code).toList ++ k)) cs w4) :=
        .head hstep (Steps.trans hpath1 (.head hback (.one hstep4)))
      have hs4 : RelS ρ' μ' N s { a with defers := [m] ++ a.defers } := ⟨hs.size, trivial, fun t => (hs.v t).mono m4 m5⟩
      have hrest : V P f N ⟨w4, ρ', μ', H', C.n0⟩ (.late Q) ((R'.pending.map Item.code).toList ++ k) s H' := by
        rcases m7 with ⟨h1, h2⟩ | ⟨j, h1, h2⟩
        · rw [h1]; exact done H' h2 _ rfl
        · rw [h1]; exact stop j H' h2 _ rfl
      obtain ⟨ex2, a5, w5, fr2, hfin2, hd2, hpath2, hx2⟩ := hrest ρ' μ' _ w4 hs4 (.startN hst4.rep hst4.keep.hl) b cs hbf (hk.trans hkn) (by rw [hro, hrn]; rfl)
      cases ex2 with
      | leave j => exact hfin2.elim
      | panic v => exact hfin2.elim
      | at_ todo0 => exact hfin2.elim
      | ret =>
        obtain ⟨ρ5, μ5, H5, g5, g6⟩ := hfin2
        obtain ⟨k0, k1, k2, k3, k4, k5⟩ := hx2
        have hdef5 : w5.heap[w.heap.size]? = some (.deferred (some [])) := by
          rw [g5.keep.block _ (notown_start hst4.rep hdef4 trivial)]; exact hdef4
        have htake := run_takeDeferred (P := P) hdef5
        change _ = Result.ok _ (Vx.setB w5 _ _) at htake
        have hfr : fr2.defers = m :: a.defers := by rw [k3, hd2]; rfl
        have hcol := step_collected (P := P) (cs := cs) (fr := fr2) (by rw [k4]; simp) hfr (by rw [hm]) htake
        have hst5 : St C ρ5 μ5 H5 w5 := hst4.rebase (Nat.le_refl _) g5
        have hst6 := hst5.setB hdef5 trivial hownd (.deferred none)
        have hpath := Steps.trans hpath4 (Steps.trans hpath2 (.one hcol))
        refine ⟨.ret, { a5 with defers := a.defers }, Vx.setB w5 w.heap.size (.deferred none), { fr2 with defers := [] ++ a.defers }, ?_, rfl, hpath, hrn, k1, k2, by simp, k4, k5.trans hkn.symm⟩
        rcases hM with rfl | rfl
        · exact g6 C _ hst6
        · exact ⟨ρ5, μ5, H5, hst6, fun C' w' h => g6 C' w' h⟩
/-- Results that may be read later may be read now. -/
theorem V.late {Q : AV → Hp → Prop} {todo : List Item} (h : V P f N C (.late Q) todo s H) : V P f N C (.norm Q) todo s H := by
  intro ρ μ a w hs hst b cs hb hk hro
  obtain ⟨ex, a', w', fr, h1, h2, h3, h4⟩ := h ρ μ a w hs hst b cs hb hk hro
  cases ex with
  | ret =>
    obtain ⟨ρ', μ', H', g1, g2⟩ := h1
    exact ⟨.ret, a', w', fr, g2 C w' g1, h2, h3, h4⟩
  | leave j => exact h1.elim
  | panic v => exact h1.elim
  | at_ todo0 => exact h1.elim
/-- A loop whose rounds go on in other contexts. -/
theorem V.loopC {c : Code} {M : Md} {γ : Type} (n : Nat) (I : γ → Prop) (S : γ → Slots) (Hh : γ → Hp) (m : γ → Nat)
    (step : ∀ (C : Ctx) g, C.n0 = n → I g → (∀ (C' : Ctx) g', C'.n0 = n → I g' → m g' < m g → V P f N C' M (.inLoop c :: k) (S g') (Hh g')) → V P f N C M (.code c :: .inLoop c :: k) (S g) (Hh g)) :
    ∀ g, C.n0 = n → I g → V P f N C M (.code (.loop c) :: k) (S g) (Hh g) := by
  have key : ∀ d g (C : Ctx), m g = d → C.n0 = n → I g → V P f N C M (.code c :: .inLoop c :: k) (S g) (Hh g) := by
    intro d
    induction d using Nat.strongRecOn with
    | _ d ih =>
      intro g C hd hC hI
      exact step C g hC hI fun C' g' hC' hI' hlt => V.inLoop (ih (m g') (by omega) g' C' rfl hC' hI')
  exact fun g hC hI => V.loop1 (key _ g C rfl hC hI)
end
end Vx

/- A variable's box that is never written again, as a value. -/
namespace Vx
open Go
section
variable {P : Program} {N : Nat} {f : FuncId} {C : Ctx} {Q : Md} {s : Slots} {H : Hp} {todo : List Item}
theorem V.freezePtr (t : Nat) {o e sz : Nat} {row : List AV} (hl : look s t = .ptr o 0 0) (ho : hget H o = some ⟨e, sz, .lit [row]⟩) (hb : AV.bnd.bndL 0 row = true)
    (k : V P f N C Q todo ((t, .ref row) :: s) (setO H o none)) : V P f N C Q todo s H := by
  have ho' := hget_some ho
  refine V.steps k fun ρ μ a w hs hst => ?_
  have h1 := hs.v t
  rw [hl] at h1
  generalize hv : a.tmps.getD t undef = v at h1
  cases h1 with
  | ptr _ _ _ _ _ L hL =>
  obtain ⟨L', cs, hat⟩ := hst.rep.at_ ho' hL
  obtain rfl : L' = L := Option.some.inj (hat.loc.symm.trans hL)
  obtain ⟨hst', hm⟩ := hst.freeze ho' hat
  have hlen : row.length = L'.sz := hat.len 0 (by simp [Cont.n])
  have hbb : ∀ rows, (⟨e, sz, .lit [row]⟩ : Ob).c = .lit rows → rows.all (AV.bnd.bndL 0) = true := fun rows hr => by
    have : rows = [row] := by injection hr with hr; exact hr.symm
    rw [this]
    simp [hb]
  refine ⟨ρ, frz μ L' cs, a, w, ⟨hs.size, hs.defers, fun q => ?_⟩, by rw [setO_eq]; exact hst', rfl, fun _ _ _ _ => .refl _ _⟩
  simp only [look]
  cases hq : Nat.beq t q with
  | false => exact (hs.v q).mono (RhoLe.refl _) hm
  | true =>
    have := Nat.eq_of_beq_eq_true hq
    subst this
    rw [hv]
    have hx : (0 : Nat) * L'.sz + 0 = 0 := by simp
    rw [hx]
    refine .ref _ _ _ L'.b 0 (fun j => cs.getD j undef) (fun j hj => ?_) (fun j hj => ?_)
    · have q := (hat.imm hbb (i := 0) (j := j) (by simp [Cont.n]) (by omega)).mono (RhoLe.refl _) hm
      have e1 : (0 : Nat) * L'.sz + j = j := by simp
      rw [e1] at q
      exact q
    · have hlt : 0 * L'.sz + j < cs.size := hat.lt (by have := hat.n; simp only [Cont.n, List.length_singleton] at this; omega) (by omega)
      have e1 : (0 : Nat) * L'.sz + j = j := by simp
      rw [e1] at hlt
      simp only [Nat.zero_add, frz]
      rw [if_pos ⟨trivial, hlt⟩]
      simp [hlt]
/-- A value told otherwise. -/
theorem V.sub (t : Nat) {y : AV} (h : Sub (look s t) y) (k : V P f N C Q todo ((t, y) :: s) H) : V P f N C Q todo s H := by
  refine V.steps k fun ρ μ a w hs hst => ⟨ρ, μ, a, w, ⟨hs.size, hs.defers, fun q => ?_⟩, hst, rfl, fun _ _ _ _ => .refl _ _⟩
  simp only [look]
  cases hq : Nat.beq t q with
  | false => exact hs.v q
  | true =>
    have := Nat.eq_of_beq_eq_true hq
    subst this
    exact h _ _ _ (hs.v t)
end
end Vx

/- Fresh slices handed back as values, whatever object they lie in. -/
namespace Vx
open Go
theorem St.froz {C : Ctx} {ρ : Rho} {μ : Mu} {H : Hp} {w : World} {o e sz m n : Nat} {f : Nat → List AV} {v : Value} (hp : 0 < sz) (hst : St C ρ μ H w) (ho : H[o]? = some (some ⟨e, sz, .arr m f⟩)) (hn : n ≤ m) (hr : RelV ρ μ (.sl o 0 n) v) :
    ∃ μ', MuLe μ μ' ∧ St C ρ μ' (H.set o none) w ∧ RelV ρ μ' (.rows sz n f) v := by
  cases hr with
  | sl _ _ _ _ _ c xo L hL hc hn' hxo =>
    obtain ⟨L', cs, hat⟩ := hst.rep.at_ ho hL
    obtain rfl : L' = L := Option.some.inj (hat.loc.symm.trans hL)
    obtain ⟨hst', hm⟩ := hst.freeze ho hat
    have es : L'.sz = sz := hat.sz.symm
    refine ⟨_, hm, hst', ?_⟩
    have hm2 : ∀ p, p < n → p < (⟨e, sz, .arr m f⟩ : Ob).c.n := fun p hp => by simp only [Cont.n]; omega
    refine .rows _ _ _ _ _ _ _ L'.b xo (fun p q => cs.getD (p * L'.sz + q) undef) (fun p hp => by rw [← es]; exact hat.len _ (hm2 p hp)) hp (fun p q hp hq => by
      rw [← es] at hq
      exact (hat.imm (fun rows hr => by cases hr) (hm2 p hp) hq).mono (RhoLe.refl _) hm) (fun p q hp hq => ?_) hn' (by have := hat.max; omega)
    have hx : xo = 0 := by rcases hxo with h | h <;> omega
    rw [← es] at hq ⊢
    refine ⟨by rw [hx], ?_⟩
    have hlt : p * L'.sz + q < cs.size := hat.lt (by have := hat.n; have := hm2 p hp; omega) hq
    have e1 : xo + p * L'.sz + q = p * L'.sz + q := by omega
    rw [e1]
    simp only [frz]
    rw [if_pos ⟨trivial, hlt⟩]
    simp [hlt]
  | slNil =>
    exact ⟨μ, MuLe.refl _, hst.kill o, .rows _ _ _ _ none 0 _ 0 0 (fun _ _ => undef) (fun p hp => by omega) hp (fun p q hp => by omega) (fun p q hp => by omega) (Nat.le_refl _) (by simp)⟩
theorem rel_nilrows {ρ : Rho} {μ : Mu} {v : Value} {sz : Nat} (hs : 0 < sz) (f : Nat → List AV) (h : RelV ρ μ (.nil .slice) v) : RelV ρ μ (.rows sz 0 f) v := by
  cases h
  exact .rows ρ μ 0 f none 0 sz 0 0 (fun _ _ => undef) (fun i hi => by omega) hs (fun i j hi => by omega) (fun i j hi => by omega) (Nat.le_refl _) (Nat.zero_le _)
/-- How a slice stands that is handed back: nil, or all of a fresh object. -/
def Fresh (H : Hp) (sz n : Nat) (f : Nat → List AV) (r : AV) : Prop := (r = .nil .slice ∧ n = 0) ∨ ∃ o e m g, r = .sl o 0 n ∧ n ≤ m ∧ H[o]? = some (some ⟨e, sz, .arr m g⟩) ∧ ∀ i, i < n → g i = f i
theorem St.fresh {C : Ctx} {ρ : Rho} {μ : Mu} {H : Hp} {w : World} {sz n : Nat} {f : Nat → List AV} {r : AV} {v : Value} (hp : 0 < sz) (hst : St C ρ μ H w) (hf : Fresh H sz n f r) (hr : RelV ρ μ r v) (h0 : C.n0 = 0) :
    ∃ μ', MuLe μ μ' ∧ St C (rcut 0 ρ) μ' [] w ∧ RelV (rcut 0 ρ) μ' (.rows sz n f) v := by
  rcases hf with ⟨rfl, rfl⟩ | ⟨o, e, m, g, rfl, hn, ho, hg⟩
  · exact ⟨μ, MuLe.refl _, hst.cov (H' := []) (by cases H <;> simp [heapCov]) (by rw [h0]; exact Nat.le_refl _), (rel_nilrows hp f hr).to (N := 0) rfl (fun o ho => by omega)⟩
  · obtain ⟨μ', h1, h2, h3⟩ := hst.froz hp ho hn hr
    replace h3 : RelV ρ μ' (.rows sz n f) v := by
      cases h3 with
      | rows _ _ _ _ a c _ b o' ws hlen hsz hrel hmem hc hm =>
        exact .rows _ _ _ _ a c _ b o' ws (fun i hi => by rw [← hg i hi]; exact hlen i hi) hsz (fun i j hi hj => by rw [← hg i hi]; exact hrel i j hi hj) hmem hc hm
    exact ⟨μ', h1, h2.cov (H' := []) (by cases H.set o none <;> simp [heapCov]) (by rw [h0]; exact Nat.le_refl _), h3.to (N := 0) rfl (fun o ho => by omega)⟩
theorem FSpec.froz {P : Program} {g : FuncId} {args : List AV} {sz : Nat} {Q : AV → Hp → Prop} {R : Nat → (Nat → List AV) → Prop} (hp : 0 < sz) (h : FSpec P g args [] Q) (hq : ∀ r H', Q r H' → ∃ n f, R n f ∧ Fresh H' sz n f r) :
    FSpec P g args [] (fun r H' => H' = [] ∧ ∃ n f, R n f ∧ r = .rows sz n f) := by
  intro ρ μ w vs h1 h2 h3
  refine (h ρ μ w vs h1 h2 h3).mono ?_
  rintro ex w' ⟨v, r, H', ρ', μ', rfl, hQ, hr, hst⟩
  obtain ⟨n, f, hR, hf⟩ := hq r H' hQ
  obtain ⟨μ'', _, c2, c3⟩ := hst.fresh hp hf hr rfl
  exact ⟨v, _, [], _, μ'', rfl, ⟨rfl, n, f, hR, rfl⟩, c3, c2⟩
/-- The same beside another result. -/
theorem FSpec.froz2 {P : Program} {g : FuncId} {args : List AV} {sz : Nat} {Q : AV → Hp → Prop} {R : Nat → (Nat → List AV) → AV → Prop} (hp : 0 < sz) (h : FSpec P g args [] Q) (hq : ∀ r H', Q r H' → ∃ n f x y, r = .tup [x, y] ∧ R n f y ∧ y.bnd 0 = true ∧ Fresh H' sz n f x) :
    FSpec P g args [] (fun r H' => H' = [] ∧ ∃ n f y, R n f y ∧ r = .tup [.rows sz n f, y]) := by
  intro ρ μ w vs h1 h2 h3
  refine (h ρ μ w vs h1 h2 h3).mono ?_
  rintro ex w' ⟨v, r, H', ρ', μ', rfl, hQ, hr, hst⟩
  obtain ⟨n, f, x, y, rfl, hR, hb, hf⟩ := hq r H' hQ
  cases hr with
  | tup _ _ _ vs hl hj =>
    have j0 := hj 0 (by simp)
    have j1 := hj 1 (by simp)
    simp only [List.getD_cons_zero, List.getD_cons_succ] at j0 j1
    obtain ⟨μ'', c1, c2, c3⟩ := hst.fresh hp hf j0 rfl
    refine ⟨_, _, [], _, μ'', rfl, ⟨rfl, n, f, y, hR, rfl⟩, .tup _ _ _ vs hl (fun j hj => ?_), c2⟩
    match j, hj with
    | 0, _ => exact c3
    | 1, _ => exact (j1.mono (RhoLe.refl _) c1).to (N := 0) hb (fun o ho => by omega)
end Vx

/- Regions that draw their order, whose first operations only read and compute: any order comes to the same. -/
namespace Vx
open Go
/-- The first m operations are told by what they yield, and all others wait for them. -/
def steadyB (ops : Array Oper) (m : Nat) : Bool :=
  Nat.ble m ops.size &&
  ((List.range m).all fun i => match ops[i]? with
    | none => false
    | some o => ((List.range m).all fun j => Nat.beq i j || match o.dst with | none => true | some d => (match dstOf ops j with | some d' => !(Nat.beq d d') | none => true)) &&
      ((o.looksAt ops).all fun t => (List.range m).all fun j => match dstOf ops j with
        | some d => !(Nat.beq d t) || (Nat.blt j i && o.after.any fun e => Region.binds .any e && Nat.beq e.on j)
        | none => true) &&
      (o.after.all fun e => !(Region.binds .any e) || Nat.blt e.on i)) &&
  ((List.range m).all fun i => (List.range ops.size).all fun k => Nat.blt k m || (waitSet ops i).getD k false)
/-- One of them, number a, may make an object. -/
def Det (P : Program) (T : Tab) (N : Nat) (ops : Array Oper) (K : Slots → Hp → Prop) (a : Nat) (H : Hp) : Nat → Nat → Slots → Hp → Prop
  | 0, _, s, Hc => K s Hc
  | c + 1, i, s, Hc => (i = a ∧ ∃ r H1, Ext H H1 ∧ Runs P T N ops i s H (one r H1) ∧ Det P T N ops K a H c (i + 1) (putS s (dstOf ops i) r) H1) ∨
      (i ≠ a ∧ ∃ r, (∀ H2, Ext H H2 → Runs P T N ops i s H2 (one r H2)) ∧ Det P T N ops K a H c (i + 1) (putS s (dstOf ops i) r) Hc)
def maskA (m n : Nat) : Array Bool := ((List.range n).map fun i => Nat.blt i m).toArray
structure Steady (ops : Array Oper) (m : Nat) : Prop where
  le : m ≤ ops.size
  dst : ∀ i j o d, i < m → j < m → i ≠ j → ops[i]? = some o → o.dst = some d → dstOf ops j ≠ some d
  look : ∀ i o, i < m → ops[i]? = some o → ∀ t ∈ o.looksAt ops, ∀ j, j < m → dstOf ops j = some t → j < i ∧ ∃ e ∈ o.after, Region.binds .any e = true ∧ e.on = j
  after : ∀ i o, i < m → ops[i]? = some o → ∀ e ∈ o.after, Region.binds .any e = true → e.on < i
  wait : ∀ i k, i < m → m ≤ k → k < ops.size → Reach ops i k
theorem steady_of {ops : Array Oper} {m : Nat} (h : steadyB ops m = true) : Steady ops m := by
  simp only [steadyB, Bool.and_eq_true, List.all_eq_true, List.mem_range] at h
  obtain ⟨⟨h0, h1⟩, h2⟩ := h
  have hop : ∀ i o, i < m → ops[i]? = some o → (∀ j, j < m → (Nat.beq i j || match o.dst with | none => true | some d => (match dstOf ops j with | some d' => !(Nat.beq d d') | none => true)) = true) ∧ (∀ t ∈ o.looksAt ops, ∀ j, j < m → (match dstOf ops j with
        | some d => !(Nat.beq d t) || (Nat.blt j i && o.after.any fun e => Region.binds .any e && Nat.beq e.on j)
        | none => true) = true) ∧ (o.after.all fun e => !(Region.binds .any e) || Nat.blt e.on i) = true := by
    intro i o hi ho
    have := h1 i hi
    simp only [ho, Bool.and_eq_true, List.all_eq_true, List.mem_range] at this
    exact ⟨this.1.1, this.1.2, this.2⟩
  refine ⟨Nat.le_of_ble_eq_true h0, ?_, ?_, ?_, ?_⟩
  · intro i j o d hi hj hij ho hd he
    have := (hop i o hi ho).1 j hj
    simp only [hd, he, Bool.or_eq_true, Bool.not_eq_true'] at this
    rcases this with h | h
    · exact hij (Nat.eq_of_beq_eq_true h)
    · simp at h
  · intro i o hi ho t ht j hj hd
    have := (hop i o hi ho).2.1 t ht j hj
    simp only [hd, Bool.or_eq_true, Bool.not_eq_true', Bool.and_eq_true] at this
    rcases this with h | ⟨h, h'⟩
    · simp at h
    · obtain ⟨e, he, hb⟩ := Array.any_eq_true'.1 h'
      simp only [Bool.and_eq_true] at hb
      exact ⟨by simpa [Nat.blt_eq] using h, e, he, hb.1, Nat.eq_of_beq_eq_true hb.2⟩
  · intro i o hi ho e he hb
    have := (hop i o hi ho).2.2
    rw [Array.all_eq_true'] at this
    have := this e he
    simp only [hb, Bool.not_true, Bool.false_or] at this
    simpa [Nat.blt_eq] using this
  · intro i k hi hk hks
    have := h2 i hi k hks
    simp only [Bool.or_eq_true] at this
    rcases this with h | h
    · have : k < m := by simpa [Nat.blt_eq] using h
      omega
    · exact (waitSet_spec ops.size).2 k h
theorem filt_one {p q : Nat → Bool} {i : Nat} (hpi : p i = true) (hq : ∀ j, q j = (p j && !(Nat.beq j i))) : ∀ (l : List Nat), l.Nodup → i ∈ l → (l.filter p).length = (l.filter q).length + 1
  | [], _, h => by simp at h
  | x :: r, hn, h => by
    have hn' := List.nodup_cons.1 hn
    by_cases hx : x = i
    · subst hx
      have e : r.filter q = r.filter p := by
        refine List.filter_congr fun j hj => ?_
        rw [hq]
        have : j ≠ x := fun e => hn'.1 (e ▸ hj)
        have h2 : Nat.beq j x = false := by
          cases h : Nat.beq j x with
          | false => rfl
          | true => exact absurd (Nat.eq_of_beq_eq_true h) this
        rw [h2]; simp
      have e2 : q x = false := by rw [hq]; simp
      simp [List.filter_cons, hpi, e2, e]
    · have hi : i ∈ r := by simpa [Ne.symm hx] using h
      have ih := filt_one hpi hq r hn'.2 hi
      have e2 : q x = p x := by
        rw [hq]
        have h2 : Nat.beq x i = false := by
          cases h : Nat.beq x i with
          | false => rfl
          | true => exact absurd (Nat.eq_of_beq_eq_true h) hx
        rw [h2]; simp
      simp only [List.filter_cons, e2]
      split
      · simp [ih]
      · exact ih
section
variable {P : Program} {T : Tab} {N : Nat} {ops : Array Oper} {K : Slots → Hp → Prop} {H : Hp}
theorem Det.get {K0 : Slots → Hp → Prop} {a : Nat} : ∀ (c i : Nat) (s : Slots) (Hc : Hp), Det P T N ops K0 a H c i s Hc → ∃ (r : Nat → AV) (S : Nat → Slots) (H1 : Hp), S i = s ∧ (∀ j, i ≤ j → j < i + c → S (j + 1) = putS (S j) (dstOf ops j) (r j)) ∧
    (∀ j, i ≤ j → j < i + c → j ≠ a → ∀ H2, Ext H H2 → Runs P T N ops j (S j) H2 (one (r j) H2)) ∧ (i ≤ a ∧ a < i + c → Ext H H1 ∧ Runs P T N ops a (S a) H (one (r a) H1)) ∧ (¬ (i ≤ a ∧ a < i + c) → H1 = Hc) ∧ K0 (S (i + c)) H1
  | 0, i, s, Hc, h => ⟨fun _ => .top, fun _ => s, Hc, rfl, fun j h1 h2 => by omega, fun j h1 h2 => by omega, fun h => by omega, fun _ => rfl, h⟩
  | c + 1, i, s, Hc, h => by
    have main : ∀ (r0 : AV) (Hn : Hp), Det P T N ops K0 a H c (i + 1) (putS s (dstOf ops i) r0) Hn → (i ≠ a → Hn = Hc ∧ ∀ H2, Ext H H2 → Runs P T N ops i s H2 (one r0 H2)) → (i = a → Ext H Hn ∧ Runs P T N ops i s H (one r0 Hn)) →
        ∃ (r : Nat → AV) (S : Nat → Slots) (H1 : Hp), S i = s ∧ (∀ j, i ≤ j → j < i + (c + 1) → S (j + 1) = putS (S j) (dstOf ops j) (r j)) ∧
    (∀ j, i ≤ j → j < i + (c + 1) → j ≠ a → ∀ H2, Ext H H2 → Runs P T N ops j (S j) H2 (one (r j) H2)) ∧ (i ≤ a ∧ a < i + (c + 1) → Ext H H1 ∧ Runs P T N ops a (S a) H (one (r a) H1)) ∧ (¬ (i ≤ a ∧ a < i + (c + 1)) → H1 = Hc) ∧ K0 (S (i + (c + 1))) H1 := by
      intro r0 Hn h2 hne heq
      obtain ⟨r, S, H1, e, hput, hall, ha, hna, hk⟩ := Det.get c (i + 1) _ _ h2
      refine ⟨fun j => if j = i then r0 else r j, fun j => if j ≤ i then s else S j, H1, by simp, fun j h3 h4 => ?_, fun j h3 h4 h5 => ?_, fun h3 => ?_, fun h3 => ?_, by
        show K0 (if i + (c + 1) ≤ i then s else S (i + (c + 1))) H1
        rw [if_neg (by omega), show i + (c + 1) = i + 1 + c by omega]
        exact hk⟩
      · by_cases hj : j = i
        · subst hj
          simp only [if_true, Nat.le_refl]
          rw [if_neg (by omega), e]
        · have n1 : ¬ j ≤ i := by omega
          have n2 : ¬ j + 1 ≤ i := by omega
          simp only [if_neg hj, if_neg n1, if_neg n2]
          exact hput j (by omega) (by omega)
      · by_cases hj : j = i
        · subst hj
          simp only [if_true, Nat.le_refl]
          exact (hne h5).2
        · have n1 : ¬ j ≤ i := by omega
          simp only [if_neg hj, if_neg n1]
          exact hall j (by omega) (by omega) h5
      · by_cases hj : i = a
        · subst hj
          simp only [if_true, Nat.le_refl]
          rw [hna (by omega)]
          exact heq rfl
        · have n1 : ¬ a ≤ i := by omega
          simp only [if_neg (Ne.symm hj), if_neg n1]
          exact ha (by omega)
      · by_cases hj : i = a
        · omega
        · rw [hna (by omega)]
          exact (hne hj).1
    rcases h with ⟨h0, r0, H1, hx, h1, h2⟩ | ⟨h0, r0, h1, h2⟩
    · exact main r0 H1 h2 (fun h => absurd h0 h) (fun _ => ⟨hx, h1⟩)
    · exact main r0 Hc h2 (fun _ => ⟨rfl, h1⟩) (fun h => absurd h h0)
theorem AnyP.steady {m a : Nat} (hst : Steady ops m) (hK : ∀ s s' H, LEq s s' → K s H → K s' H) {s0 : Slots} (h : Det P T N ops (fun s H => AnyP P T N ops K (ops.size - m) (maskA m ops.size) s H) a H m 0 s0 H) : AnyP P T N ops K ops.size (Array.replicate ops.size false) s0 H := by
  obtain ⟨r, S, H1, e0, hput, hall, ha, hna, hk⟩ := Det.get m 0 s0 H h
  simp only [Nat.zero_add, Nat.zero_le, true_implies, true_and] at hall hk hput ha hna
  have ops_get : ∀ i, i < m → ∃ o, ops[i]? = some o := fun i hi => ⟨_, Array.getElem?_eq_getElem (Nat.lt_of_lt_of_le hi hst.le)⟩
  -- what the slots hold
  have hlook : ∀ t b, b ≤ m → (∀ j, b ≤ j → j < m → dstOf ops j ≠ some t) → look (S m) t = look (S b) t := by
    intro t b hb
    have : ∀ d b, b + d = m → (∀ j, b ≤ j → j < m → dstOf ops j ≠ some t) → look (S m) t = look (S b) t := by
      intro d
      induction d with
      | zero => intro b hb _; rw [← hb]; rfl
      | succ d ih =>
        intro b hb hd
        rw [ih (b + 1) (by omega) (fun j h1 h2 => hd j (by omega) h2), hput b (by omega), look_put, if_neg (hd b (Nat.le_refl _) (by omega))]
    exact this (m - b) b (by omega)
  have hdst : ∀ i t, i < m → dstOf ops i = some t → look (S m) t = r i := by
    intro i t hi hd
    obtain ⟨o, ho⟩ := ops_get i hi
    rw [hlook t (i + 1) hi (fun j h1 h2 => ?_), hput i hi, look_put, if_pos hd]
    have hd' : o.dst = some t := by simpa [dstOf, ho] using hd
    exact hst.dst i j o t hi h2 (by omega) ho hd'
  have hrunA : a < m → Runs P T N ops a (S m) H (one (r a) H1) := by
    intro hi
    obtain ⟨o, ho⟩ := ops_get a hi
    refine (ha hi).2.congr ho fun t ht => (hlook t a (by omega) fun j h1 h2 hd => ?_).symm
    have := (hst.look a o hi ho t ht j h2 hd).1
    omega
  have hrun : ∀ i, i < m → i ≠ a → ∀ H2, Ext H H2 → Runs P T N ops i (S m) H2 (one (r i) H2) := by
    intro i hi hia H2 hx
    obtain ⟨o, ho⟩ := ops_get i hi
    refine (hall i hi hia H2 hx).congr ho fun t ht => (hlook t i (by omega) fun j h1 h2 hd => ?_).symm
    have := (hst.look i o hi ho t ht j h2 hd).1
    omega
  have main : ∀ (c n : Nat) (listed : Array Bool) (s : Slots) (Hc : Hp), ((a < m ∧ listed.getD a false = true ∧ Hc = H1) ∨ (¬ (a < m ∧ listed.getD a false = true) ∧ Hc = H)) → listed.size = ops.size → Closed ops listed → (∀ k, m ≤ k → listed.getD k false = false) → ((List.range m).filter fun j => !(listed.getD j false)).length = c → n = ops.size - m + c → (∀ t, look s t = look (S m) t ∨ ∃ j, j < m ∧ listed.getD j false = false ∧ dstOf ops j = some t) → AnyP P T N ops K n listed s Hc := by
    intro c
    induction c with
    | zero =>
      intro n listed s Hc hHc hsz hcl hout hc hn hs
      have hl : ∀ j, j < m → listed.getD j false = true := by
        intro j hj
        have := List.length_eq_zero_iff.1 hc
        rw [List.filter_eq_nil_iff] at this
        have := this j (List.mem_range.2 hj)
        simpa using this
      have e1 : listed = maskA m ops.size := by
        apply Array.ext (by simp [maskA, hsz])
        intro j h1 h2
        have e3 : listed[j] = listed.getD j false := by simp [h1]
        rw [e3]
        simp only [maskA, List.getElem_toArray, List.getElem_map, List.getElem_range]
        by_cases hj : j < m
        · rw [hl j hj]; simp [Nat.blt_eq, hj]
        · rw [hout j (by omega)]
          symm
          cases h : Nat.blt j m
          · rfl
          · exact absurd (by simpa [Nat.blt_eq] using h) hj
      subst hn
      have eH : Hc = H1 := by
        rcases hHc with ⟨_, _, h⟩ | ⟨h1, h2⟩
        · exact h
        · rw [h2]
          refine (hna fun h3 => h1 ⟨h3, hl a h3⟩).symm
      rw [e1, Nat.add_zero, eH]
      refine hk.ext hK fun t => ?_
      rcases hs t with h | ⟨j, h1, h2, _⟩
      · exact h.symm
      · rw [hl j h1] at h2; cases h2
    | succ c ih =>
      intro n listed s Hc hHc hsz hcl hout hc hn hs
      obtain rfl : n = (ops.size - m + c) + 1 := by omega
      -- all that are ready are among the first
      have hrdy : ∀ i, i ∈ Region.ready .any ops listed → i < m := by
        intro i hi
        rcases Nat.lt_or_ge i m with h | h
        · exact h
        exfalso
        obtain ⟨_, oi, hoi, hall'⟩ := mem_ready.1 hi
        have : ∀ j, j < m → listed.getD j false = true := fun j hj => hcl.reach (hst.wait j i hj h (Array.getElem?_eq_some_iff.1 hoi).1) fun ok hok e he hb => by
          obtain rfl : ok = oi := Option.some.inj (hok.symm.trans hoi)
          exact hall' e he hb
        have e : (List.range m).filter (fun j => !(listed.getD j false)) = [] := List.filter_eq_nil_iff.2 fun j hj => by
          rw [this j (List.mem_range.1 hj)]; simp
        rw [e] at hc; cases hc
      have hex : ∃ i, i ∈ Region.ready .any ops listed := by
        have : ∃ i, i < m ∧ listed.getD i false = false := by
          cases hf : (List.range m).filter (fun j => !(listed.getD j false)) with
          | nil => rw [hf] at hc; cases hc
          | cons x xs =>
            have : x ∈ (List.range m).filter (fun j => !(listed.getD j false)) := by rw [hf]; simp
            rw [List.mem_filter] at this
            exact ⟨x, List.mem_range.1 this.1, by simpa using this.2⟩
        have least : ∀ b i, i ≤ b → i < m → listed.getD i false = false → ∃ i, i < m ∧ listed.getD i false = false ∧ ∀ j, j < i → listed.getD j false = true := by
          intro b
          induction b with
          | zero => intro i h1 h2 h3; exact ⟨i, h2, h3, fun j hj => by omega⟩
          | succ b ihb =>
            intro i h1 h2 h3
            by_cases hx : ∃ j, j < i ∧ listed.getD j false = false
            · obtain ⟨j, h4, h5⟩ := hx
              exact ihb j (by omega) (by omega) h5
            · exact ⟨i, h2, h3, fun j hj => by
                cases h : listed.getD j false with
                | true => rfl
                | false => exact absurd ⟨j, hj, h⟩ hx⟩
        obtain ⟨i0, h1, h2⟩ := this
        obtain ⟨i, h3, h4, h5⟩ := least i0 i0 (Nat.le_refl _) h1 h2
        obtain ⟨o, ho⟩ := ops_get i h3
        refine ⟨i, mem_ready.2 ⟨?_, o, ho, fun e he hb => h5 _ (hst.after i o h3 ho e he hb)⟩⟩
        have : i < listed.size := by rw [hsz]; exact Nat.lt_of_lt_of_le h3 hst.le
        simp [this] at h4 ⊢
        exact h4
      have hxt : Ext H Hc := by
        rcases hHc with ⟨h1, _, h2⟩ | ⟨_, h2⟩
        · rw [h2]; exact (ha h1).1
        · rw [h2]; exact Ext.refl _
      refine .all (fun i => one (r i) (if i = a then H1 else Hc)) (fun h => by obtain ⟨i, hi⟩ := hex; rw [h] at hi; cases hi) (fun i hi => ?_) (fun i hi r' H' hr => ?_)
      · have him := hrdy i hi
        obtain ⟨hun, o, ho, hafter⟩ := mem_ready.1 hi
        have hr0 : Runs P T N ops i (S m) Hc (one (r i) (if i = a then H1 else Hc)) := by
          by_cases hia : i = a
          · subst hia
            rw [if_pos rfl]
            rcases hHc with ⟨_, h1, _⟩ | ⟨_, h2⟩
            · exfalso
              have hil : i < listed.size := by rw [hsz]; exact Nat.lt_of_lt_of_le him hst.le
              simp [hil] at hun h1
              rw [hun] at h1; cases h1
            · rw [h2]; exact hrunA him
          · rw [if_neg hia]; exact hrun i him hia Hc hxt
        refine hr0.congr ho fun t ht => ?_
        rcases hs t with h | ⟨j, h1, h2, h3⟩
        · exact h.symm
        · obtain ⟨_, e, he, hb, hej⟩ := hst.look i o him ho t ht j h1 h3
          have := hafter e he hb
          rw [hej, h2] at this
          cases this
      · obtain ⟨rfl, rfl⟩ := hr
        have him := hrdy i hi
        obtain ⟨hun, o, ho, hafter⟩ := mem_ready.1 hi
        have hil : i < listed.size := by rw [hsz]; exact Nat.lt_of_lt_of_le him hst.le
        have hunf : listed.getD i false = false := by
          simp [hil] at hun ⊢
          exact hun
        have hHn : (a < m ∧ (listed.setIfInBounds i true).getD a false = true ∧ (if i = a then H1 else Hc) = H1) ∨ (¬ (a < m ∧ (listed.setIfInBounds i true).getD a false = true) ∧ (if i = a then H1 else Hc) = H) := by
          by_cases hia : i = a
          · subst hia
            exact .inl ⟨him, by simp [hil], if_pos rfl⟩
          · rw [getD_set_ne false hia, if_neg hia]
            exact hHc
        refine ih _ _ _ _ hHn (by simp [hsz]) (hcl.set hi) (fun k hk => ?_) ?_ rfl (fun t => ?_)
        · rw [getD_set_ne false (by omega)]; exact hout k hk
        · have := filt_one (p := fun j => !(listed.getD j false)) (q := fun j => !((listed.setIfInBounds i true).getD j false)) (i := i) (by simp only [hunf]; rfl) (fun j => ?_) (List.range m) List.nodup_range (List.mem_range.2 him)
          · omega
          · by_cases hji : j = i
            · subst hji
              simp [hil]
            · rw [getD_set_ne false (Ne.symm hji)]
              have : Nat.beq j i = false := by
                cases h : Nat.beq j i with
                | false => rfl
                | true => exact absurd (Nat.eq_of_beq_eq_true h) hji
              rw [this]; simp
        · rw [look_put]
          split
          · rename_i hd
            exact .inl (hdst i t him hd).symm
          · rename_i hd
            rcases hs t with h | ⟨j, h1, h2, h3⟩
            · exact .inl h
            · refine .inr ⟨j, h1, ?_, h3⟩
              rw [getD_set_ne false]
              · exact h2
              · intro e; subst e; exact hd h3
  refine main _ _ _ s0 H (.inr ⟨fun h => (by rw [getD_replicate_false'] at h; cases h.2), rfl⟩) (by simp) (fun k ok _ hl => by rw [getD_replicate_false'] at hl; cases hl) (fun k _ => getD_replicate_false' _ _) rfl ?_ (fun t => ?_)
  · have : (List.range m).filter (fun j => !((Array.replicate ops.size false).getD j false)) = List.range m := List.filter_eq_self.2 fun j _ => by rw [getD_replicate_false']; rfl
    rw [this, List.length_range]
    have := hst.le
    omega
  · by_cases hx : ∃ j, j < m ∧ dstOf ops j = some t
    · obtain ⟨j, h1, h2⟩ := hx
      exact .inr ⟨j, h1, getD_replicate_false' _ _, h2⟩
    · left
      rw [hlook t 0 (Nat.zero_le _) (fun j _ h2 hd => hx ⟨j, h2, hd⟩), e0]

variable {f : FuncId} {C : Ctx} {Q : Md} {k : List Item} {s : Slots}
/-- A region that draws its order: the first m operations in the order of the text, number a among them may make an object; then the rest by a tree. -/
theorem V.steady (m a : Nat) (t : Tr) (hT : TabOk P T) (hm : P.follows .mixedOrders = true) {id : Nat} (hs : steadyB ops m = true) (ht : treeB T ops t (ops.size - m) .none (maskA m ops.size) = true)
    (h : Det P T N ops (fun s H => AnyT P T N ops (fun s H => V P f N C Q k s H) t s H) a H m 0 s H) : V P f N C Q (.code (.region id ops true) :: k) s H := by
  refine V.draws hT hm (AnyP.steady (K := fun s H => V P f N C Q k s H) (a := a) (steady_of hs) (fun s s' H he hv => V.leq he hv) ?_)
  have : ∀ (c i : Nat) (s : Slots) (Hc : Hp), Det P T N ops (fun s H => AnyT P T N ops (fun s H => V P f N C Q k s H) t s H) a H c i s Hc → Det P T N ops (fun s H => AnyP P T N ops (fun s H => V P f N C Q k s H) (ops.size - m) (maskA m ops.size) s H) a H c i s Hc := by
    intro c
    induction c with
    | zero => intro i s Hc h; exact AnyP.of_T t (ops.size - m) .none _ s Hc ht h
    | succ c ih =>
      rintro i s Hc (⟨h0, r, H1, hx, h1, h2⟩ | ⟨h0, r, h1, h2⟩)
      · exact .inl ⟨h0, r, H1, hx, h1, ih _ _ _ h2⟩
      · exact .inr ⟨h0, r, h1, ih _ _ _ h2⟩
  exact this _ _ _ _ h
def dx (T : Tab) (O : Ops) (N : Nat) (VD : Nat → Nat → Slots → Hp → Prop) (ops : Array Oper) (K : Slots → Hp → Prop) (a : Nat) (H : Hp) : Nat → Nat → Slots → Hp → Prop
  | 0, _, s, Hc => K s Hc
  | c + 1, i, s, Hc => match ops[i]? with
    | none => False
    | some o => match awant ops s o.guard with
      | .yes => match dstOk N o.dst with
        | false => False
        | true => match Nat.beq i a with
          | true => match kind o.op with
            | .fresh => (aop T O s H o.op).satL (VD (c + 1) i s Hc) fun r H1 => dx T O N VD ops K a H c (i + 1) (putS s o.dst r) H1
            | _ => False
          | false => match kind o.op with
            | .pure => (aop T O s H o.op).satL (VD (c + 1) i s Hc) fun r _ => dx T O N VD ops K a H c (i + 1) (putS s o.dst r) Hc
            | .read => (aop T O s H o.op).satL (VD (c + 1) i s Hc) fun r _ => dx T O N VD ops K a H c (i + 1) (putS s o.dst r) Hc
            | _ => VD (c + 1) i s Hc
      | .no => match dstOk N o.dst with
        | false => False
        | true => match Nat.beq i a with
          | true => False
          | false => dx T O N VD ops K a H c (i + 1) (putS s o.dst (.tup [])) Hc
      | .open_ => VD (c + 1) i s Hc
theorem dx_sound {K0 : Slots → Hp → Prop} {a : Nat} {VD : Nat → Nat → Slots → Hp → Prop} (hV : ∀ c i s Hc, VD c i s Hc → Det P T N ops K0 a H c i s Hc) : ∀ (c i : Nat) (s : Slots) (Hc : Hp), dx T std N VD ops K0 a H c i s Hc → Det P T N ops K0 a H c i s Hc := by
  intro c
  induction c with
  | zero => intro i s Hc h; exact h
  | succ c ih =>
    intro i s Hc h
    simp only [dx] at h
    split at h
    · exact h.elim
    rename_i o ho
    have ei : dstOf ops i = o.dst := by simp [dstOf, ho]
    split at h
    · rename_i hw
      split at h
      · exact h.elim
      rename_i hd
      split at h
      · rename_i hia
        split at h
        case h_2 => exact h.elim
        rename_i hkd
        rcases Out.satL_cases h with h | h
        · exact hV _ _ _ _ h
        · obtain ⟨r, H', hk2, hr⟩ := Out.sat_one h
          have hru : Runs P T N ops i s H (one r H') := ⟨o, ho, hd, .inr ⟨hw, .inl ⟨r, H', hr, rfl⟩⟩⟩
          refine .inl ⟨Nat.eq_of_beq_eq_true hia, r, H', hru.ext ho (by rw [hkd]; intro h; cases h) ⟨rfl, rfl⟩, hru, ?_⟩
          rw [ei]
          exact ih _ _ _ hk2
      · rename_i hia
        have hne : i ≠ a := fun e => by subst e; simp at hia
        have run : (kind o.op = .pure ∨ kind o.op = .read) → ((aop T std s H o.op).satL (VD (c + 1) i s Hc) fun r _ => dx T std N VD ops K0 a H c (i + 1) (putS s o.dst r) Hc) → Det P T N ops K0 a H (c + 1) i s Hc := by
          intro hk h
          rcases Out.satL_cases h with h | h
          · exact hV _ _ _ _ h
          · obtain ⟨r, H', hk2, hr⟩ := Out.sat_one h
            have hru : Runs P T N ops i s H (one r H') := ⟨o, ho, hd, .inr ⟨hw, .inl ⟨r, H', hr, rfl⟩⟩⟩
            obtain ⟨r0, e, hall⟩ := hru.det ho hk (e := .none) (fun e0 h => by cases h)
            have : one r H' r H' := ⟨rfl, rfl⟩
            rw [e] at this
            obtain ⟨e1, e2⟩ := this
            subst e1 e2
            refine .inr ⟨hne, r, fun H2 hx => hall H2 (.inr hx), ?_⟩
            rw [ei]
            exact ih _ _ _ hk2
        split at h
        · exact run (.inl (by assumption)) h
        · exact run (.inr (by assumption)) h
        · exact hV _ _ _ _ h
    · rename_i hw
      split at h
      · exact h.elim
      rename_i hd
      split at h
      · exact h.elim
      rename_i hia
      have hne : i ≠ a := fun e => by subst e; simp at hia
      refine .inr ⟨hne, .tup [], fun H2 _ => ⟨o, ho, hd, .inl ⟨hw, rfl⟩⟩, ?_⟩
      rw [ei]
      exact ih _ _ _ h
    · exact hV _ _ _ _ h
theorem Det.go {K0 : Slots → Hp → Prop} {a : Nat} {O : Ops} (hO : O = std) {c i : Nat} {s : Slots} {Hc : Hp} (h : ∀ (KD : Slots → Hp → Prop) (VD : Nat → Nat → Slots → Hp → Prop), KD = K0 → VD = Det P T N ops K0 a H → dx T O N VD ops KD a H c i s Hc) : Det P T N ops K0 a H c i s Hc := by
  subst hO
  exact dx_sound (fun _ _ _ _ h => h) _ _ _ _ (h _ _ rfl rfl)
/-- A call among them, of a function that makes and changes nothing. -/
theorem Det.call {K0 : Slots → Hp → Prop} {a c i : Nat} {s : Slots} {Hc : Hp} {o : Oper} (hia : Nat.beq i a = false) (ho : ops[i]? = some o) (hw : awant ops s o.guard = .yes) (hd : dstOk N o.dst = true)
    {fo : Operand} {args : Array Operand} {ts : Array TypeId} (hop : o.op = .call ⟨.value fo, args, ts⟩) {g : FuncId} {first cap : List AV} (hf : aeval s fo = .fn (.func g) first cap)
    {fn : Func} (hg : P.funcs[g]? = some fn) (hb : fn.body.isNone = false) (hnm : (fn.name == "runtime.NumGoroutine") = false)
    {xs : List AV} (hxs : xs = (first ++ args.toList.map (aeval s) ++ cap).map (AV.ren (inv []))) (r0 : AV) (hr : ∀ g, r0.ren g = r0)
    (spec : FSpec P g xs [] (fun r H' => r = r0 ∧ H' = []))
    (cont : Det P T N ops K0 a H c (i + 1) (putS s o.dst r0) Hc) : Det P T N ops K0 a H (c + 1) i s Hc := by
  subst hxs
  have ei : dstOf ops i = o.dst := by simp [dstOf, ho]
  have hne : i ≠ a := fun e => by subst e; simp at hia
  refine .inr ⟨hne, r0, fun H2 _ => ⟨o, ho, hd, .inr ⟨hw, .inr ⟨fo, args, ts, g, first, cap, fn, [], _, hop, hf, hg, hb, hnm, List.nodup_nil, by simp, spec, ?_⟩⟩⟩, by rw [ei]; exact cont⟩
  rintro r Hc ⟨rfl, rfl⟩
  exact ⟨hr _, by simp [merge, setMany]⟩
end
end Vx
