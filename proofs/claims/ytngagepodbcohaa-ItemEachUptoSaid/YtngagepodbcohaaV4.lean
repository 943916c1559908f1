/- Contracts of functions by an evaluator of the model: its part V4. -/
import Derived.Test.YtngagepodbcohaaV3
import Derived.Deep.CondSized
import Derived.JoinedCond
set_option linter.all false
/- The frame of a law whose arguments are of bulk at most B: as VxFr, VxFs, VxFt. -/
namespace Vx.U
open Vx Go Go.ChangeShapes Go.WideShapes Go.RowKit
/-- How much data hold. -/
structure Bulk (H : Type) where
  blk : DataW H → Nat
  blkAll : List (DataW H) → Nat
  str : ∀ bytes, blk (.lit (.string bytes)) = bytes.length + 1
  slice : ∀ elems spare, blkAll elems + 1 ≤ blk (.slice elems spare)
  agg : ∀ parts, blkAll parts ≤ blk (.agg parts)
  part : ∀ d l, d ∈ l → blk d ≤ blkAll l
  len : ∀ l, l.length ≤ blkAll l

/-- The cells of a value of a type. -/
def Ty (P : Program) (B : Nat) : Nat → TypeId → List AV → Prop
  | 0, _, _ => False
  | n + 1, t, cs => match P.underlying t with
    | some .bool => ∃ b, cs = [.bool b]
    | some (.int k) => ∃ z, cs = [.int k z] ∧ (Lit.int k z).wf = true
    | some (.float k) => ∃ z, cs = [.flt k z] ∧ (Lit.float k z).wf = true
    | some .string => ∃ s : ByteArray, cs = [.str s] ∧ s.size ≤ reachBytes ∧ s.size ≤ B
    | some (.slice e) => ∃ (m : Nat) (f : Nat → List AV), cs = [.rows (P.cellsOf e) m f] ∧ m * P.bytesOf e ≤ reachBytes ∧ m ≤ B ∧ ∀ i, i < m → Ty P B n e (f i)
    | some (.struct fs) => cs.length = P.cellsOf t ∧ ∀ f ∈ fs.toList, Ty P B n f.type ((cs.drop f.offset).take (P.cellsOf f.type))
    | some (.array m e) => cs.length = P.cellsOf t ∧ ∀ i, i < m → Ty P B n e ((cs.drop (i * P.cellsOf e)).take (P.cellsOf e))
    | _ => False


/-- Cells that are read as data, and what they are told as. -/
def Rd1 (P : Program) (B : Nat) (w : World) (n : Nat) (t : TypeId) (cs : List Value) : Prop :=
  ∃ avs : List AV, avs.length = cs.length ∧ allLeaf avs = true ∧ (∀ j, j < cs.length → RelV rho0 (muOf w) (avs.getD j .top) (cs.getD j undef)) ∧ Ty P B n t avs

section
variable {H : Type} {enc : TypeId × Value → H} {P : Program} {B : Nat} {w : World} {base : Nat} {sp : Nat → Bool} {held : Bool}

theorem rd_fields {n : Nat} {cs : List Value} {M : Nat} (hM : cs.length = M) : ∀ (fs : List Field) (o : Nat), contig P fs o M = true → o ≤ M → (∀ f ∈ fs, Rd1 P B w n f.type ((cs.drop f.offset).take (P.cellsOf f.type))) →
    ∃ avs : List AV, avs.length = M - o ∧ allLeaf avs = true ∧ (∀ j, j < M - o → RelV rho0 (muOf w) (avs.getD j .top) (cs.getD (o + j) undef)) ∧ ∀ f ∈ fs, o ≤ f.offset ∧ Ty P B n f.type ((avs.drop (f.offset - o)).take (P.cellsOf f.type))
  | [], o, h, ho, _ => by
    simp only [contig, decide_eq_true_eq] at h
    exact ⟨[], by simp; omega, rfl, fun j hj => by omega, fun f hf => by simp at hf⟩
  | f :: r, o, h, ho, hr => by
    simp only [contig, Bool.and_eq_true, decide_eq_true_eq] at h
    obtain ⟨h1, h2⟩ := h
    have hle : o + P.cellsOf f.type ≤ M := by
      have : ∀ (fs : List Field) (o : Nat), contig P fs o M = true → o ≤ M := by
        intro fs
        induction fs with
        | nil => intro o h; simp only [contig, decide_eq_true_eq] at h; omega
        | cons g gs ih =>
          intro o h
          simp only [contig, Bool.and_eq_true, decide_eq_true_eq] at h
          have := ih _ h.2
          omega
      exact this _ _ h2
    obtain ⟨a1, l1, f1, r1, t1⟩ := hr f (by simp)
    rw [h1] at l1 r1
    have hl1 : ((cs.drop o).take (P.cellsOf f.type)).length = P.cellsOf f.type := by simp; omega
    rw [hl1] at l1 r1
    obtain ⟨a2, l2, f2, r2, t2⟩ := rd_fields hM r _ h2 hle (fun g hg => hr g (by simp [hg]))
    refine ⟨a1 ++ a2, by simp [l1, l2]; omega, leaf_app f1 f2, fun j hj => ?_, fun g hg => ?_⟩
    · rw [List.getD_eq_getElem?_getD]
      by_cases hjl : j < P.cellsOf f.type
      · rw [List.getElem?_append_left (by omega)]
        have := r1 j hjl
        rw [List.getD_eq_getElem?_getD, List.getD_eq_getElem?_getD, List.getElem?_take, if_pos hjl, List.getElem?_drop] at this
        rw [List.getD_eq_getElem?_getD]
        exact this
      · rw [List.getElem?_append_right (by omega), l1]
        have := r2 (j - P.cellsOf f.type) (by omega)
        rw [List.getD_eq_getElem?_getD] at this
        rw [show o + j = o + P.cellsOf f.type + (j - P.cellsOf f.type) by omega]
        exact this
    · simp only [List.mem_cons] at hg
      rcases hg with rfl | hg
      · refine ⟨by omega, ?_⟩
        rw [h1, Nat.sub_self, List.drop_zero, List.take_append_of_le_length (by omega), List.take_of_length_le (by omega)]
        exact t1
      · obtain ⟨q1, q2⟩ := t2 g hg
        refine ⟨by omega, ?_⟩
        rw [show g.offset - o = P.cellsOf f.type + (g.offset - (o + P.cellsOf f.type)) by omega, ← List.drop_drop, List.drop_append_of_le_length (by omega), List.drop_of_length_le (by omega : a1.length ≤ P.cellsOf f.type), List.nil_append]
        exact q2

theorem rd_array {n e : Nat} {cs : List Value} : ∀ (m k : Nat), (∀ i, i < m → Rd1 P B w n e ((cs.drop ((k + i) * P.cellsOf e)).take (P.cellsOf e))) → (k + m) * P.cellsOf e ≤ cs.length →
    ∃ avs : List AV, avs.length = m * P.cellsOf e ∧ allLeaf avs = true ∧ (∀ j, j < m * P.cellsOf e → RelV rho0 (muOf w) (avs.getD j .top) (cs.getD (k * P.cellsOf e + j) undef)) ∧ ∀ i, i < m → Ty P B n e ((avs.drop (i * P.cellsOf e)).take (P.cellsOf e))
  | 0, k, _, _ => ⟨[], by simp, rfl, fun j hj => by simp at hj, fun i hi => by omega⟩
  | m + 1, k, hr, hl => by
    obtain ⟨a1, l1, f1, r1, t1⟩ := hr 0 (by omega)
    rw [Nat.add_zero] at l1 r1
    have hk : k * P.cellsOf e + P.cellsOf e ≤ cs.length := by
      have : (k + (m + 1)) * P.cellsOf e = k * P.cellsOf e + P.cellsOf e + m * P.cellsOf e := by rw [Nat.add_mul, Nat.add_mul]; omega
      omega
    have hl1 : ((cs.drop (k * P.cellsOf e)).take (P.cellsOf e)).length = P.cellsOf e := by simp; omega
    rw [hl1] at l1 r1
    obtain ⟨a2, l2, f2, r2, t2⟩ := rd_array m (k + 1) (fun i hi => by rw [show k + 1 + i = k + (i + 1) by omega]; exact hr (i + 1) (by omega)) (by rw [show k + 1 + m = k + (m + 1) by omega]; exact hl)
    have em : (m + 1) * P.cellsOf e = P.cellsOf e + m * P.cellsOf e := by rw [Nat.add_mul, Nat.one_mul, Nat.add_comm]
    refine ⟨a1 ++ a2, by rw [List.length_append, l1, l2, em], leaf_app f1 f2, fun j hj => ?_, fun i hi => ?_⟩
    · rw [List.getD_eq_getElem?_getD]
      by_cases hjl : j < P.cellsOf e
      · rw [List.getElem?_append_left (by omega)]
        have := r1 j hjl
        rw [List.getD_eq_getElem?_getD, List.getD_eq_getElem?_getD, List.getElem?_take, if_pos hjl, List.getElem?_drop] at this
        rw [List.getD_eq_getElem?_getD]
        exact this
      · rw [List.getElem?_append_right (by omega), l1]
        have := r2 (j - P.cellsOf e) (by omega)
        rw [List.getD_eq_getElem?_getD, show (k + 1) * P.cellsOf e + (j - P.cellsOf e) = k * P.cellsOf e + j by rw [Nat.add_mul, Nat.one_mul]; omega] at this
        exact this
    · cases i with
      | zero =>
        rw [Nat.zero_mul, List.drop_zero, List.take_append_of_le_length (by omega), List.take_of_length_le (by omega)]
        exact t1
      | succ i =>
        rw [show (i + 1) * P.cellsOf e = P.cellsOf e + i * P.cellsOf e by rw [Nat.add_mul, Nat.one_mul, Nat.add_comm], ← List.drop_drop, List.drop_append_of_le_length (by omega), List.drop_of_length_le (by omega : a1.length ≤ P.cellsOf e), List.nil_append]
        exact t2 i (by omega)


theorem trod_rd (K : Bulk H) : ∀ (n fuel : Nat) (t : TypeId) (cs : List Value) (d : DataW H) (ps : List MemPlace), DataW.trod enc P w base sp held fuel t cs = some (d, ps) → sup P n t = true → (d.weights P t).all (· ≤ reachBytes) = true → K.blk d ≤ B → Rd1 P B w n t cs
  | 0, _, _, _, _, _, _, hs, _, _ => by simp [sup] at hs
  | n + 1, fuel, t, cs, d, ps, h, hs, hw, hbk => by
    unfold sup at hs
    split at hs
    · rename_i hu
      obtain ⟨b, rfl, _⟩ := DataW.trod_bool hu h
      exact ⟨[.bool b], rfl, rfl, fun j hj => by obtain rfl : j = 0 := by simpa using hj
                                                 exact .bool .., by unfold Ty; rw [hu]; exact ⟨b, rfl⟩⟩
    · rename_i k hu
      obtain ⟨z, rfl, _, hwf⟩ := DataW.trod_int hu h
      exact ⟨[.int k z], rfl, rfl, fun j hj => by obtain rfl : j = 0 := by simpa using hj
                                                  exact .int .., by unfold Ty; rw [hu]; exact ⟨z, rfl, hwf⟩⟩
    · rename_i k hu
      obtain ⟨z, rfl, hwf⟩ : ∃ z, cs = [.float k z] ∧ (Lit.float k z).wf = true := by
        exact trod_float hu h
      exact ⟨[.flt k z], rfl, rfl, fun j hj => by obtain rfl : j = 0 := by simpa using hj
                                                  exact .flt .., by unfold Ty; rw [hu]; exact ⟨z, rfl, hwf⟩⟩
    · rename_i hu
      obtain ⟨s, rfl, hx, hm⟩ := DataW.trod_string hu h
      injection hx with hx _
      subst hx
      have hsz : s.size ≤ reachBytes := by
        have : s.data.toList.length ≤ reachBytes := by simpa only [DataW.weights, List.all_cons, List.all_nil, Bool.and_true, decide_eq_true_eq] using hw
        rwa [Array.length_toList] at this
      have hsb : s.size ≤ B := by
        rw [K.str, Array.length_toList] at hbk
        have : s.data.size = s.size := rfl
        omega
      exact ⟨[.str s], rfl, rfl, fun j hj => by obtain rfl : j = 0 := by simpa using hj
                                                exact .str .., by unfold Ty; rw [hu]; exact ⟨s, rfl, hsz, hsb⟩⟩
    · rename_i e hu
      simp only [Bool.and_eq_true, decide_eq_true_eq] at hs
      obtain ⟨hp, hs⟩ := hs
      rcases DataW.trod_slice hu h with ⟨rfl, _⟩ | ⟨a, len, cap, elems, rest, q, rfl, rfl, hx, hb, hl, hm, hlen, hel, _, _⟩
      · refine ⟨[.rows (P.cellsOf e) 0 fun _ => []], rfl, rfl, fun j hj => ?_, by unfold Ty; rw [hu]; exact ⟨0, _, rfl, by simp, Nat.zero_le _, fun i hi => by omega⟩⟩
        obtain rfl : j = 0 := by simpa using hj
        exact .rows _ _ _ _ _ _ _ 0 0 (fun _ _ => undef) (fun i hi => by omega) hp (fun i j hi => by omega) (fun i j hi => by omega) (Nat.le_refl _) (by simp)
      · injection hx with hx _
        subst hx
        simp only [DataW.weights, hu, List.all_cons, List.all_append, Bool.and_eq_true, decide_eq_true_eq, List.length_map] at hw
        obtain ⟨hw1, hw2, _⟩ := hw
        have hsl := K.slice (elems.map (·.1)) (rest.map (·.1))
        have hln := K.len (elems.map (·.1))
        rw [List.length_map] at hln
        have each : ∀ i, i < len → ∃ cs', w.cells? base (a.add (i * P.cellsOf e)) (P.cellsOf e) = some cs' ∧ Rd1 P B w n e cs' := by
          intro i hi
          have := hel i hi
          rw [List.getElem?_eq_getElem (by omega)] at this
          obtain ⟨cs', h1, h2⟩ := Option.bind_eq_some_iff.1 this
          refine ⟨cs', h1, trod_rd K n q e cs' _ _ (show _ = some (elems[i].1, elems[i].2) from h2) hs ?_ ?_⟩
          · exact weights_all (i := i) hw2 (by simp [show i < elems.length by omega])
          · have := K.part elems[i].1 (elems.map (·.1)) (List.mem_map.2 ⟨_, List.getElem_mem _, rfl⟩)
            omega
        have hc : ∀ i, ∃ (cs' : List Value) (avs : List AV), i < len → w.cells? base (a.add (i * P.cellsOf e)) (P.cellsOf e) = some cs' ∧ avs.length = cs'.length ∧ allLeaf avs = true ∧ (∀ j, j < cs'.length → RelV rho0 (muOf w) (avs.getD j .top) (cs'.getD j undef)) ∧ Ty P B n e avs := by
          intro i
          by_cases hi : i < len
          · obtain ⟨cs', h1, avs, h2⟩ := each i hi
            exact ⟨cs', avs, fun _ => ⟨h1, h2⟩⟩
          · exact ⟨[], [], fun h => absurd h hi⟩
        obtain ⟨cc, hc⟩ := Classical.axiomOfChoice hc
        obtain ⟨f, hc⟩ := Classical.axiomOfChoice hc
        refine ⟨[.rows (P.cellsOf e) len f], rfl, rfl, fun j hj => ?_, ?_⟩
        rotate_left
        · unfold Ty
          rw [hu]
          refine ⟨len, f, rfl, ?_, by omega, fun i hi => (hc i hi).2.2.2.2⟩
          have : len * P.bytesOf e ≤ (elems.length + rest.length) * P.bytesOf e := Nat.mul_le_mul_right _ (by omega)
          omega
        · obtain rfl : j = 0 := by simpa using hj
          show RelV rho0 (muOf w) (.rows (P.cellsOf e) len f) (.slice (some a) len cap)
          refine .rows _ _ _ _ _ _ _ a.block a.off (fun i j => (cc i).getD j undef) (fun i hi => ?_) hp (fun i j hi hj => ?_) (fun i j hi hj => ?_) hl hm
          · obtain ⟨h1, h2, _⟩ := hc i hi
            rw [h2, (rd_cells h1).1]
          · obtain ⟨h1, h2, _, h4, _⟩ := hc i hi
            exact h4 j (by rw [(rd_cells h1).1]; exact hj)
          · obtain ⟨h1, h2, h3, h4, _⟩ := hc i hi
            obtain ⟨g1, g2⟩ := rd_cells h1
            have hcell := g2 j hj
            have hs0 : a.spot = none := by
              obtain ⟨k1, _⟩ := hc 0 (by omega)
              have := (rd_cells k1).2 0 hp
              rw [Nat.zero_mul] at this
              have e0 : (a.add 0).add 0 = a := by simp [Addr.add]
              rw [e0] at this
              exact addr_plain this
            obtain ⟨b, o, sp⟩ := a
            simp only at hs0
            subst hs0
            refine ⟨rfl, muOf_some ?_ ?_⟩
            · rw [add_at, add_at] at hcell
              exact hcell
            · have hj' : j < (cc i).length := by omega
              exact (h4 j hj').leaf (allLeaf_get h3 (by omega))
    · rename_i fs hu
      simp only [Bool.and_eq_true] at hs
      obtain ⟨hk, hs⟩ := hs
      cases fuel with
      | zero => simp [DataW.trod] at h
      | succ fuel =>
        rw [DataW.trod_step] at h
        unfold DataW.trodStep at h
        simp only [hu] at h
        split at h
        · rename_i hlen
          simp only [Option.map_eq_some_iff] at h
          obtain ⟨xs, hx, he⟩ := h
          injection he with he _
          subst he
          obtain ⟨x1, x2⟩ := list_mapM hx
          simp only [DataW.weights, hu] at hw
          obtain ⟨avs, l1, f1, r1, t1⟩ := rd_fields (n := n) hlen fs.toList 0 hk (Nat.zero_le _) (fun f hf => by
            obtain ⟨i, hi, rfl⟩ := List.getElem_of_mem hf
            have hg := x2 i _ (List.getElem?_eq_getElem hi)
            rw [List.getElem?_eq_getElem (by omega)] at hg
            refine trod_rd K n fuel _ _ _ _ (show _ = some (xs[i].1, xs[i].2) from hg) (List.all_eq_true.1 hs _ (List.getElem_mem hi)) ?_ ?_
            rotate_left
            · have h1 := K.agg (xs.map (·.1))
              have h2 := K.part xs[i].1 (xs.map (·.1)) (List.mem_map.2 ⟨_, List.getElem_mem _, rfl⟩)
              omega
            exact weights_each (i := i) hw (by rw [List.getElem?_map, List.getElem?_eq_getElem hi]; rfl) (by simp [show i < xs.length by omega]))
          rw [Nat.sub_zero] at l1 r1
          refine ⟨avs, by rw [l1, hlen], f1, fun j hj => by simpa using r1 j (by omega), ?_⟩
          unfold Ty
          rw [hu]
          exact ⟨l1, fun f hf => by simpa using (t1 f hf).2⟩
        · cases h
    · rename_i m e hu
      simp only [Bool.and_eq_true, decide_eq_true_eq] at hs
      obtain ⟨hk, hs⟩ := hs
      cases fuel with
      | zero => simp [DataW.trod] at h
      | succ fuel =>
        rw [DataW.trod_step] at h
        unfold DataW.trodStep at h
        simp only [hu] at h
        split at h
        · rename_i hlen
          simp only [Option.map_eq_some_iff] at h
          obtain ⟨xs, hx, he⟩ := h
          injection he with he _
          subst he
          obtain ⟨x1, x2⟩ := range_mapM hx
          simp only [DataW.weights, hu] at hw
          obtain ⟨avs, l1, f1, r1, t1⟩ := rd_array (n := n) (e := e) (cs := cs) m 0 (fun i hi => by
            have hg := x2 i hi
            rw [List.getElem?_eq_getElem (by omega)] at hg
            rw [Nat.zero_add]
            refine trod_rd K n fuel _ _ _ _ (show _ = some (xs[i].1, xs[i].2) from hg) hs ?_ ?_
            rotate_left
            · have h1 := K.agg (xs.map (·.1))
              have h2 := K.part xs[i].1 (xs.map (·.1)) (List.mem_map.2 ⟨_, List.getElem_mem _, rfl⟩)
              omega
            exact weights_all (i := i) hw (by simp [show i < xs.length by omega])) (by rw [Nat.zero_add]; omega)
          rw [hk] at l1 r1
          refine ⟨avs, by rw [l1, hlen], f1, fun j hj => by simpa using r1 j (by omega), ?_⟩
          unfold Ty
          rw [hu]
          exact ⟨l1, t1⟩
        · cases h
    · cases hs
end

def TyV (P : Program) (B : Nat) (n : Nat) (t : TypeId) (av : AV) : Prop :=
  match P.underlying t with
  | some (.struct _) | some (.array _ _) => ∃ cs, av = .agg cs ∧ Ty P B n t cs
  | _ => Ty P B n t [av]
def TyArgs (P : Program) (B : Nat) (n : Nat) : List TypeId → List AV → Prop
  | [], [] => True
  | t :: ts, a :: as => TyV P B n t a ∧ TyArgs P B n ts as
  | _, _ => False

section
variable {H : Type} {enc : TypeId × Value → H} {P : Program} {B : Nat} {w : World} {base b0 : Nat} {sp : Nat → Bool} {held : Bool}

theorem v_rd (K : Bulk H) {n : Nat} {t : TypeId} {v : Value} {d : DataW H} {ps : List MemPlace} (hval : Value.okWide P w .any b0 t v) (ht : DataW.Trod enc P w base sp held t v d ps) (hs : sup P n t = true) (hw : (d.weights P t).all (· ≤ reachBytes) = true) (hbk : K.blk d ≤ B) :
    ∃ av, RelV rho0 (muOf w) av v ∧ TyV P B n t av := by
  obtain ⟨fuel, hf⟩ := ht
  obtain ⟨avs, h1, h2, h3, h4⟩ := trod_rd K n fuel t _ d ps hf hs hw hbk
  have hagg : ∀ cs : Array Value, v = .agg cs → RelV rho0 (muOf w) (.agg avs) v := by
    rintro cs rfl
    refine .agg _ _ _ _ (by simpa [Value.cells] using h1.symm) fun j hj => ?_
    have := h3 j (by simp [Value.cells] at h1 ⊢; omega)
    simpa [Value.cells] using this
  have hleaf : v.cells = #[v] → ∃ av, RelV rho0 (muOf w) av v ∧ avs = [av] := by
    intro e
    rw [e] at h1 h3
    match avs, h1 with
    | [av], _ => exact ⟨av, by simpa using h3 0 (by simp), rfl⟩
  cases n with
  | zero => simp [sup] at hs
  | succ n =>
  unfold TyV
  unfold Value.okWide at hval
  split at hval
  · rename_i fs hu
    obtain ⟨cs, hv, _⟩ := hval
    rw [hu]
    exact ⟨_, hagg cs hv, avs, rfl, h4⟩
  · rename_i m e hu
    obtain ⟨cs, hv, _⟩ := hval
    rw [hu]
    exact ⟨_, hagg cs hv, avs, rfl, h4⟩
  · rename_i q1 q2
    have hc : v.cells = #[v] := by
      cases v with
      | agg cs =>
        exfalso
        unfold sup at hs
        split at hs
        · rename_i hu; simp [Cell.okWide, hu, Cell.ok] at hval
        · rename_i hu; simp [Cell.okWide, hu, Cell.ok] at hval
        · rename_i hu; simp [Cell.okWide, hu, Cell.ok] at hval
        · rename_i hu; simp [Cell.okWide, hu, Cell.ok] at hval
        · rename_i hu; simp [Cell.okWide, hu, Cell.ok] at hval
        · rename_i hu; exact q1 _ hu
        · rename_i hu; exact q2 _ _ hu
        · cases hs
      | _ => rfl
    obtain ⟨av, r, rfl⟩ := hleaf hc
    refine ⟨av, r, ?_⟩
    split
    · rename_i hu; exact absurd hu (q1 _)
    · rename_i hu; exact absurd hu (q2 _ _)
    · exact h4

theorem args_rd (K : Bulk H) {n : Nat} : ∀ (ts : List TypeId) (vs : List Value) (ds : List (DataW H)) (ps : List MemPlace), DataW.TrodAll enc P w base sp held ts vs ds ps → (∀ (j : Nat) t v, ts[j]? = some t → vs[j]? = some v → Value.okWide P w .any b0 t v) →
    ts.all (sup P n) = true → (DataW.weightsEach P ts ds).all (· ≤ reachBytes) = true → (∀ d ∈ ds, K.blk d ≤ B) →
    ∃ avs : List AV, avs.length = vs.length ∧ ds.length = ts.length ∧ (∀ j, j < vs.length → RelV rho0 (muOf w) (avs.getD j .top) (vs.getD j undef)) ∧ TyArgs P B n ts avs
  | [], vs, ds, ps, h, _, _, _, _ => by
    cases vs <;> cases ds <;> simp [DataW.TrodAll] at h
    exact ⟨[], rfl, rfl, fun j hj => by simp at hj, trivial⟩
  | t :: ts, vs, ds, ps, h, hv, hs, hw, hbk => by
    obtain ⟨v, vs', d, ds', p, q, rfl, rfl, rfl, h1, h2⟩ := trodAll_cons h
    simp only [List.all_cons, Bool.and_eq_true] at hs
    simp only [DataW.weightsEach, List.all_append, Bool.and_eq_true] at hw
    obtain ⟨av, r, ty⟩ := v_rd K (hv 0 t v rfl rfl) h1 hs.1 hw.1 (hbk _ (by simp))
    obtain ⟨avs, l1, l2, l3, l4⟩ := args_rd K ts vs' ds' q h2 (fun j t v h1 h2 => hv (j + 1) t v (by simpa using h1) (by simpa using h2)) hs.2 hw.2 (fun d hd => hbk d (by simp [hd]))
    refine ⟨av :: avs, by simp [l1], by simp [l2], fun j hj => ?_, ty, l4⟩
    cases j with
    | zero => simpa using r
    | succ j => simpa using l3 j (by simpa using hj)

end

/-- A law that returns true whatever its arguments, from its contract. -/
theorem law_lift {H : Type} (K : Bulk H) {B : Nat} {k : (H : Type) → List (DataW H) → Bool} {s0 : OpenSpec} {F : Stop.Interp} (hk : s0.cond = some k) (hB : ∀ ds : List (DataW H), k H ds = true → K.blkAll ds ≤ B) {enc : TypeId × Value → H} {C : Checked} {os : Os} {f : FuncId} {fn : Func} {s : ChangeSpec} {conds : List PathCond} (n : Nat) {tb : TypeId}
    (own : ownKnob C.prog.godebug = none) (started : os.Started) (noInit : C.prog.inits.idxOf? f = none) (hfn : C.prog.funcs[f]? = some fn) (laid : laidOutB C.prog = true)
    (witness : ∃ (w : World) (tape : Tape) (i : Input), w.os = os ∧ (w.forCall tape i).Shaped C.prog ∧ i.vars = [] ∧ Input.okWide C.prog (w.forCall tape i) .any w.heap.size f i ∧
      s0.pre6 enc C.prog fn conds false (w.forCall tape i).memory i.args ∧ ({} : Assume).holds C.prog (lone (Frame.enter C.prog f i.args .normal) [] (w.forCall tape i)))
    (hvars : s0.vars = []) (hs0 : s0.at F = s) (hres : fn.resultTypes = #[tb]) (htb : C.prog.underlying tb = some .bool) (hsup : fn.params.toList.all (sup C.prog n) = true)
    (hread : (fn.params.toList.all fun t => C.prog.readableRec t && decide (t < C.prog.types.size)) = true)
    (hsfn : ∀ ds : List (DataW H), ds.length = fn.params.toList.length → s.fn H (ds ++ []) = { results := [.lit (.bool true)], args := ds })
    (spec : ∀ avs, TyArgs C.prog B n fn.params.toList avs → FSpec C.prog f avs [] (fun r H' => r = .bool true ∧ H' = [])) :
    ReturnsInHanded {} C os f .any (s0.pre6 enc C.prog fn conds false) ((s0.at F).post enc C.prog fn false true false false) := by
  refine returnsInHanded_of_cond_sized hk own started noInit hfn witness ?_
  intro W base args ds gs before hval hW _ hkk hsz _
  rw [hs0]
  have hW' := hW
  obtain ⟨p, q, hA, hV, rfl, hfz, hnd⟩ := hW
  rw [hvars] at hV
  obtain ⟨rfl, rfl⟩ := trodVars_none hV
  obtain ⟨k1, k2⟩ := trodAll_len _ _ _ _ hA
  obtain ⟨avs, l1, l2, l3, l4⟩ := args_rd K (n := n) (B := B) (b0 := base) fn.params.toList args.toList ds p hA (fun j t v h1 h2 => hval j t v (by simpa using h1) (by simpa using h2)) hsup (weightsEach_nil hsz k2) (fun d hd => by
    have h1 := hB _ hkk
    rw [List.append_nil] at h1
    have := K.part d ds hd
    omega)
  refine ((spec avs l4).law W args (by rw [l1]; simp) (fun j hj => ?_)).mono fun e W' ⟨he, bel⟩ => ?_
  · have := l3 j (by rw [← l1]; exact hj)
    simpa using this
  · subst he
    have hvs : s.vars = s0.vars := by rw [← hs0]; rfl
    refine ⟨_, rfl, ds, [], _, [], p, [], by rw [hvs]; exact hW', ?_, ?_, ?_, bel.frame _, fun h => by cases h⟩
    · rw [hsfn ds l2, hres]
      exact trodAll_mk1 (shut_bool htb _)
    · rw [hsfn ds l2]
      exact trodAll_below laid bel _ _ _ _ hA hread
    · rw [hvs, hvars, hsfn ds l2]; rfl

section
variable {P : Program} {B n t e : Nat}
theorem Ty.int_inv {k : IntKind} (hu : P.underlying t = some (.int k)) {cs : List AV} (h : Ty P B n t cs) : ∃ z, cs = [.int k z] ∧ (Lit.int k z).wf = true := by
  cases n with
  | zero => exact h.elim
  | succ n => unfold Ty at h; rw [hu] at h; exact h
theorem Ty.bool_inv (hu : P.underlying t = some .bool) {cs : List AV} (h : Ty P B n t cs) : ∃ b, cs = [.bool b] := by
  cases n with
  | zero => exact h.elim
  | succ n => unfold Ty at h; rw [hu] at h; exact h
theorem Ty.flt_inv {k : FloatKind} (hu : P.underlying t = some (.float k)) {cs : List AV} (h : Ty P B n t cs) : ∃ z, cs = [.flt k z] ∧ (Lit.float k z).wf = true := by
  cases n with
  | zero => exact h.elim
  | succ n => unfold Ty at h; rw [hu] at h; exact h
theorem Ty.str_inv (hu : P.underlying t = some .string) {cs : List AV} (h : Ty P B n t cs) : ∃ s : ByteArray, cs = [.str s] ∧ s.size ≤ reachBytes ∧ s.size ≤ B := by
  cases n with
  | zero => exact h.elim
  | succ n => unfold Ty at h; rw [hu] at h; exact h
theorem Ty.slice_inv (hu : P.underlying t = some (.slice e)) {cs : List AV} (h : Ty P B n t cs) : ∃ (m : Nat) (f : Nat → List AV), cs = [.rows (P.cellsOf e) m f] ∧ m * P.bytesOf e ≤ reachBytes ∧ m ≤ B ∧ ∀ i, i < m → Ty P B (n - 1) e (f i) := by
  cases n with
  | zero => exact h.elim
  | succ n => unfold Ty at h; rw [hu] at h; exact h
theorem Ty.array_inv {m : Nat} (hu : P.underlying t = some (.array m e)) {cs : List AV} (h : Ty P B n t cs) : cs.length = P.cellsOf t ∧ ∀ i, i < m → Ty P B (n - 1) e ((cs.drop (i * P.cellsOf e)).take (P.cellsOf e)) := by
  cases n with
  | zero => exact h.elim
  | succ n => unfold Ty at h; rw [hu] at h; exact h
theorem Ty.struct_inv {fs : Array Field} (hu : P.underlying t = some (.struct fs)) {cs : List AV} (h : Ty P B n t cs) : cs.length = P.cellsOf t ∧ ∀ f ∈ fs.toList, Ty P B (n - 1) f.type ((cs.drop f.offset).take (P.cellsOf f.type)) := by
  cases n with
  | zero => exact h.elim
  | succ n => unfold Ty at h; rw [hu] at h; exact h

/-- A slice of integers. -/
theorem Ty.ints {k : IntKind} (hu : P.underlying t = some (.slice e)) (he : P.underlying e = some (.int k)) (hc : P.cellsOf e = 1) {cs : List AV} (h : Ty P B n t cs) :
    ∃ (m : Nat) (l : Nat → Int), Subs cs [.rows 1 m (icol k l)] ∧ m * P.bytesOf e ≤ reachBytes ∧ m ≤ B ∧ ∀ i, i < m → (Lit.int k (l i)).wf = true := by
  obtain ⟨m, f, rfl, hm, hmB, hf⟩ := h.slice_inv hu
  rw [hc]
  refine ⟨m, fun i => match f i with | [.int _ z] => z | _ => 0, ⟨Sub.rows fun i hi => ?_, trivial⟩, hm, hmB, fun i hi => ?_⟩
  · obtain ⟨z, hz, _⟩ := (hf i hi).int_inv he
    simp only [icol, hz]
    exact Subs.refl _
  · obtain ⟨z, hz, hw⟩ := (hf i hi).int_inv he
    simpa only [hz] using hw
theorem TyV.int {k : IntKind} (hu : P.underlying t = some (.int k)) {av : AV} (h : TyV P B n t av) : ∃ z, av = .int k z ∧ (Lit.int k z).wf = true := by
  unfold TyV at h
  rw [hu] at h
  obtain ⟨z, hz, hw⟩ := Ty.int_inv hu h
  injection hz with hz
  exact ⟨z, hz, hw⟩
theorem TyV.ints {k : IntKind} (hu : P.underlying t = some (.slice e)) (he : P.underlying e = some (.int k)) (hc : P.cellsOf e = 1) {av : AV} (h : TyV P B n t av) :
    ∃ (m : Nat) (l : Nat → Int), Sub av (.rows 1 m (icol k l)) ∧ m * P.bytesOf e ≤ reachBytes ∧ m ≤ B ∧ ∀ i, i < m → (Lit.int k (l i)).wf = true := by
  unfold TyV at h
  rw [hu] at h
  obtain ⟨m, l, h1, h2, h4, h3⟩ := Ty.ints hu he hc h
  exact ⟨m, l, h1.1, h2, h4, h3⟩
theorem TyV.array {m : Nat} (hu : P.underlying t = some (.array m e)) {av : AV} (h : TyV P B n t av) : ∃ cs, av = .agg cs ∧ cs.length = P.cellsOf t ∧ ∀ i, i < m → Ty P B (n - 1) e ((cs.drop (i * P.cellsOf e)).take (P.cellsOf e)) := by
  unfold TyV at h
  rw [hu] at h
  obtain ⟨cs, h1, h2⟩ := h
  exact ⟨cs, h1, Ty.array_inv hu h2⟩
theorem TyV.struct {fs : Array Field} (hu : P.underlying t = some (.struct fs)) {av : AV} (h : TyV P B n t av) : ∃ cs, av = .agg cs ∧ cs.length = P.cellsOf t ∧ ∀ f ∈ fs.toList, Ty P B (n - 1) f.type ((cs.drop f.offset).take (P.cellsOf f.type)) := by
  unfold TyV at h
  rw [hu] at h
  obtain ⟨cs, h1, h2⟩ := h
  exact ⟨cs, h1, Ty.struct_inv hu h2⟩
theorem TyArgs.cons {ts : List TypeId} {avs : List AV} (h : TyArgs P B n (t :: ts) avs) : ∃ a as, avs = a :: as ∧ TyV P B n t a ∧ TyArgs P B n ts as := by
  cases avs with
  | nil => exact h.elim
  | cons a as => exact ⟨a, as, rfl, h.1, h.2⟩
theorem TyArgs.nil {avs : List AV} (h : TyArgs P B n [] avs) : avs = [] := by
  cases avs with
  | nil => rfl
  | cons a as => exact h.elim
end
end Vx.U

