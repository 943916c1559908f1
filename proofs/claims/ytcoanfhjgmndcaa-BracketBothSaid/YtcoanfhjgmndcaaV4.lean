/- Contracts of functions by an evaluator of the model: its part V4. -/
import Derived.Test.YtcoanfhjgmndcaaV3
import Derived.Shelf.SlSortCmp.WholeK
set_option linter.all false
namespace Vx
open Go Go.Proofs Go.Shelf Go.Sort

/-! ## Rows of pairs, sorted by the library -/
def icol2 (a b : Nat → Int) : Nat → List AV := fun i => [.int .i64 (a i), .int .i64 (b i)]
def enc2 (x : Int × Int) : List Value := [.int .i64 x.1, .int .i64 x.2]

section
variable {C : Ctx} {ρ : Rho} {μ : Mu} {H : Hp} {w : World}
theorem St.growA (h : St C ρ μ H w) (os : Array Obj) : St C ρ μ H (Go.Sort.grow w os) := by
  have hlt : ∀ {o : Nat} {L : Loc}, Live H o → ρ o = some L → L.b < w.heap.size := fun hl hL => h.rep.blk hl hL
  have old : ∀ b, b < w.heap.size → (Go.Sort.grow w os).heap[b]? = w.heap[b]? := fun b hb => by
    show (w.heap ++ os)[b]? = _
    rw [Array.getElem?_append_left hb]
  have cl : ∀ {b x v}, w.cell? ⟨b, x, none⟩ = some v → (Go.Sort.grow w os).cell? ⟨b, x, none⟩ = some v := fun {b x v} hv => by
    rw [← hv]
    exact World.cell?_of_block (a := ⟨b, x, none⟩) (old _ (cell_lt hv))
  refine ⟨⟨h.rep.dom, fun o ob ho => ?_, h.rep.distinct, fun b x v hb => ⟨cl (h.rep.mem b x v hb).1, (h.rep.mem b x v hb).2⟩, h.rep.sep⟩, ⟨h.keep.hl, h.keep.rho, h.keep.mu, ?_, h.keep.os, h.keep.tape, h.keep.output, fun b hb => ?_, h.keep.own, h.keep.muo⟩⟩
  · rcases h.rep.obj o ob ho with ⟨L, cs, hat⟩ | h1
    · exact .inl ⟨L, cs, hat.cont (RhoLe.refl _) (MuLe.refl _) (old _ (hlt ⟨ob, ho⟩ hat.loc))⟩
    · exact .inr h1
  · have := h.keep.size
    show C.w0.heap.size ≤ (w.heap ++ os).size
    simp; omega
  · have hb' : b < C.w0.heap.size := by
      rcases Nat.lt_or_ge b C.w0.heap.size with h1 | h1
      · exact h1
      · exact absurd (Or.inl h1) hb
    have := h.keep.size
    rw [old b (by omega)]
    exact h.keep.block b hb
theorem St.aheadN (h : St C ρ μ H w) (n : Nat) : St C ρ μ H (Go.Sort.ahead w n) :=
  ⟨⟨h.rep.dom, fun o ob ho => (h.rep.obj o ob ho).imp (fun ⟨L, cs, hat⟩ => ⟨L, cs, hat.cont (RhoLe.refl _) (MuLe.refl _) rfl⟩) id, h.rep.distinct, h.rep.mem, h.rep.sep⟩,
    ⟨h.keep.hl, h.keep.rho, h.keep.mu, h.keep.size, h.keep.os, h.keep.tape, h.keep.output, h.keep.block, h.keep.own, h.keep.muo⟩⟩
end

theorem sort_cells {n : Nat} {d : Array (Int × Int)} (hd : d.size = n) {cs : Array Value} (hs : n * 2 ≤ cs.size) : ∀ i j, i < n → j < 2 → (putCells id 0 (flatK enc2 2 d) cs).getD (i * 2 + j) undef = (enc2 d[i]!)[j]! := by
  intro i j hi hj
  have h1 : i * 2 + j < cs.size := by omega
  have h2 : i * 2 + j < d.size * 2 := by omega
  rw [Array.getD_eq_getD_getElem?]
  simp only [putCells, Array.getElem?_mapIdx]
  rw [Array.getElem?_eq_getElem h1]
  simp only [Option.map_some, Option.getD_some, Nat.zero_le, Nat.zero_add, size_flatK, Nat.sub_zero, id, true_and]
  rw [if_pos h2, get_flatK _ _ _ _ h2, show (i * 2 + j) / 2 = i by omega, show (i * 2 + j) % 2 = j by omega]

theorem sort2 {P : Program} {g f : FuncId} {t n : Nat} {a b : Nat → Int} {lt : Int × Int → Int × Int → Bool} (hn : n ≤ 17592186044416)
    (hsort : ∀ (blk off cap : Nat) (d : Array (Int × Int)) (w : World), HoldsK enc2 2 w blk off d → blk < w.heap.size → d.size < 4611686018427387904 →
      Calls P f #[.slice (some ⟨blk, off, none⟩) d.size cap, .func (.func g) #[] #[]] w fun e w' => e = .returned (.tuple #[]) ∧ ∃ d' m os, PermIn 0 d.size d d' ∧ SortedIn lt 0 d.size d' ∧ w' = sortWorldK enc2 2 w blk off m d' os)
    (hnone : ∀ cap w, Calls P f #[.slice none 0 cap, .func (.func g) #[] #[]] w fun e w' => e = .returned (.tuple #[]) ∧ w' = w) :
    FSpec P f [.sl 0 0 n, .fn (.func g) [] []] [some ⟨t, 2, .arr n (icol2 a b)⟩] (fun r H' => r = .tup [] ∧ ∃ a' b', H' = [some ⟨t, 2, .arr n (icol2 a' b')⟩] ∧ ((List.range n).map fun i => (a' i, b' i)).Perm ((List.range n).map fun i => (a i, b i)) ∧ ∀ i j, i < j → j < n → lt (a' j, b' j) (a' i, b' i) = false) := by
  intro ρ μ w vs hsz hrel hrep
  have h0 := hrel 0 (by simp)
  have h1 := hrel 1 (by simp)
  simp only [List.getD_cons_zero, List.getD_cons_succ] at h0 h1
  have hvs : vs = #[vs.getD 0 undef, vs.getD 1 undef] := by
    apply Array.ext_getElem?
    intro i
    have hsz' : vs.size = 2 := hsz
    match i with
    | 0 => simp [Array.getD, hsz']
    | 1 => simp [Array.getD, hsz']
    | i + 2 => simp [hsz']
  generalize vs.getD 0 undef = v0 at h0 hvs
  generalize vs.getD 1 undef = v1 at h1 hvs
  subst hvs
  have hst := St.start hrep
  have ev1 : v1 = .func (.func g) #[] #[] := by
    cases h1 with
    | fn _ _ _ _ _ us xs hl hl' _ _ =>
      have e1 : us = #[] := Array.eq_empty_of_size_eq_zero (by simpa using hl)
      have e2 : xs = #[] := Array.eq_empty_of_size_eq_zero (by simpa using hl')
      rw [e1, e2]
  subst ev1
  have same : ∀ w', w' = w → n = 0 → Post ⟨w, ρ, μ, [some ⟨t, 2, .arr n (icol2 a b)⟩], 1⟩ (fun r H' => r = .tup [] ∧ ∃ a' b', H' = [some ⟨t, 2, .arr n (icol2 a' b')⟩] ∧ ((List.range n).map fun i => (a' i, b' i)).Perm ((List.range n).map fun i => (a i, b i)) ∧ ∀ i j, i < j → j < n → lt (a' j, b' j) (a' i, b' i) = false) (.returned (.tuple #[])) w' := by
    rintro w' rfl rfl
    exact ⟨_, .tup [], _, ρ, μ, rfl, ⟨rfl, a, b, rfl, List.Perm.refl _, fun i j _ h => absurd h (Nat.not_lt_zero _)⟩, .tup _ _ [] #[] rfl (fun j hj => by simp at hj), hst⟩
  cases h0 with
  | slNil => exact (hnone 0 w).mono fun e w' ⟨he, hw⟩ => by rw [he]; exact same w' hw rfl
  | sl _ _ _ _ _ c x L hL hc hn2 hx =>
    obtain ⟨L', cs, hat⟩ := hrep.at_ (o := 0) (ob := ⟨t, 2, .arr n (icol2 a b)⟩) rfl hL
    obtain rfl : L' = L := Option.some.inj (hat.loc.symm.trans hL)
    have hsz2 : L'.sz = 2 := hat.sz.symm
    have hx0 : n = 0 ∨ x = 0 := by
      rcases hx with h | h
      · left; omega
      · right; omega
    have hcell : ∀ i j, i < n → j < 2 → w.cell? ⟨L'.b, i * 2 + j, none⟩ = some ((enc2 (a i, b i))[j]!) ∧ cs.getD (i * 2 + j) undef = (enc2 (a i, b i))[j]! := by
      intro i j hi hj
      have hr := hat.rel i j hi (by rw [hsz2]; exact hj)
      rw [hsz2] at hr
      have hlt : i * 2 + j < cs.size := by
        have := hat.size; have := hat.n
        simp only [Cont.n] at this
        rw [hsz2] at *
        have : i < L'.tot := by omega
        have e : (i + 1) * 2 ≤ L'.tot * 2 := Nat.mul_le_mul_right _ this
        omega
      have hv : cs.getD (i * 2 + j) undef = (enc2 (a i, b i))[j]! := by
        match j, hj with
        | 0, _ =>
          have hr0 : RelV rho0 μ (.int .i64 (a i)) (cs.getD (i * 2 + 0) undef) := hr
          rw [hr0.int_inv]; rfl
        | 1, _ =>
          have hr0 : RelV rho0 μ (.int .i64 (b i)) (cs.getD (i * 2 + 1) undef) := hr
          rw [hr0.int_inv]; rfl
      refine ⟨?_, hv⟩
      rw [cell_row hat.heap, ← hv, Array.getD_eq_getD_getElem?, Array.getElem?_eq_getElem hlt]
      rfl
    obtain ⟨d, hd⟩ : ∃ d : Array (Int × Int), d = ((List.range n).map fun i => (a i, b i)).toArray := ⟨_, rfl⟩
    have hds : d.size = n := by rw [hd]; simp
    have hdi : ∀ i, i < n → d[i]! = (a i, b i) := fun i hi => by rw [hd]; simp [hi]
    have hH : HoldsK enc2 2 w L'.b x d := by
      intro j hj
      rw [size_flatK, hds] at hj
      have hn0 : x = 0 := by rcases hx0 with h | h <;> omega
      subst hn0
      rw [get_flatK _ _ _ _ (by omega), hdi _ (by omega)]
      obtain ⟨g1, _⟩ := hcell (j / 2) (j % 2) (by omega) (by omega)
      rw [show j / 2 * 2 + j % 2 = j by omega] at g1
      refine ⟨by rw [Nat.zero_add]; exact g1, ?_⟩
      simp [World.frozen?, hat.heap]
    have hblk : L'.b < w.heap.size := hrep.blk ⟨_, rfl⟩ hL
    have hcall := hsort L'.b x c d w hH hblk (by omega)
    rw [hds] at hcall
    refine hcall.mono ?_
    rintro e w' ⟨rfl, d', m, os, ⟨p1, _, p3⟩, hsorted, rfl⟩
    rcases Nat.eq_zero_or_pos n with h0 | hpos
    · -- nothing to sort
      subst h0
      have hd'0 : d' = #[] := Array.eq_empty_of_size_eq_zero (by omega)
      have e0 : putRowK enc2 2 (Go.Sort.ahead w m) L'.b x d' = Go.Sort.ahead w m := by
        apply putRowK_self
        intro j hj
        rw [size_flatK, hd'0] at hj; simp at hj
      refine ⟨_, .tup [], [some ⟨t, 2, .arr 0 (icol2 a b)⟩], ρ, μ, rfl, ⟨rfl, a, b, rfl, List.Perm.refl _, fun i j _ h => absurd h (Nat.not_lt_zero _)⟩, .tup _ _ [] #[] rfl (fun j hj => by simp at hj), ?_⟩
      unfold sortWorldK
      rw [e0]
      exact (hst.aheadN m).growA os
    · have hn0 : x = 0 := by rcases hx0 with h | h <;> omega
      subst hn0
      obtain ⟨a', ha'⟩ : ∃ a' : Nat → Int, a' = fun i => (d'[i]!).1 := ⟨_, rfl⟩
      obtain ⟨b', hb'⟩ : ∃ b' : Nat → Int, b' = fun i => (d'[i]!).2 := ⟨_, rfl⟩
      have hd's : d'.size = n := by omega
      have eab : ∀ i, (a' i, b' i) = d'[i]! := fun i => by rw [ha', hb']
      have etab : ((List.range n).map fun i => (a' i, b' i)) = d'.toList := by
        apply List.ext_getElem?
        intro i
        by_cases hi : i < n
        · simp only [List.getElem?_map, List.getElem?_range hi, Option.map_some, eab]
          rw [Array.getElem?_toList, Array.getElem?_eq_getElem (by omega), getElem!_pos d' i (by omega)]
        · rw [List.getElem?_eq_none (by simp; omega), List.getElem?_eq_none (by simp; omega)]
      refine ⟨_, .tup [], [some ⟨t, 2, .arr n (icol2 a' b')⟩], ρ, μ, rfl, ⟨rfl, a', b', rfl, ?_, ?_⟩, .tup _ _ [] #[] rfl (fun j hj => by simp at hj), ?_⟩
      · rw [etab]
        have e1 : (d'.extract 0 n).toList = d'.toList := by
          have e3 : d'.extract 0 n = d' := by rw [← hd's]; simp
          rw [e3]
        have e2 : (d.extract 0 n).toList = (List.range n).map fun i => (a i, b i) := by
          have e3 : d.extract 0 n = d := by rw [← hds]; simp
          rw [e3, hd]
        rw [e1, e2] at p3
        exact p3
      · intro i j hij hj
        rw [eab, eab]
        exact hsorted i j (Nat.zero_le _) hij hj
      · refine St.growA ?_ os
        have hA := hst.aheadN m
        have hcs : n * 2 ≤ cs.size := by
          have h5 := hat.size; have h6 := hat.n
          simp only [Cont.n] at h6
          rw [hsz2] at h5
          have : n * 2 ≤ L'.tot * 2 := Nat.mul_le_mul_right _ h6
          omega
        have key := hA.write (o := 0) (ob := ⟨t, 2, .arr n (icol2 a b)⟩) (L := L') (cs := cs) rfl (hat.cont (RhoLe.refl _) (MuLe.refl _) rfl) (putRowK enc2 2 (Go.Sort.ahead w m) L'.b 0 d') (putCells id 0 (flatK enc2 2 d') cs) ⟨t, 2, .arr n (icol2 a' b')⟩
          rfl rfl rfl (by simp [putRowK]) (fun q hq => ?_) ?_ (by simp [putCells]) rfl rfl (by have := hat.n; simpa [Cont.n] using this) (fun i hi => by rw [hsz2]; rfl) (fun i j hi hj => ?_) (fun j hj => ?_)
        · exact key
        · show (mapBlock _ _ _).heap[q]? = _
          simp [mapBlock, Array.getElem?_modify, Ne.symm hq]
        · have hb : (Go.Sort.ahead w m).heap[L'.b]? = some (.cells cs L'.e (0, 0)) := hat.heap
          show (mapBlock _ _ _).heap[L'.b]? = _
          simp only [mapBlock, Array.getElem?_modify, if_true, hb, Option.map_some, onCells]
        · rw [hsz2] at hj ⊢
          rw [sort_cells hd's hcs i j hi hj]
          match j, hj with
          | 0, _ => rw [ha']; exact .int ..
          | 1, _ => rw [hb']; exact .int ..
        · have hj2 : j < cs.size := by simpa [putCells] using hj
          rw [Array.getD_eq_getD_getElem?]
          simp only [putCells, Array.getElem?_mapIdx]
          rw [Array.getElem?_eq_getElem hj2]
          simp only [Option.map_some, Option.getD_some, Nat.zero_le, Nat.zero_add, size_flatK, Nat.sub_zero, id, true_and]
          split
          · rename_i h7
            rw [get_flatK _ _ _ _ h7]
            have : j % 2 = 0 ∨ j % 2 = 1 := by omega
            rcases this with e | e <;> rw [e] <;> rfl
          · have := hat.one j hj2
            rw [Array.getD_eq_getD_getElem?, Array.getElem?_eq_getElem hj2] at this
            exact this
end Vx

namespace Vx
open Go

/-! ## Slices of structs of two integers -/
section
variable {P : Program} {n t e : Nat}
theorem Ty.pair {k : IntKind} {f0 f1 : Field} (hu : P.underlying t = some (.struct #[f0, f1])) (hc : P.cellsOf t = 2) (o0 : f0.offset = 0) (o1 : f1.offset = 1) (u0 : P.underlying f0.type = some (.int k)) (c0 : P.cellsOf f0.type = 1) (u1 : P.underlying f1.type = some (.int k)) (c1 : P.cellsOf f1.type = 1) {cs : List AV} (h : Ty P n t cs) :
    ∃ a b, cs = [.int k a, .int k b] ∧ (Lit.int k a).wf = true ∧ (Lit.int k b).wf = true := by
  obtain ⟨hl, hf⟩ := h.struct_inv hu
  rw [hc] at hl
  match cs, hl with
  | [x, y], _ =>
    obtain ⟨a, ha, wa⟩ := Ty.int_inv u0 (hf f0 (by simp))
    obtain ⟨b, hb, wb⟩ := Ty.int_inv u1 (hf f1 (by simp))
    rw [o0, c0] at ha
    rw [o1, c1] at hb
    simp only [List.drop_zero, List.take_succ_cons, List.take_zero, List.cons.injEq, and_true] at ha
    simp only [List.drop_succ_cons, List.drop_zero, List.take_succ_cons, List.take_zero, List.cons.injEq, and_true] at hb
    exact ⟨a, b, by rw [ha, hb], wa, wb⟩
theorem TyV.pairs {f0 f1 : Field} (hu : P.underlying t = some (.slice e)) (he : P.underlying e = some (.struct #[f0, f1])) (hc : P.cellsOf e = 2) (o0 : f0.offset = 0) (o1 : f1.offset = 1) (u0 : P.underlying f0.type = some (.int .i64)) (c0 : P.cellsOf f0.type = 1) (u1 : P.underlying f1.type = some (.int .i64)) (c1 : P.cellsOf f1.type = 1) {av : AV} (h : TyV P n t av) :
    ∃ (m : Nat) (a b : Nat → Int), Sub av (.rows 2 m (icol2 a b)) ∧ m * P.bytesOf e ≤ reachBytes ∧ ∀ i, i < m → (Lit.int .i64 (a i)).wf = true ∧ (Lit.int .i64 (b i)).wf = true := by
  unfold TyV at h
  rw [hu] at h
  obtain ⟨m, f, hav, hm, hf⟩ := Ty.slice_inv hu h
  injection hav with hav
  subst hav
  rw [hc]
  refine ⟨m, fun i => match f i with | [.int _ z, _] => z | _ => 0, fun i => match f i with | [_, .int _ z] => z | _ => 0, Sub.rows fun i hi => ?_, hm, fun i hi => ?_⟩
  · obtain ⟨a, b, hz, _⟩ := (hf i hi).pair he hc o0 o1 u0 c0 u1 c1
    simp only [icol2, hz]
    exact Subs.refl _
  · obtain ⟨a, b, hz, hw⟩ := (hf i hi).pair he hc o0 o1 u0 c0 u1 c1
    simpa only [hz] using hw
end
end Vx
