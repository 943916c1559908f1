/- Contracts of functions by an evaluator of the model: its part V2. -/
import Derived.Test.YtngagepodbcohaaV1
import Derived.Laws.CopyRow
import Derived.Orders
import Derived.KernelRfl
import Derived.IntWalk
import Derived.MapKept
import Derived.Below
import Derived.Recover
set_option linter.all false
namespace Vx
open Go

def ContLe (c c' : Cont) : Prop :=
  match c, c' with
  | .lit r, .lit r' => r' = r
  | .arr n f, .arr n' f' => n' ≤ n ∧ ∀ i, i < n' → f' i = f i
  | .lit r, .arr n' f' => n' ≤ r.length ∧ r.all (AV.bnd.bndL 0) = true ∧ ∀ i, i < n' → f' i = r.getD i []
  | .arr _ _, .lit _ => False
section
variable {P : Program} {C : Ctx} {H : Hp}
theorem ContLe.facts {c c' : Cont} (h : ContLe c c') : c'.n ≤ c.n ∧ (∀ i, i < c'.n → c'.f i = c.f i) := by
  cases c <;> cases c' <;> simp only [ContLe] at h
  · subst h; exact ⟨Nat.le_refl _, fun _ _ => rfl⟩
  · exact ⟨h.1, h.2.2⟩
  · exact ⟨h.1, h.2⟩

theorem St.relax {ρ : Rho} {μ : Mu} {w : World} (h : St C ρ μ H w) {o : Nat} {ob : Ob} (ho : H[o]? = some (some ob)) (ob' : Ob) (he : ob'.e = ob.e) (hs : ob'.sz = ob.sz) (hc : ContLe ob.c ob'.c) : St C ρ μ (H.set o (some ob')) w := by
  obtain ⟨f1, f2⟩ := hc.facts
  rcases h.rep.obj o ob ho with ⟨L, cs, hat⟩ | ⟨hn, hz⟩
  · refine h.write ho hat w cs ob' rfl rfl rfl rfl (fun _ _ => rfl) hat.heap rfl he hs (Nat.le_trans f1 hat.n) (fun i hi => by rw [f2 i hi]; exact hat.len i (by omega)) (fun i j hi hj => ?_) hat.one
    rw [f2 i hi]
    cases hcc : ob.c with
    | lit r =>
      cases hcc' : ob'.c with
      | lit r' => have := hat.rel i j (by omega) hj; rw [hcc] at this; exact this
      | arr n f' =>
        rw [hcc, hcc'] at hc
        have := hat.imm (fun rows hr => by rw [hcc] at hr; injection hr with hr; rw [← hr]; exact hc.2.1) (show i < ob.c.n by omega) hj
        rw [hcc] at this
        exact this
    | arr n f' =>
      cases hcc' : ob'.c with
      | lit r' => rw [hcc, hcc'] at hc; exact hc.elim
      | arr n2 f2' => have := hat.rel i j (by omega) hj; rw [hcc] at this; exact this
  · have hn' : ob'.c.n = 0 := by omega
    have lv : ∀ {x : Nat}, Live (H.set o (some ob')) x → Live H x := fun {x} hx => by
      rcases live_set hx with h1 | ⟨rfl, _⟩
      · exact h1
      · exact ⟨ob, ho⟩
    refine ⟨⟨fun x hx => h.rep.dom x (by simpa using hx), fun x obx hx => ?_, fun a b L L' ha hb => h.rep.distinct a b L L' (lv ha) (lv hb), h.rep.mem, fun a L x ha => h.rep.sep a L x (lv ha)⟩,
      ⟨by simpa using h.keep.hl, h.keep.rho, h.keep.mu, h.keep.size, h.keep.os, h.keep.tape, h.keep.output, h.keep.block, fun a L ha => h.keep.own a L (lv ha), h.keep.muo⟩⟩
    rw [List.getElem?_set] at hx
    split at hx
    · rename_i e
      subst e
      split at hx
      · injection hx with hx
        injection hx with hx
        subst hx
        exact .inr ⟨hn, hn'⟩
      · cases hx
    · exact h.rep.obj x obx hx

end

/-! ## copy -/
def cpy (O : Ops) (i k : Nat) (g f : Nat → List AV) : Nat → List AV := fun j => match O.inR i k j with | true => g (O.subN j i) | false => f j
def acopy (T : Tab) (O : Ops) (H : Hp) (t : Nat) (x y : AV) : Out :=
  match tdOf T t with
  | some (.slice e) => match tab T e with
    | some te => asrc O H te.size y fun m g =>
      match x with
      | .nil .slice => .ok (.int .i64 0) H
      | .sl o i n => match hget H o with
        | some ob => match Nat.beq te.size ob.sz with
          | true => match ob.c with
            | .lit rows => match rows.all (AV.bnd.bndL 0), Nat.ble (i + n) rows.length with
              | true, true => .ok (.int .i64 (O.ofN (O.minN m n))) (setO H o (some ⟨ob.e, ob.sz, .arr rows.length (cpy O i (O.minN m n) g fun j => rows.getD j [])⟩))
              | _, _ => .stop
            | .arr nn f => .need (O.leN (O.addN i n) nn) (.ok (.int .i64 (O.ofN (O.minN m n))) (setO H o (some ⟨ob.e, ob.sz, .arr nn (cpy O i (O.minN m n) g f)⟩)))
          | false => .stop
        | none => .stop
      | _ => .stop
    | none => .stop
  | _ => .stop

section
variable {P : Program} {T : Tab} {N : Nat} {s : Slots} {H : Hp}

theorem Src.take {ρ : Rho} {μ : Mu} {w : World} {v : Value} {sz m : Nat} {g : Nat → List AV} (hsz : 0 < sz) (h : Src ρ μ w v sz m g) {k : Nat} (hk : k ≤ m) :
    ∃ a c, v = .slice a m c ∧ ∃ news : List Value, news.length = k * sz ∧ (∀ u ∈ news, u.oneCell' = true) ∧ (a = none → news = []) ∧ (∀ ad, a = some ad → ∀ j u, news[j]? = some u → w.cell? (ad.add j) = some u) ∧
      (∀ i, i < k → (g i).length = sz) ∧ ∀ i j, i < k → j < sz → RelV rho0 μ ((g i).getD j .top) (news.getD (i * sz + j) undef) := by
  obtain ⟨⟨a, c, rfl, news, h1, h2, h3, h4, h5, h6⟩⟩ := h
  have hle : k * sz ≤ m * sz := Nat.mul_le_mul_right _ hk
  refine ⟨a, c, rfl, news.take (k * sz), by rw [List.length_take, h1]; omega, fun u hu => h2 u (List.mem_of_mem_take hu), fun e => by rw [h3 e]; simp, fun ad e j u hu => ?_, fun i hi => h5 i (by omega), fun i j hi hj => ?_⟩
  · rw [List.getElem?_take] at hu
    split at hu
    · exact h4 ad e j u hu
    · cases hu
  · have hlt := idx_lt hi hj
    have := h6 i j (by omega) hj
    rw [List.getD_eq_getElem?_getD (l := news)] at this
    rw [List.getD_eq_getElem?_getD (l := news.take _), List.getElem?_take, if_pos hlt]
    exact this

theorem run_copy_gen {t ty e : Nat} {i : TypeInfo} (hu : P.underlying t = some (.slice e)) (hi : P.info? e = some i) {w w' : World} {d : Option Addr} {n c : Nat} {a : Option Addr} {m c' k : Nat} {news : List Value} (hk : Nat.min m n = k)
    (hl : news.length = k * i.size) (hnn : a = none → news = []) (hnc : ∀ ad, a = some ad → ∀ j u, news[j]? = some u → w.cell? (ad.add j) = some u) (tT : Nat)
    (hs : ∀ b, d = some b → (storeCells b news).run P w = .ok () w') (hd : d = none → w' = w) :
    (Builtin.copy_ #[t, tT] ty #[.slice d n c, .slice a m c']).run P w = .ok (goInt k) w' := by
  have hfc : (Builtin.firstCells i.size k (.slice a m c')).run P w = .ok news.toArray w := by
    cases a with
    | none => rw [hnn rfl]; simp [Builtin.firstCells]
    | some ad => exact run_firstCells_some w i.size k ad m c' news hl (hnc ad rfl)
  cases d with
  | none =>
    rw [hd rfl]
    simp [Builtin.copy_, run_underlying hu, Builtin.lenOf, Go.sizeOf, typeInfo, hi, hk, hfc]
  | some b =>
    have := hs b rfl
    simp [Builtin.copy_, run_underlying hu, Builtin.lenOf, Go.sizeOf, typeInfo, hi, hk, hfc, this]

theorem copy_obj {t e : Nat} {te : TI} (hu : P.underlying t = some (.slice e)) (htok : Tok P e te) {C : Ctx} {ρ : Rho} {μ : Mu} {w : World} (hst : St C ρ μ H w) {o i n m : Nat} {ob : Ob} (hob : H[o]? = some (some ob))
    (hsz : te.size = ob.sz) (hb : ∀ rows, ob.c = .lit rows → rows.all (AV.bnd.bndL 0) = true) (hle : i + n ≤ ob.c.n) {v u : Value} (hv : RelV ρ μ (.sl o i n) v) {g : Nat → List AV} (hsrc : Src ρ μ w u te.size m g) {f : Nat → List AV} (hf : ∀ k, f k = ob.c.f k) (ty tT : Nat) :
    ∃ w', (Builtin.copy_ #[t, tT] ty #[v, u]).run P w = .ok (goInt ((min m n : Nat) : Int)) w' ∧ St C ρ μ (setO H o (some ⟨ob.e, ob.sz, .arr ob.c.n (cpy std i (min m n) g f)⟩)) w' := by
  obtain ⟨inf, z, hi, hszi, hby, hz, hzs, hzl, h1, hzr⟩ := htok.info
  have hpos := htok.pos
  obtain ⟨a, c', rfl, news, hnl, hno, hnn, hnc, hgl, hgr⟩ := hsrc.take hpos (show min m n ≤ m by omega)
  have idle : min m n = 0 → St C ρ μ (setO H o (some ⟨ob.e, ob.sz, .arr ob.c.n (cpy std i (min m n) g f)⟩)) w := by
    intro h0
    rw [setO_eq]
    refine hst.relax hob _ rfl rfl ?_
    have e : ∀ j, cpy std i (min m n) g f j = ob.c.f j := fun j => by
      simp only [cpy, std, h0]
      rw [show decide (i ≤ j ∧ j < i + 0) = false from decide_eq_false (by omega)]
      exact hf j
    cases hc : ob.c with
    | lit r => exact ⟨by simp [Cont.n], hb r hc, fun j _ => by have := e j; rw [hc] at this; exact this⟩
    | arr nn ff => exact ⟨by simp [Cont.n], fun j _ => by have := e j; rw [hc] at this; exact this⟩
  have n0 : min m n = 0 → news = [] := fun h0 => by
    rw [h0] at hnl
    simpa using hnl
  cases hv with
  | slNil =>
    have h0 : min m 0 = 0 := by simp
    exact ⟨w, run_copy_gen hu hi rfl (by rw [hnl, hszi]) hnn hnc tT (fun b e => by injection e) (fun _ => rfl), idle h0⟩
  | sl _ _ _ _ _ c xo L' hL hc hn hxo =>
    obtain ⟨L, cs, hat⟩ := hst.rep.at_ hob hL
    obtain rfl : L' = L := Option.some.inj (hL.symm.trans hat.loc)
    have hsL : te.size = L'.sz := hsz.trans hat.sz
    by_cases h0 : min m n = 0
    · refine ⟨w, run_copy_gen hu hi rfl (by rw [hnl, hszi]) hnn hnc tT (fun b e => by simp [n0 h0, storeCells]) (fun e => by cases e), idle h0⟩
    · have hx : xo = i * L'.sz := by rcases hxo with h | h; omega; exact h
      subst hx
      have hfit : i * L'.sz + 0 + news.length ≤ cs.size := by
        rw [hnl, hat.size, hsL, Nat.add_zero, ← Nat.add_mul]
        exact Nat.mul_le_mul_right _ (by have := hat.n; omega)
      have hrun := run_storeCells_at P L'.b (i * L'.sz) L'.e news 0 cs w hat.heap hfit hno
      simp only [Nat.add_zero] at hrun hfit
      refine ⟨_, run_copy_gen hu hi rfl (by rw [hnl, hszi]) hnn hnc tT (fun b e => by injection e with e; subst e; exact hrun) (fun e => by cases e), ?_⟩
      have hsp := spliceV_get cs.toList news (i * L'.sz) (by simpa using hfit)
      rw [setO_eq]
      have h9 : news.length = min m n * L'.sz := by rw [hnl, hsL]
      refine hst.write hob hat _ (cs.toList.take (i * L'.sz) ++ news ++ cs.toList.drop (i * L'.sz + news.length)).toArray ⟨ob.e, ob.sz, .arr ob.c.n (cpy std i (min m n) g f)⟩ rfl rfl rfl (by simp) (fun b hb => setRow_other w L'.b b _ hb) (setRow_heap w L'.b cs _ L'.e _ hat.heap) (by simp; omega) rfl rfl hat.n (fun k hk => ?_) (fun k j hk hj => ?_) (fun j hj => ?_)
      · simp only [Cont.f, cpy, std]
        cases hd : decide (i ≤ k ∧ k < i + min m n) with
        | true =>
          have := of_decide_eq_true hd
          exact (hgl (k - i) (by omega)).trans hsL
        | false => simp only; rw [hf]; exact hat.len k hk
      · simp only [Cont.f, Cont.rho, cpy, std]
        have hlt := idx_lt hk hj
        rw [hsp]
        cases hd : decide (i ≤ k ∧ k < i + min m n) with
        | true =>
          have hd := of_decide_eq_true hd
          obtain ⟨d, rfl⟩ : ∃ d, k = i + d := ⟨k - i, by omega⟩
          have hlt2 := idx_lt (show d < min m n by omega) hj
          rw [if_pos (by rw [Nat.add_mul, h9]; omega)]
          have := hgr d j (by omega) (by rw [hsL]; exact hj)
          rw [show i + d - i = d by omega]
          rw [hsL] at this
          rwa [show (i + d) * L'.sz + j - i * L'.sz = d * L'.sz + j by rw [Nat.add_mul]; omega]
        | false =>
          have hd := of_decide_eq_false hd
          simp only
          rw [hf, if_neg, Array.toArray_toList]
          · exact hat.imm hb hk hj
          · rw [h9, ← Nat.add_mul]
            intro hh
            rcases Nat.lt_or_ge k i with h | h
            · have := idx_lt h hj; omega
            · have h2 : i + min m n ≤ k := by omega
              have := Nat.mul_le_mul_right L'.sz h2
              omega
      · have hj' : j < cs.size := by simp at hj; omega
        rw [hsp]
        split
        · have hlt : j - i * L'.sz < news.length := by omega
          have := hno _ (List.getElem_mem hlt)
          simpa [List.getD_eq_getElem?_getD, hlt] using this
        · have e := hat.one j hj'
          simpa [hj'] using e

theorem op_copy (hT : TabOk P T) {o : Oper} {t t' : Nat} {x y : Operand} (ho : o.op = .call { callee := .builtin .copy, args := #[x, y], argTypes := #[t, t'] }) {r : AV} {H' : Hp} (h : (acopy T std H t (aeval s x) (aeval s y)).is r H') : OpOk P N o s H r H' := by
  unfold acopy at h
  split at h
  case h_2 => exact h.elim
  rename_i e hd
  have hu : P.underlying t = some (.slice e) := Tok.td hT hd
  split at h
  case h_2 => exact h.elim
  rename_i te hte
  have htok := hT _ _ hte
  have hpos := htok.pos
  obtain ⟨m, g, h, hsrc⟩ := asrc_sound hpos h
  have run : ∀ (a : Act) (w : World) v' w', (Builtin.copy_ #[t, t'] o.type #[a.eval x, a.eval y]).run P w = .ok v' w' → (execOp a.eval o).run P w = .ok (.value v') w' := by
    intro a w v' w' hr
    simp [execOp, ho, resolve, invoke, builtin, hr]
  split at h
  case h_3 => exact h.elim
  · rename_i hx
    obtain ⟨rfl, rfl⟩ := h
    intro C ρ μ a w hs hst
    have h2 := aeval_rel hs x
    rw [hx] at h2
    obtain ⟨i, z, hi, hszi, hby, hz, hzs, hzl, h1, hzr⟩ := htok.info
    obtain ⟨a', c', hv', news, hnl, hno, hnn, hnc, _⟩ := (hsrc ρ μ w _ (aeval_rel hs y) hst.rep).take hpos (show 0 ≤ m by omega)
    generalize hv : a.eval x = v at h2
    cases h2
    exact ⟨_, w, ρ, μ, .inl (run a w _ _ (by rw [hv, hv']; exact run_copy_gen hu hi (k := 0) (by simp) (by rw [hnl, hszi]) hnn hnc t' (fun b e => by cases e) (fun _ => rfl))), .int .., RhoLe.refl _, MuLe.refl _, hst⟩
  · rename_i o' i n hx
    split at h
    case h_2 => exact h.elim
    rename_i ob hob
    split at h
    case h_2 => exact h.elim
    rename_i hb1
    have hsz := Nat.eq_of_beq_eq_true hb1
    split at h
    · rename_i rows hc
      split at h
      case h_2 => exact h.elim
      rename_i hall hble
      have hle := Nat.le_of_ble_eq_true hble
      obtain ⟨rfl, rfl⟩ := h
      intro C ρ μ a w hs hst
      have h2 := aeval_rel hs x
      rw [hx] at h2
      obtain ⟨w', r1, r2⟩ := copy_obj hu htok hst (hget_some hob) hsz (fun r hr => by rw [hc] at hr; injection hr with hr; rw [← hr]; exact hall) (by rw [hc]; exact hle) h2 (hsrc ρ μ w _ (aeval_rel hs y) hst.rep) (f := fun j => rows.getD j []) (fun k => by rw [hc]; rfl) o.type t'
      refine ⟨_, w', ρ, μ, .inl (run a w _ _ r1), .int .., RhoLe.refl _, MuLe.refl _, ?_⟩
      rw [hc] at r2
      exact r2
    · rename_i nn f hc
      obtain ⟨hle, rfl, rfl⟩ := h
      intro C ρ μ a w hs hst
      have h2 := aeval_rel hs x
      rw [hx] at h2
      obtain ⟨w', r1, r2⟩ := copy_obj hu htok hst (hget_some hob) hsz (fun r hr => by rw [hc] at hr; cases hr) (by rw [hc]; exact hle) h2 (hsrc ρ μ w _ (aeval_rel hs y) hst.rep) (f := f) (fun k => by rw [hc]; rfl) o.type t'
      refine ⟨_, w', ρ, μ, .inl (run a w _ _ r1), .int .., RhoLe.refl _, MuLe.refl _, ?_⟩
      rw [hc] at r2
      exact r2
end
end Vx

namespace Vx
open Go

/-! ## Running a piece of code -/
def abuiltin (T : Tab) (O : Ops) (s : Slots) (H : Hp) (b : Builtin) (args : List Operand) (ts : List Nat) : Out :=
  match b with
  | .len => match args, ts with
    | [x], [t] => alen T O H t (aeval s x)
    | _, _ => .stop
  | .append => match args, ts with
    | [x, y], [t, t'] => match Nat.beq t t' with | true => aappend T O H t (aeval s x) (aeval s y) | false => .stop
    | _, _ => .stop
  | .copy => match args, ts with
    | [x, y], [t, _] => acopy T O H t (aeval s x) (aeval s y)
    | _, _ => .stop
  | .max => amaxmin O.mx H (args.map (aeval s))
  | .min => amaxmin O.mn H (args.map (aeval s))
  | _ => .stop

def aop (T : Tab) (O : Ops) (s : Slots) (H : Hp) (op : Op) : Out :=
  match op with
  | .move x => .ok (aeval s x) H
  | .assign x => .ok (aeval s x) H
  | .pick c a b => apick (aeval s c) (aeval s a) (aeval s b) H
  | .nilCheck x => anilCheck (aeval s x) H
  | .fieldAddr t x j => afieldAddr T H t j (aeval s x)
  | .field t x j => afield T H t j (aeval s x)
  | .indexAddr t x y => aindexAddr T O H t (aeval s x) (aeval s y)
  | .extract x j => aextract H (aeval s x) j
  | .makeFunc fn xs ys => .ok (.fn fn (xs.toList.map (aeval s)) (ys.toList.map (aeval s))) H
  | .binOp op t x y _ => abinOp T O H op t (aeval s x) (aeval s y)
  | .unOp op _ x => aunOp O H op (aeval s x)
  | .makeInterface t x => amakeIface T H t (aeval s x)
  | .typeAssert x _ t ok => match ok with | true => .stop | false => atypeAssert T H t (aeval s x)
  | .index t x y => aindex T O H t (aeval s x) (aeval s y)
  | .convert src dst x => aconvert T O H src dst (aeval s x)
  | .load t x => aload T O H t (aeval s x)
  | .store t x y => astore T O H t (aeval s x) (aeval s y)
  | .alloc t => aalloc T H t
  | .box t x => abox H t (aeval s x)
  | .build t ps => ablit T H t (ps.toList.map fun p => (p.1, aeval s p.2))
  | .buildSlice t len ps => abuildSlice T H t len (ps.toList.map fun p => (p.1, aeval s p.2))
  | .makeSlice t x y => amakeSlice T O H t (aeval s x) (aeval s y)
  | .slice t x lo hi none => aslice T O H t (aeval s x) (lo.map (aeval s)) (hi.map (aeval s))
  | .call ⟨.builtin b, args, ts⟩ => abuiltin T O s H b args.toList ts.toList
  | _ => .stop

section
variable {P : Program} {T : Tab} {N : Nat} {s : Slots} {H : Hp}

theorem arr1 {α : Type} {a : Array α} {x : α} (h : a.toList = [x]) : a = #[x] := by cases a; simp at h; subst h; rfl
theorem arr2 {α : Type} {a : Array α} {x y : α} (h : a.toList = [x, y]) : a = #[x, y] := by cases a; simp at h; subst h; rfl

theorem aop_sound (hT : TabOk P T) {o : Oper} {r : AV} {H' : Hp} (h : (aop T std s H o.op).is r H') : OpOk P N o s H r H' := by
  cases ho : o.op <;> rw [ho] at h <;> simp only [aop] at h
  case move => obtain ⟨rfl, rfl⟩ := h; exact op_move (.inl ho)
  case assign => obtain ⟨rfl, rfl⟩ := h; exact op_move (.inr ho)
  case pick => exact op_pick ho h
  case nilCheck => exact op_nilCheck ho h
  case fieldAddr => exact op_fieldAddr hT ho h
  case field => exact op_field hT ho h
  case indexAddr => exact op_indexAddr hT ho h
  case extract => exact op_extract ho h
  case makeFunc => obtain ⟨rfl, rfl⟩ := h; exact op_makeFunc ho
  case binOp => exact op_binOp hT ho h
  case unOp => exact op_unOp ho h
  case makeInterface => exact op_mkIface hT ho h
  case typeAssert x xt t ok =>
    cases ok with
    | true => exact h.elim
    | false => exact op_typeAssert hT ho h
  case index => exact op_index hT ho h
  case convert => exact op_convert hT ho h
  case load => exact op_load hT ho h
  case store => exact op_store hT ho h
  case alloc => exact op_alloc hT ho h
  case box => exact op_box ho h
  case build => exact op_build hT ho h
  case buildSlice => exact op_buildSlice hT ho h
  case makeSlice => exact op_makeSlice hT ho h
  case slice t x lo hi mx =>
    cases mx with
    | none => exact op_slice hT ho h
    | some m => exact h.elim
  case call c =>
    obtain ⟨cal, args, ts⟩ := c
    cases cal with
    | value f => exact h.elim
    | invoke r m => exact h.elim
    | builtin b =>
      simp only [abuiltin] at h
      cases b <;> simp only at h <;> try (exact h.elim)
      · split at h
        · rename_i x y t t' ha ht
          split at h
          · rename_i hb
            have := Nat.eq_of_beq_eq_true hb
            subst this
            rw [arr2 ha, arr2 ht] at ho
            exact op_append hT ho h
          · exact h.elim
        · exact h.elim
      · split at h
        · rename_i x y t t' ha ht
          rw [arr2 ha, arr2 ht] at ho
          exact op_copy hT ho h
        · exact h.elim
      · split at h
        · rename_i x t ha ht
          rw [arr1 ha, arr1 ht] at ho
          exact op_len hT ho h
        · exact h.elim
      · exact op_maxmin ho (.inl ⟨rfl, h⟩)
      · exact op_maxmin ho (.inr ⟨rfl, h⟩)
  all_goals exact h.elim

def Out.satL : Out → Prop → (AV → Hp → Prop) → Prop
  | .ok v H, _, K => K v H
  | .need p o, L, K => p ∧ o.satL L K
  | .stop, L, _ => L
theorem Out.satL_cases : ∀ {o : Out} {L : Prop} {K : AV → Hp → Prop}, o.satL L K → L ∨ o.sat K
  | .ok v H, L, K, h => .inr h
  | .need p o, L, K, h => (Out.satL_cases h.2).imp id fun h' => ⟨h.1, h'⟩
  | .stop, L, K, h => .inl h

/-! ### Loops, and what is forgotten -/
variable {f : FuncId} {C : Ctx} {Q : Md} {k : List Item}
theorem V.loop {c : Code} {γ : Type} (I : γ → Prop) (S : γ → Slots) (Hh : γ → Hp) (m : γ → Nat)
    (step : ∀ g, I g → (∀ g', I g' → m g' < m g → V P f N C Q (.inLoop c :: k) (S g') (Hh g')) → V P f N C Q (.code c :: .inLoop c :: k) (S g) (Hh g)) :
    ∀ g, I g → V P f N C Q (.code (.loop c) :: k) (S g) (Hh g) := by
  have key : ∀ d g, m g = d → I g → V P f N C Q (.code c :: .inLoop c :: k) (S g) (Hh g) := by
    intro d
    induction d using Nat.strongRecOn with
    | _ d ih =>
      intro g hd hI
      refine step g hI fun g' hI' hlt => V.inLoop (ih (m g') (by omega) g' rfl hI')
  exact fun g hI => V.loop1 (key _ g rfl hI)

def covers (s : Slots) : Slots → Prop
  | [] => True
  | (t, v) :: r => look s t = v ∧ covers s r
theorem covers_look {s : Slots} : ∀ {s' : Slots}, covers s s' → ∀ t, look s' t = .top ∨ look s' t = look s t
  | [], _, t => .inl rfl
  | (q, v) :: r, h, t => by
    simp only [look]
    cases hb : Nat.beq q t with
    | true =>
      have := Nat.eq_of_beq_eq_true hb
      subst this
      exact .inr h.1.symm
    | false => exact covers_look h.2 t

def bndOb (M : Nat) : Cont → Bool
  | .lit r => r.all (AV.bnd.bndL M)
  | .arr _ _ => true
def heapCov (M : Nat) : Hp → Hp → Prop
  | _, [] => True
  | [], _ :: _ => False
  | x :: H, none :: H' => heapCov M H H'
  | none :: H, some _ :: H' => False
  | some ob :: H, some ob' :: H' => (ob'.e = ob.e ∧ ob'.sz = ob.sz ∧ ContLe ob.c ob'.c ∧ bndOb M ob'.c = true) ∧ heapCov M H H'

theorem heapCov_get {M : Nat} : ∀ {H H' : Hp}, heapCov M H H' → H'.length ≤ H.length ∧ ∀ (o : Nat) (ob' : Ob), H'[o]? = some (some ob') → ∃ ob : Ob, H[o]? = some (some ob) ∧ ob'.e = ob.e ∧ ob'.sz = ob.sz ∧ ContLe ob.c ob'.c ∧ bndOb M ob'.c = true
  | H, [], _ => ⟨by simp, fun o ob' h => by simp at h⟩
  | [], _ :: _, h => h.elim
  | x :: H, none :: H', h => by
    obtain ⟨h1, h2⟩ := heapCov_get (H := H) (H' := H') (by cases x <;> exact h)
    refine ⟨by simp; omega, fun o ob' ho => ?_⟩
    cases o with
    | zero => simp at ho
    | succ o => simpa using h2 o ob' (by simpa using ho)
  | none :: H, some _ :: H', h => h.elim
  | some ob :: H, some ob1 :: H', h => by
    obtain ⟨h1, h2⟩ := heapCov_get (H := H) (H' := H') h.2
    refine ⟨by simp; omega, fun o ob' ho => ?_⟩
    cases o with
    | zero => simp at ho; subst ho; exact ⟨ob, rfl, h.1⟩
    | succ o => simpa using h2 o ob' (by simpa using ho)

theorem St.cov {ρ : Rho} {μ : Mu} {w : World} (h : St C ρ μ H w) {H' : Hp} (hc : heapCov H'.length H H') (hN : C.n0 ≤ H'.length) : St C (rcut H'.length ρ) μ H' w := by
  obtain ⟨hl, hg⟩ := heapCov_get hc
  have old : ∀ {o : Nat}, o < H'.length → rcut H'.length ρ o = ρ o := fun h => by simp [rcut, h]
  have oldL : ∀ {o : Nat} {L : Loc}, rcut H'.length ρ o = some L → ρ o = some L := fun {o L} h => by
    simp only [rcut] at h
    split at h
    · exact h
    · cases h
  have lv : ∀ {o : Nat}, Live H' o → Live H o := fun {o} ⟨ob, ho⟩ => let ⟨ob1, h1, _⟩ := hg o ob ho; ⟨ob1, h1⟩
  refine ⟨⟨fun o ho => by simp [rcut]; omega, fun o ob' ho => ?_, fun a b L L' ha hb hL hL' => h.rep.distinct a b L L' (lv ha) (lv hb) (oldL hL) (oldL hL'), h.rep.mem, fun a L x ha hL => h.rep.sep a L x (lv ha) (oldL hL)⟩,
    ⟨hN, fun o ho => by rw [old (by omega)]; exact h.keep.rho o ho, h.keep.mu, h.keep.size, h.keep.os, h.keep.tape, h.keep.output, h.keep.block, fun a L ha hL => h.keep.own a L (lv ha) (oldL hL), h.keep.muo⟩⟩
  obtain ⟨ob, h1, h2, h3, h4, h5⟩ := hg o ob' ho
  have hlt : o < H'.length := (List.getElem?_eq_some_iff.1 ho).1
  have hx := (h.relax h1 ob' h2 h3 h4).rep.obj o ob' (by
    have := (List.getElem?_eq_some_iff.1 h1).1
    simp [this])
  rcases hx with ⟨L, cs, hat⟩ | ⟨hn, hz⟩
  · refine .inl ⟨L, cs, (old hlt).trans hat.loc, hat.heap, hat.e, hat.sz, hat.pos, hat.size, hat.n, hat.max, hat.len, fun i j hi hj => ?_, hat.one⟩
    have hr := hat.rel i j hi hj
    have hle := hat.len i hi
    cases hcc : ob'.c with
    | arr n f => rw [hcc] at hr; exact hr
    | lit r =>
      rw [hcc] at hr hi hle h5
      have hi' : i < r.length := hi
      have hrow : AV.bnd.bndL H'.length (r.getD i []) = true := by
        have := List.all_eq_true.1 h5 r[i] (List.getElem_mem hi')
        simpa [List.getD_eq_getElem?_getD, hi'] using this
      have hjl : j < (r.getD i []).length := by
        have : (r.getD i []).length = L.sz := hle
        omega
      exact RelV.to hr (bndL_get hrow hjl) (fun x hx => old hx)
  · exact .inr ⟨(old hlt).trans hn, hz⟩

def bndS (M : Nat) (s : Slots) : Bool := s.all fun p => p.2.bnd M
theorem bndS_look {M : Nat} : ∀ {s : Slots}, bndS M s = true → ∀ t, (look s t).bnd M = true
  | [], _, t => rfl
  | (q, v) :: r, h, t => by
    simp only [bndS, List.all_cons, Bool.and_eq_true] at h
    simp only [look]
    cases hb : Nat.beq q t with
    | true => exact h.1
    | false => exact bndS_look (s := r) h.2 t

/-- On to a state that says less. -/
theorem V.to {todo : List Item} {s' : Slots} {H' : Hp} (k : V P f N C Q todo s' H') (hc : covers s s') (hb : bndS H'.length s' = true) (hh : heapCov H'.length H H') (hN : C.n0 ≤ H'.length) : V P f N C Q todo s H := by
  refine V.steps k fun ρ μ a w hs hst => ⟨rcut H'.length ρ, μ, a, w, ⟨hs.size, hs.defers, fun t => ?_⟩, hst.cov hh hN, rfl, fun _ _ _ _ => .refl _ _⟩
  have h1 : RelV ρ μ (look s' t) (a.tmps.getD t undef) := by
    rcases covers_look hc t with e | e
    · rw [e]; exact .top ..
    · rw [e]; exact hs.v t
  exact h1.to (bndS_look hb t) (fun o ho => by simp [rcut, ho])

/-- A nil slice is a slice of an object without memory. -/
theorem V.phantom {todo : List Item} (t e sz : Nat) (g : Nat → List AV) (hl : look s t = .nil .slice) (k : V P f N C Q todo ((t, .sl H.length 0 0) :: s) (app H (some ⟨e, sz, .arr 0 g⟩))) : V P f N C Q todo s H := by
  refine V.steps k fun ρ μ a w hs hst => ⟨ρ, μ, a, w, ⟨hs.size, hs.defers, fun q => ?_⟩, by rw [app_eq]; exact hst.phantom _ rfl, rfl, fun _ _ _ _ => .refl _ _⟩
  simp only [look]
  cases hb : Nat.beq t q with
  | false => exact hs.v q
  | true =>
    have := Nat.eq_of_beq_eq_true hb
    subst this
    have h1 := hs.v t
    rw [hl] at h1
    generalize a.tmps.getD t undef = v at h1
    cases h1
    exact .slNil ..

/-- A slice that is no longer written is a value. -/
theorem V.freeze {todo : List Item} (t : Nat) {o i n : Nat} {ob : Ob} (hl : look s t = .sl o i n) (ho : hget H o = some ob) (hp : 0 < ob.sz) (hb : bndOb 0 ob.c = true) (hn : i + n ≤ ob.c.n)
    (k : V P f N C Q todo ((t, .rows ob.sz n fun j => ob.c.f (i + j)) :: s) (setO H o none)) : V P f N C Q todo s H := by
  have ho' := hget_some ho
  refine V.steps k fun ρ μ a w hs hst => ?_
  have h1 := hs.v t
  rw [hl] at h1
  have hbb : ∀ rows, ob.c = .lit rows → rows.all (AV.bnd.bndL 0) = true := fun rows hr => by rw [hr] at hb; exact hb
  cases hv : a.tmps.getD t undef with
  | slice ad n' c' =>
    rw [hv] at h1
    have fin : ∀ μ', MuLe μ μ' → St C ρ μ' (setO H o none) w → RelV ρ μ' (.rows ob.sz n fun j => ob.c.f (i + j)) (.slice ad n' c') → ∃ ρ' μ' a' w', RelS ρ' μ' N ((t, .rows ob.sz n fun j => ob.c.f (i + j)) :: s) a' ∧ St C ρ' μ' (setO H o none) w' ∧ a'.defers = a.defers ∧ ∀ (b : Frame) cs, b.fn = f → b.kind = Q.knd → Steps P (lone (b.atR a todo) cs w) (lone (b.atR a' todo) cs w') := by
      intro μ' hm hst' hr
      refine ⟨ρ, μ', a, w, ⟨hs.size, hs.defers, fun q => ?_⟩, hst', rfl, fun _ _ _ _ => .refl _ _⟩
      simp only [look]
      cases hq : Nat.beq t q with
      | false => exact (hs.v q).mono (RhoLe.refl _) hm
      | true =>
        have := Nat.eq_of_beq_eq_true hq
        subst this
        rw [hv]
        exact hr
    cases h1 with
    | sl _ _ _ _ _ c xo L hL hc hn' hxo =>
      obtain ⟨L', cs, hat⟩ := hst.rep.at_ ho' hL
      obtain rfl : L' = L := Option.some.inj (hat.loc.symm.trans hL)
      obtain ⟨hst', hm⟩ := hst.freeze ho' hat
      refine fin _ hm (by rw [setO_eq]; exact hst') ?_
      refine .rows _ _ _ _ _ _ _ L'.b xo (fun p q => cs.getD ((i + p) * L'.sz + q) undef) (fun p hp => by rw [hat.sz]; exact hat.len _ (by omega)) (by rw [hat.sz]; exact hat.pos) (fun p q hp hq => by
        rw [hat.sz] at hq
        exact (hat.imm hbb (by omega) hq).mono (RhoLe.refl _) hm) (fun p q hp hq => ?_) hn' (by have := hat.max; omega)
      rw [hat.sz] at hq ⊢
      refine ⟨rfl, ?_⟩
      have hx : xo = i * L'.sz := by rcases hxo with h | h; omega; exact h
      have hlt : (i + p) * L'.sz + q < cs.size := hat.lt (by have := hat.n; omega) hq
      have e1 : xo + p * L'.sz + q = (i + p) * L'.sz + q := by rw [hx, Nat.add_mul]
      rw [e1]
      simp only [frz]
      rw [if_pos ⟨trivial, hlt⟩]
      simp [hlt]
    | slNil =>
      exact fin μ (MuLe.refl _) (by rw [setO_eq]; exact hst.kill o) (.rows _ _ _ _ none 0 _ 0 0 (fun _ _ => undef) (fun p hp => by omega) hp (fun p q hp => by omega) (fun p q hp => by omega) (Nat.le_refl _) (by simp))
  | _ => rw [hv] at h1; cases h1

end
end Vx

namespace Vx
open Go

/-! ## Calls -/
def AV.ren (g : Nat → Option Nat) : AV → AV
  | .sl o i n => match g o with | some o' => .sl o' i n | none => .top
  | .ptr o i n => match g o with | some o' => .ptr o' i n | none => .top
  | .agg cs => .agg (renL g cs)
  | .tup cs => .tup (renL g cs)
  | .fn f xs ys => .fn f (renL g xs) (renL g ys)
  | .ifc t v => .ifc t (v.ren g)
  | x => x
where
  renL (g : Nat → Option Nat) : List AV → List AV
    | [] => []
    | x :: r => x.ren g :: renL g r
theorem renL_len (g : Nat → Option Nat) : ∀ cs : List AV, (AV.ren.renL g cs).length = cs.length
  | [] => rfl
  | x :: r => by simp [AV.ren.renL, renL_len g r]
theorem renL_get (g : Nat → Option Nat) : ∀ (cs : List AV) (j : Nat), (AV.ren.renL g cs).getD j .top = (cs.getD j .top).ren g
  | [], j => by simp [AV.ren.renL, AV.ren]
  | x :: r, 0 => by simp [AV.ren.renL]
  | x :: r, j + 1 => by simpa [AV.ren.renL] using renL_get g r j

theorem RelV.ren {ρ : Rho} {μ : Mu} {x : AV} {v : Value} (h : RelV ρ μ x v) : ∀ {ρ' : Rho} {g : Nat → Option Nat}, (∀ o o' L, g o = some o' → ρ o = some L → ρ' o' = some L) → RelV ρ' μ (x.ren g) v := by
  induction h with
  | int => intros; exact .int ..
  | bool => intros; exact .bool ..
  | flt => intros; exact .flt ..
  | str => intros; exact .str ..
  | nilPtr => intros; exact .nilPtr ..
  | nilSlice => intros; exact .nilSlice ..
  | nilMap => intros; exact .nilMap ..
  | mp => intros; exact .mp ..
  | nilFunc => intros; exact .nilFunc ..
  | nilIface => intros; exact .nilIface ..
  | rows ρ μ n f a c sz b o ws hlen hsz hrel hmem hc hm ih => intros; exact .rows _ _ n f a c sz b o ws hlen hsz hrel hmem hc hm
  | ref ρ μ cs b o ws hrel hmem ih => intros; exact .ref _ _ cs b o ws hrel hmem
  | sl ρ μ o i n c x L h hc hn hx =>
    intro ρ' g hg
    simp only [AV.ren]
    cases hq : g o with
    | none => exact .top ..
    | some o' => exact .sl _ _ o' i n c x L (hg o o' L hq h) hc hn hx
  | slNil ρ μ o i =>
    intro ρ' g hg
    simp only [AV.ren]
    cases hq : g o with
    | none => exact .top ..
    | some o' => exact .slNil ..
  | ptr ρ μ o i off L h =>
    intro ρ' g hg
    simp only [AV.ren]
    cases hq : g o with
    | none => exact .top ..
    | some o' => exact .ptr _ _ o' i off L (hg o o' L hq h)
  | agg ρ μ cs vs hl h ih => intro ρ' g hg; exact .agg _ _ _ vs (by rw [renL_len]; exact hl) (fun j hj => by rw [renL_get]; exact ih j (by rw [renL_len] at hj; exact hj) hg)
  | tup ρ μ cs vs hl h ih => intro ρ' g hg; exact .tup _ _ _ vs (by rw [renL_len]; exact hl) (fun j hj => by rw [renL_get]; exact ih j (by rw [renL_len] at hj; exact hj) hg)
  | fn ρ μ f xs ys us vs hl hl' h h' ih ih' =>
    intro ρ' g hg
    exact .fn _ _ f _ _ us vs (by rw [renL_len]; exact hl) (by rw [renL_len]; exact hl') (fun j hj => by rw [renL_get]; exact ih j (by rw [renL_len] at hj; exact hj) hg) (fun j hj => by rw [renL_get]; exact ih' j (by rw [renL_len] at hj; exact hj) hg)
  | ifc ρ μ t x v h ih => intro ρ' g hg; exact .ifc _ _ t _ v (ih hg)
  | top => intros; exact .top ..

def Cont.ren (g : Nat → Option Nat) : Cont → Cont
  | .lit r => .lit (r.map (AV.ren.renL g))
  | .arr n f => .arr n f
def Ob.ren (g : Nat → Option Nat) (ob : Ob) : Ob := ⟨ob.e, ob.sz, ob.c.ren g⟩
theorem Cont.ren_n (g : Nat → Option Nat) (c : Cont) : (c.ren g).n = c.n := by cases c <;> simp [Cont.ren, Cont.n]

theorem ObAt.ren {ρ : Rho} {μ : Mu} {w : World} {o : Nat} {ob : Ob} {L : Loc} {cs : Array Value} (h : ObAt ρ μ w o ob L cs) {ρ' : Rho} {g : Nat → Option Nat} {o' : Nat} (hg : ∀ o o' L, g o = some o' → ρ o = some L → ρ' o' = some L) (ho : ρ' o' = some L) : ObAt ρ' μ w o' (ob.ren g) L cs := by
  refine ⟨ho, h.heap, h.e, h.sz, h.pos, h.size, by simpa [Ob.ren, Cont.ren_n] using h.n, h.max, fun i hi => ?_, fun i j hi hj => ?_, h.one⟩
  · have hi' : i < ob.c.n := by simpa [Ob.ren, Cont.ren_n] using hi
    have := h.len i hi'
    cases hc : ob.c with
    | arr n f => rw [hc] at this; simpa [Ob.ren, hc, Cont.ren] using this
    | lit r =>
      rw [hc] at this hi'
      have hi2 : i < r.length := hi'
      simp only [Ob.ren, hc, Cont.ren, Cont.f, List.getD_eq_getElem?_getD, List.getElem?_map] at this ⊢
      simp only [List.getElem?_eq_getElem hi2, Option.map_some, Option.getD_some, renL_len] at this ⊢
      exact this
  · have hi' : i < ob.c.n := by simpa [Ob.ren, Cont.ren_n] using hi
    have := h.rel i j hi' hj
    cases hc : ob.c with
    | arr n f => rw [hc] at this; simpa [Ob.ren, hc, Cont.ren, Cont.rho, Cont.f] using this
    | lit r =>
      rw [hc] at this hi'
      have hi2 : i < r.length := hi'
      have e : ((Ob.ren g ob).c.f i).getD j .top = ((r.getD i []).getD j .top).ren g := by
        simp only [Ob.ren, hc, Cont.ren, Cont.f]
        rw [← renL_get]
        congr 1
        simp [List.getD_eq_getElem?_getD, hi2]
      rw [e]
      simp only [Ob.ren, hc, Cont.ren, Cont.rho]
      exact RelV.ren this hg

/-- Where an object of the caller's stands among those that are handed in. -/
def inv : List Nat → Nat → Option Nat
  | [], _ => none
  | x :: r, o => match Nat.beq x o with
    | true => some 0
    | false => match inv r o with | some k => some (k + 1) | none => none
theorem inv_some : ∀ {m : List Nat} {o k : Nat}, inv m o = some k → m[k]? = some o
  | [], _, _, h => by simp [inv] at h
  | x :: r, o, k, h => by
    simp only [inv] at h
    split at h
    · rename_i hb
      have := Nat.eq_of_beq_eq_true hb
      injection h with h
      subst h this
      rfl
    · split at h
      · rename_i k' hk
        injection h with h
        subst h
        simpa using inv_some hk
      · cases h
def outN (L : Nat) : List Nat → Nat → Nat
  | [], k => L + k
  | x :: _, 0 => x
  | _ :: r, k + 1 => outN L r k
theorem outN_lt : ∀ {m : List Nat} {L k : Nat} (h : k < m.length), outN L m k = m[k]
  | [], _, _, h => by simp at h
  | x :: r, L, 0, _ => rfl
  | x :: r, L, k + 1, h => by simpa [outN] using outN_lt (m := r) (L := L) (k := k) (by simpa using h)
theorem outN_ge : ∀ {m : List Nat} {L k : Nat}, m.length ≤ k → outN L m k = L + (k - m.length)
  | [], _, _, _ => by simp [outN]
  | x :: r, L, 0, h => by simp at h
  | x :: r, L, k + 1, h => by
    have := outN_ge (m := r) (L := L) (k := k) (by simpa using h)
    simp only [outN, this, List.length_cons]
    omega

def callHeap (H : Hp) (m : List Nat) : Hp := m.map fun o => (hget H o).map (Ob.ren (inv m))
def setMany (g : Nat → Option Nat) : Hp → List Nat → Hp → Hp
  | H, [], _ => H
  | H, _ :: _, [] => H
  | H, o :: m, x :: r => setMany g (setO H o (x.map (Ob.ren g))) m r
def merge (H : Hp) (m : List Nat) (Hc : Hp) : Hp := setMany (fun k => some (outN H.length m k)) H m Hc ++ (Hc.drop m.length).map fun x => x.map (Ob.ren fun k => some (outN H.length m k))

theorem setMany_len (g : Nat → Option Nat) : ∀ (m : List Nat) (H r : Hp), (setMany g H m r).length = H.length
  | [], H, r => by cases r <;> rfl
  | o :: m, H, [] => rfl
  | o :: m, H, x :: r => by simp [setMany, setMany_len g m, setO_eq]
theorem setMany_ne (g : Nat → Option Nat) : ∀ (m : List Nat) (H r : Hp) (o : Nat), o ∉ m → (setMany g H m r)[o]? = H[o]?
  | [], H, r, o, _ => by cases r <;> rfl
  | x :: m, H, [], o, _ => rfl
  | x :: m, H, y :: r, o, h => by
    simp only [List.mem_cons, not_or] at h
    simp only [setMany]
    rw [setMany_ne g m _ r o h.2, setO_eq, List.getElem?_set_ne (Ne.symm h.1)]
theorem setMany_at (g : Nat → Option Nat) : ∀ (m : List Nat) (H r : Hp) (k : Nat) (hk : k < m.length), m.Nodup → m.length ≤ r.length → m[k] < H.length → (setMany g H m r)[m[k]]? = (r[k]?).map fun x => x.map (Ob.ren g)
  | [], H, r, k, hk, _, _, _ => by simp at hk
  | x :: m, H, [], k, hk, _, h, _ => by simp at h
  | x :: m, H, y :: r, 0, hk, hn, hl, hlt => by
    simp only [List.nodup_cons] at hn
    simp only [setMany, List.getElem_cons_zero] at hlt ⊢
    rw [setMany_ne g m _ r x hn.1, setO_eq]
    simp [hlt]
  | x :: m, H, y :: r, k + 1, hk, hn, hl, hlt => by
    simp only [List.nodup_cons] at hn
    simp only [setMany, List.getElem_cons_succ, List.getElem?_cons_succ] at hlt ⊢
    exact setMany_at g m _ r k (by simpa using hk) hn.2 (by simpa using hl) (by simpa [setO_eq] using hlt)

section
variable {P : Program} {T : Tab} {N : Nat} {s : Slots} {H : Hp}
theorem hget_none : ∀ {H : Hp} {o : Nat} {ob : Ob}, H[o]? = some (some ob) → hget H o = some ob
  | [], o, ob, h => by simp at h
  | x :: r, 0, ob, h => by simp at h; simp [hget, h]
  | x :: r, o + 1, ob, h => by simp at h; simpa [hget] using hget_none h

theorem nodup_inj : ∀ {m : List Nat} {i j x : Nat}, m.Nodup → m[i]? = some x → m[j]? = some x → i = j
  | [], i, j, x, _, h, _ => by simp at h
  | y :: m, 0, 0, x, _, _, _ => rfl
  | y :: m, 0, j + 1, x, hn, h, h' => by
    simp only [List.nodup_cons] at hn
    simp at h h'
    subst h
    exact absurd (List.mem_of_getElem? h') hn.1
  | y :: m, i + 1, 0, x, hn, h, h' => by
    simp only [List.nodup_cons] at hn
    simp at h h'
    subst h'
    exact absurd (List.mem_of_getElem? h) hn.1
  | y :: m, i + 1, j + 1, x, hn, h, h' => by
    simp only [List.nodup_cons] at hn
    simp at h h'
    rw [nodup_inj hn.2 h h']

/-- The state in which the callee begins. -/
def rhoC (ρ : Rho) (m : List Nat) : Rho := fun k => match m[k]? with | some o => ρ o | none => none
theorem Rep.callee {ρ : Rho} {μ : Mu} {w : World} (h : Rep ρ μ H w) (m : List Nat) (hn : m.Nodup) : Rep (rhoC ρ m) μ (callHeap H m) w := by
  have lk : ∀ {k : Nat} {ob : Ob}, (callHeap H m)[k]? = some (some ob) → ∃ o ob1, m[k]? = some o ∧ H[o]? = some (some ob1) ∧ ob = ob1.ren (inv m) := by
    intro k ob hk
    simp only [callHeap, List.getElem?_map] at hk
    cases hm : m[k]? with
    | none => simp [hm] at hk
    | some o =>
      simp only [hm, Option.map_some, Option.some.injEq, Option.map_eq_some_iff] at hk
      obtain ⟨ob1, h1, h2⟩ := hk
      exact ⟨o, ob1, rfl, hget_some h1, h2.symm⟩
  have lv : ∀ {k : Nat}, Live (callHeap H m) k → ∃ o, m[k]? = some o ∧ Live H o := fun {k} ⟨ob, hk⟩ => let ⟨o, ob1, h1, h2, _⟩ := lk hk; ⟨o, h1, ob1, h2⟩
  refine ⟨fun k hk => ?_, fun k ob hk => ?_, fun a b L L' ha hb hL hL' hbb => ?_, h.mem, fun k L x hk hL => ?_⟩
  · simp only [callHeap, List.length_map] at hk
    simp [rhoC, List.getElem?_eq_none hk]
  · obtain ⟨o, ob1, h1, h2, rfl⟩ := lk hk
    rcases h.obj o ob1 h2 with ⟨L, cs, hat⟩ | ⟨hn0, hz⟩
    · refine .inl ⟨L, cs, hat.ren (fun o o' L hg hL => ?_) (by simp [rhoC, h1, hat.loc])⟩
      simp [rhoC, inv_some hg, hL]
    · exact .inr ⟨by simp [rhoC, h1, hn0], by simpa [Ob.ren, Cont.ren_n] using hz⟩
  · obtain ⟨o, h1, h2⟩ := lv ha
    obtain ⟨o', h1', h2'⟩ := lv hb
    simp only [rhoC, h1] at hL
    simp only [rhoC, h1'] at hL'
    have e := h.distinct o o' L L' h2 h2' hL hL' hbb
    subst e
    exact nodup_inj hn h1 h1'
  · obtain ⟨o, h1, h2⟩ := lv hk
    simp only [rhoC, h1] at hL
    exact h.sep o L x h2 hL

/-- The state behind the call. -/
theorem St.merge {C : Ctx} {ρ : Rho} {μ : Mu} {w : World} (h : St C ρ μ H w) (m : List Nat) (hn : m.Nodup) (hm : ∀ o ∈ m, o < H.length) {ρc : Rho} {μ' : Mu} {Hc : Hp} {w' : World} (hc : St ⟨w, rhoC ρ m, μ, callHeap H m, (callHeap H m).length⟩ ρc μ' Hc w') :
    ∃ ρ', RhoLe ρ ρ' ∧ (∀ k L, ρc k = some L → ρ' (outN H.length m k) = some L) ∧ MuLe μ μ' ∧ St C ρ' μ' (Vx.merge H m Hc) w' := by
  have hl : m.length ≤ Hc.length := by have := hc.keep.hl; simpa [callHeap] using this
  have hrho : ∀ k, k < m.length → ρc k = rhoC ρ m k := fun k hk => hc.keep.rho k (by simpa [callHeap] using hk)
  let ρ' : Rho := fun o => if o < H.length then ρ o else ρc (o - H.length + m.length)
  have hρ1 : ∀ o, o < H.length → ρ' o = ρ o := fun o ho => by simp [ρ', ho]
  have hρ2 : ∀ o, H.length ≤ o → ρ' o = ρc (o - H.length + m.length) := fun o ho => by simp [ρ', show ¬ o < H.length by omega]
  have hle : RhoLe ρ ρ' := by
    intro o L hL
    rcases Nat.lt_or_ge o H.length with h1 | h1
    · rw [hρ1 o h1]; exact hL
    · rw [h.rep.dom o h1] at hL; cases hL
  have hout : ∀ k L, ρc k = some L → ρ' (outN H.length m k) = some L := by
    intro k L hL
    rcases Nat.lt_or_ge k m.length with h1 | h1
    · rw [outN_lt h1, hρ1 _ (hm _ (List.getElem_mem h1))]
      rw [hrho k h1] at hL
      simpa [rhoC, h1] using hL
    · rw [outN_ge h1, hρ2 _ (by omega), show H.length + (k - m.length) - H.length + m.length = k by omega]
      exact hL
  have hlen : (Vx.merge H m Hc).length = H.length + (Hc.length - m.length) := by simp [Vx.merge, setMany_len]
  -- an object of the new heap: either one that was not handed in, or one of the callee's
  have lk : ∀ o ob, (Vx.merge H m Hc)[o]? = some (some ob) → (o ∉ m ∧ H[o]? = some (some ob)) ∨ (∃ k ob1, Hc[k]? = some (some ob1) ∧ o = outN H.length m k ∧ ob = ob1.ren fun k => some (outN H.length m k)) := by
    intro o ob ho
    rcases Nat.lt_or_ge o H.length with h1 | h1
    · rw [Vx.merge, List.getElem?_append_left (by rw [setMany_len]; exact h1)] at ho
      by_cases hmem : o ∈ m
      · obtain ⟨k, hk, rfl⟩ := List.getElem_of_mem hmem
        rw [setMany_at _ m H Hc k hk hn hl h1] at ho
        right
        cases hcc : Hc[k]? with
        | none => simp [hcc] at ho
        | some y =>
          simp only [hcc, Option.map_some, Option.some.injEq, Option.map_eq_some_iff] at ho
          obtain ⟨ob1, rfl, rfl⟩ := ho
          exact ⟨k, ob1, hcc, (outN_lt hk).symm, rfl⟩
      · rw [setMany_ne _ m H Hc o hmem] at ho
        exact .inl ⟨hmem, ho⟩
    · rw [Vx.merge, List.getElem?_append_right (by rw [setMany_len]; exact h1), setMany_len] at ho
      simp only [List.getElem?_map, List.getElem?_drop] at ho
      right
      cases hcc : Hc[m.length + (o - H.length)]? with
      | none => simp [hcc] at ho
      | some y =>
        simp only [hcc, Option.map_some, Option.some.injEq, Option.map_eq_some_iff] at ho
        obtain ⟨ob1, rfl, rfl⟩ := ho
        exact ⟨_, ob1, hcc, by rw [outN_ge (by omega)]; omega, rfl⟩
  have lv : ∀ o, Live (Vx.merge H m Hc) o → (o ∉ m ∧ Live H o) ∨ (∃ k, Live Hc k ∧ o = outN H.length m k) := fun o ⟨ob, ho⟩ => (lk o ob ho).imp (fun ⟨h1, h2⟩ => ⟨h1, ob, h2⟩) (fun ⟨k, ob1, h1, h2, _⟩ => ⟨k, ⟨ob1, h1⟩, h2⟩)
  -- the place of an object of the callee's
  have back : ∀ k L, Live Hc k → ρ' (outN H.length m k) = some L → ρc k = some L := by
    intro k L hk hL
    rcases Nat.lt_or_ge k m.length with h1 | h1
    · rw [outN_lt h1, hρ1 _ (hm _ (List.getElem_mem h1))] at hL
      rw [hrho k h1]
      simpa [rhoC, h1] using hL
    · rwa [outN_ge h1, hρ2 _ (by omega), show H.length + (k - m.length) - H.length + m.length = k by omega] at hL
  have notown : ∀ o L, o ∉ m → Live H o → ρ o = some L → ¬ (⟨w, rhoC ρ m, μ, callHeap H m, (callHeap H m).length⟩ : Ctx).own L.b := by
    intro o L hom hlo hL how
    rcases how with h1 | ⟨k, L', hk, hL', hb⟩
    · have h2 := h.rep.blk hlo hL
      simp only at h1; omega
    · obtain ⟨ob, hk⟩ := hk
      simp only [callHeap, List.getElem?_map] at hk
      cases hmk : m[k]? with
      | none => simp [hmk] at hk
      | some o' =>
        simp only [hmk, Option.map_some, Option.some.injEq, Option.map_eq_some_iff] at hk
        obtain ⟨ob1, h1, _⟩ := hk
        simp only [rhoC, hmk] at hL'
        have := h.rep.distinct o o' L L' hlo ⟨ob1, hget_some h1⟩ hL hL' hb.symm
        subst this
        exact hom (List.mem_of_getElem? hmk)
  have ownC : ∀ b, (⟨w, rhoC ρ m, μ, callHeap H m, (callHeap H m).length⟩ : Ctx).own b → C.own b := by
    intro b how
    rcases how with h1 | ⟨k, L', hk, hL', hb⟩
    · have := h.keep.size; simp only at h1; exact .inl (by omega)
    · obtain ⟨ob, hk⟩ := hk
      simp only [callHeap, List.getElem?_map] at hk
      cases hmk : m[k]? with
      | none => simp [hmk] at hk
      | some o' =>
        simp only [hmk, Option.map_some, Option.some.injEq, Option.map_eq_some_iff] at hk
        obtain ⟨ob1, h1, _⟩ := hk
        simp only [rhoC, hmk] at hL'
        rw [← hb]
        exact h.keep.own o' L' ⟨ob1, hget_some h1⟩ hL'
  refine ⟨ρ', hle, hout, hc.keep.mu, ⟨⟨fun o ho => ?_, fun o ob ho => ?_, fun a b L L' ha hb hL hL' hbb => ?_, hc.rep.mem, fun o L x ho hL => ?_⟩, ⟨?_, fun o ho => ?_, h.keep.mu.trans hc.keep.mu, ?_, hc.keep.os.trans h.keep.os, hc.keep.tape.trans h.keep.tape, hc.keep.output.trans h.keep.output, fun b hb => ?_, fun o L ho hL => ?_, fun b x hb => ?_⟩⟩⟩
  · rw [hlen] at ho
    rw [hρ2 o (by omega)]
    exact hc.rep.dom _ (by omega)
  · rcases lk o ob ho with ⟨h1, h2⟩ | ⟨k, ob1, h1, rfl, rfl⟩
    · rcases h.rep.obj o ob h2 with ⟨L, cs, hat⟩ | ⟨hn0, hz⟩
      · exact .inl ⟨L, cs, hat.cont hle hc.keep.mu (hc.keep.block _ (notown o L h1 ⟨ob, h2⟩ hat.loc))⟩
      · refine .inr ⟨?_, hz⟩
        rw [hρ1 o (List.getElem?_eq_some_iff.1 h2).1]; exact hn0
    · rcases hc.rep.obj k ob1 h1 with ⟨L, cs, hat⟩ | ⟨hn0, hz⟩
      · exact .inl ⟨L, cs, hat.ren (fun o o' L hg hL => by injection hg with hg; subst hg; exact hout o L hL) (hout k L hat.loc)⟩
      · refine .inr ⟨?_, by simpa [Ob.ren, Cont.ren_n] using hz⟩
        cases hq : ρ' (outN H.length m k) with
        | none => rfl
        | some L => rw [back k L ⟨ob1, h1⟩ hq] at hn0; cases hn0
  · rcases lv a ha with ⟨h1, h2⟩ | ⟨k, h1, rfl⟩ <;> rcases lv b hb with ⟨h1', h2'⟩ | ⟨k', h1', rfl⟩
    · rw [hρ1 a (live_lt h2)] at hL
      rw [hρ1 b (live_lt h2')] at hL'
      exact h.rep.distinct a b L L' h2 h2' hL hL' hbb
    · rw [hρ1 a (live_lt h2)] at hL
      exact absurd (by rw [hbb]; exact hc.keep.own k' L' h1' (back k' L' h1' hL')) (notown a L h1 h2 hL)
    · rw [hρ1 b (live_lt h2')] at hL'
      exact absurd (by rw [← hbb]; exact hc.keep.own k L h1 (back k L h1 hL)) (notown b L' h1' h2' hL')
    · rw [hc.rep.distinct k k' L L' h1 h1' (back k L h1 hL) (back k' L' h1' hL') hbb]
  · rcases lv o ho with ⟨h1, h2⟩ | ⟨k, h1, rfl⟩
    · rw [hρ1 o (live_lt h2)] at hL
      rw [hc.keep.muo _ x (notown o L h1 h2 hL)]
      exact h.rep.sep o L x h2 hL
    · exact hc.rep.sep k L x h1 (back k L h1 hL)
  · rw [hlen]; have := h.keep.hl; omega
  · rw [hρ1 o (by have := h.keep.hl; omega)]; exact h.keep.rho o ho
  · have h1 := h.keep.size; have h2 := hc.keep.size; simp only at h2; omega
  · rw [hc.keep.block b (fun h1 => hb (ownC b h1))]; exact h.keep.block b hb
  · rcases lv o ho with ⟨h1, h2⟩ | ⟨k, h1, rfl⟩
    · rw [hρ1 o (live_lt h2)] at hL
      exact h.keep.own o L h2 hL
    · exact ownC _ (hc.keep.own k L h1 (back k L h1 hL))
  · rw [hc.keep.muo b x (fun h1 => hb (ownC b h1))]; exact h.keep.muo b x hb

variable {f : FuncId} {C : Ctx} {Q : Md} {k : List Item}
/-- A call of a Go function, by its contract. m: the objects that it may write. -/
theorem V.call {ops : Array Oper} {i : Nat} {rest : List Nat} {o : Oper} (ho : ops[i]? = some o) (hw : awant ops s o.guard = .yes) (hd : dstOk N o.dst = true)
    {fo : Operand} {args : Array Operand} {ts : Array TypeId} (hop : o.op = .call ⟨.value fo, args, ts⟩) {g : FuncId} {first cap : List AV} (hf : aeval s fo = .fn (.func g) first cap)
    {fn : Func} (hg : P.funcs[g]? = some fn) (hb : fn.body.isNone = false) (hnm : (fn.name == "runtime.NumGoroutine") = false) (m : List Nat) (hn : m.Nodup) (hm : ∀ o ∈ m, o < H.length)
    {xs : List AV} (hxs : xs = (first ++ args.toList.map (aeval s) ++ cap).map (AV.ren (inv m))) {Hc : Hp} (hHc : Hc = callHeap H m)
    {Qc : AV → Hp → Prop} (spec : FSpec P g xs Hc Qc)
    (cont : ∀ r Hc', Qc r Hc' → V P f N C Q (.inRegion ops rest :: k) (putS s o.dst (r.ren fun k => some (outN H.length m k))) (merge H m Hc')) :
    V P f N C Q (.inRegion ops (i :: rest) :: k) s H := by
  subst hxs hHc
  refine V.callOp (g := g) ho hw hd fun ρ μ a w hs hst => ?_
  have h2 := aeval_rel hs fo
  rw [hf] at h2
  generalize hv : a.eval fo = v at h2
  cases h2 with
  | fn _ _ _ _ _ us vs hl hl' hr hr' =>
    have hargs := amap_rel hs args.toList
    refine ⟨us ++ args.map a.eval ++ vs, ?_, ?_⟩
    · have hnm' : ¬ fn.name = "runtime.NumGoroutine" := by simpa using hnm
      have hb' : ¬ fn.body = none := by intro e; rw [e] at hb; cases hb
      simp [execOp, hop, resolve, hv, Deferred.ofValue, invoke, callFunc, hg, hb', hnm']
    · refine (spec (rhoC ρ m) μ w _ (by simp [hl, hl']) (fun j hj => ?_) (hst.rep.callee m hn)).mono ?_
      · have hj' : j < first.length + args.size + cap.length := by simpa [Nat.add_assoc] using hj
        have key : ∃ y u, ((first ++ args.toList.map (aeval s) ++ cap).map (AV.ren (inv m))).getD j .top = y.ren (inv m) ∧ (us ++ args.map a.eval ++ vs).getD j undef = u ∧ RelV ρ μ y u := by
          have e0 : ∀ q : List AV, (q.map (AV.ren (inv m))).getD j .top = (q.getD j .top).ren (inv m) := fun q => by
            simp only [List.getD_eq_getElem?_getD, List.getElem?_map]
            cases q[j]? <;> simp [AV.ren]
          refine ⟨_, _, e0 _, rfl, ?_⟩
          simp only [List.getD_eq_getElem?_getD, Array.getD_eq_getD_getElem?, List.append_assoc, Array.append_assoc]
          by_cases h1 : j < first.length
          · rw [List.getElem?_append_left h1, Array.getElem?_append_left (by omega)]
            simpa [List.getD_eq_getElem?_getD] using hr j h1
          · rw [List.getElem?_append_right (by omega), Array.getElem?_append_right (by omega), hl]
            by_cases h3 : j - first.length < args.size
            · rw [List.getElem?_append_left (by simpa using h3), Array.getElem?_append_left (by simpa using h3)]
              have := hargs (j - first.length) (by simpa using h3)
              simpa [List.getD_eq_getElem?_getD] using this
            · rw [List.getElem?_append_right (by simp; omega), Array.getElem?_append_right (by simp; omega)]
              have := hr' (j - first.length - args.size) (by omega)
              simpa [List.getD_eq_getElem?_getD] using this
        obtain ⟨y, u, e1, e2, e3⟩ := key
        rw [e1, e2]
        exact e3.ren fun o o' L hg hL => by simp [rhoC, inv_some hg, hL]
      · rintro e w' ⟨v, r, Hc', ρc, μ', rfl, hq, hrel, hstc⟩
        obtain ⟨ρ', g1, g2, g3, g4⟩ := hst.merge m hn hm hstc
        exact ⟨v, _, s, _, ρ', μ', rfl, hrel.ren (fun o o' L hg hL => by injection hg with hg; subst hg; exact g2 o L hL), hs.mono g1 g3, g4, cont r Hc' hq⟩
end
end Vx


namespace Vx
open Go

/-! ## Regions that draw their order -/
/-! ### What an operation looks at -/
section
variable {P : Program} {T : Tab} {O : Ops} {N : Nat} {s s' : Slots} {H : Hp}

theorem aop_congr {op : Op} (h : ∀ x ∈ op.operands, aeval s x = aeval s' x) : aop T O s H op = aop T O s' H op := by
  cases op <;> simp only [aop, Op.operands, List.mem_toArray, Array.mem_append, Array.mem_toList_iff] at h ⊢
  case move x => rw [h x (by simp)]
  case assign x => rw [h x (by simp)]
  case box t x => rw [h x (by simp)]
  case load t x => rw [h x (by simp)]
  case nilCheck x => rw [h x (by simp)]
  case unOp op t x => rw [h x (by simp)]
  case makeInterface t x => rw [h x (by simp)]
  case typeAssert x xt t ok => rw [h x (by simp)]
  case index t a b => rw [h a (by simp), h b (by simp)]
  case convert a b x => rw [h x (by simp)]
  case fieldAddr t x j => rw [h x (by simp)]
  case field t x j => rw [h x (by simp)]
  case extract x j => rw [h x (by simp)]
  case pick a b c => rw [h a (by simp), h b (by simp), h c (by simp)]
  case store t a b => rw [h a (by simp), h b (by simp)]
  case binOp op t a b t' => rw [h a (by simp), h b (by simp)]
  case makeSlice t a b => rw [h a (by simp), h b (by simp)]
  case indexAddr t a b => rw [h a (by simp), h b (by simp)]
  case build t ps =>
    congr 1
    refine List.map_congr_left fun p hp => ?_
    rw [h p.2 (List.mem_map.2 ⟨p, hp, rfl⟩)]
  case buildSlice t n ps =>
    congr 1
    refine List.map_congr_left fun p hp => ?_
    rw [h p.2 (List.mem_map.2 ⟨p, hp, rfl⟩)]
  case makeFunc fn xs ys =>
    congr 2
    · exact List.map_congr_left fun x hx => h x (.inl (by simpa using hx))
    · exact List.map_congr_left fun x hx => h x (.inr (by simpa using hx))
  case slice t x lo hi mx =>
    cases mx with
    | some m => rfl
    | none =>
      have e1 : lo.map (aeval s) = lo.map (aeval s') := by
        cases lo with
        | none => rfl
        | some l => simp [h l (by simp)]
      have e2 : hi.map (aeval s) = hi.map (aeval s') := by
        cases hi with
        | none => rfl
        | some l => simp [h l (by simp)]
      show aslice T O H t (aeval s x) (lo.map (aeval s)) (hi.map (aeval s)) = aslice T O H t (aeval s' x) (lo.map (aeval s')) (hi.map (aeval s'))
      rw [h x (by simp), e1, e2]
  case call c =>
    obtain ⟨cal, args, ts⟩ := c
    cases cal with
    | value f => rfl
    | invoke r m => rfl
    | builtin b =>
      simp only [Call.operands, Array.mem_append] at h
      have ha : args.toList.map (aeval s) = args.toList.map (aeval s') := List.map_congr_left fun x hx => h x (.inr (by simpa using hx))
      simp only [aop, abuiltin]
      cases b <;> simp only
      · split
        · rename_i x y t t' e1 e2
          have := fun x hx => h x (.inr (by rw [← Array.mem_toList_iff]; exact hx))
          rw [e1] at this
          rw [this x (by simp), this y (by simp)]
        · rfl
      · split
        · rename_i x y t t' e1 e2
          have := fun x hx => h x (.inr (by rw [← Array.mem_toList_iff]; exact hx))
          rw [e1] at this
          rw [this x (by simp), this y (by simp)]
        · rfl
      · split
        · rename_i x t e1 e2
          have := fun x hx => h x (.inr (by rw [← Array.mem_toList_iff]; exact hx))
          rw [e1] at this
          rw [this x (by simp)]
        · rfl
      · rw [ha]
      · rw [ha]

/-! ### Which operations only read -/
def Out.onH : Out → Hp → Out
  | .ok v _, H => .ok v H
  | .need p o, H => .need p (o.onH H)
  | .stop, _ => .stop
theorem Out.is_onH : ∀ {o : Out} {H1 H2 : Hp} {r : AV} {H' : Hp}, o.is r H' → (o.onH H2).is r H2
  | .ok v _, _, _, _, _, h => ⟨h.1, rfl⟩
  | .need p o, H1, H2, r, H', h => ⟨h.1, Out.is_onH (o := o) (H1 := H1) h.2⟩
  | .stop, _, _, _, _, h => h.elim
theorem Out.is_self : ∀ {o : Out} {H : Hp} {r : AV} {H' : Hp}, o.onH H = o → o.is r H' → H' = H
  | .ok v H1, H, _, _, e, h => by simp only [Out.onH] at e; injection e with _ e; exact h.2.symm.trans e.symm
  | .need p o, H, r, H', e, h => by simp only [Out.onH] at e; injection e with _ e; exact Out.is_self e h.2
  | .stop, _, _, _, _, h => h.elim

def Ext (H H2 : Hp) : Prop := ∀ o ob, hget H o = some ob → hget H2 o = some ob
theorem Ext.refl (H : Hp) : Ext H H := fun _ _ h => h
/-- It reads the heap, at most. -/
def Rd (f : Hp → Out) : Prop := ∀ H H2, Ext H H2 → f H = .stop ∨ f H2 = (f H).onH H2
def Pu (f : Hp → Out) : Prop := ∀ H H2, f H2 = (f H).onH H2
theorem Pu.rd {f : Hp → Out} (h : Pu f) : Rd f := fun H H2 _ => .inr (h H H2)
theorem Rd.self {f : Hp → Out} (h : Rd f) {r : AV} {H' : Hp} (hr : (f H).is r H') : H' = H := by
  rcases h H H (Ext.refl H) with e | e
  · rw [e] at hr; exact hr.elim
  · exact Out.is_self e.symm hr
theorem Rd.on {f : Hp → Out} (h : Rd f) {r : AV} {H' : Hp} (hr : (f H).is r H') {H2 : Hp} (he : Ext H H2) : (f H2).is r H2 := by
  rcases h H H2 he with e | e
  · rw [e] at hr; exact hr.elim
  · rw [e]; exact Out.is_onH (H1 := H) hr
theorem Pu.on {f : Hp → Out} (h : Pu f) {r : AV} {H' : Hp} (hr : (f H).is r H') (H2 : Hp) : (f H2).is r H2 := by
  rw [h H H2]; exact Out.is_onH (H1 := H) hr

theorem part_on {ag : Bool} {size off : Nat} {l : List AV} {k : AV → Hp → Out} (hk : ∀ v H H2, k v H2 = (k v H).onH H2) (H H2 : Hp) : (part ag size off l fun v => k v H2) = (part ag size off l fun v => k v H).onH H2 := by
  unfold part
  repeat' split
  all_goals first | exact hk .. | rfl
theorem orow_on {c : Cont} {i : Nat} {k : List AV → Hp → Out} (hk : ∀ v H H2, k v H2 = (k v H).onH H2) (H H2 : Hp) : (orow O c i fun v => k v H2) = (orow O c i fun v => k v H).onH H2 := by
  unfold orow
  repeat' split
  all_goals first | exact hk .. | rfl | (simp only [Out.onH]; rw [hk _ H H2])
theorem abounds_on {n : Nat} {lo hi : Option AV} {k : Option Nat → Nat → Hp → Out} (hk : ∀ l m H H2, k l m H2 = (k l m H).onH H2) (H H2 : Hp) : (abounds O n lo hi fun l m => k l m H2) = (abounds O n lo hi fun l m => k l m H).onH H2 := by
  unfold abounds
  split <;> first | exact hk .. | rfl | (simp only [Out.onH]; rw [hk _ _ H H2])

theorem load_rd' {t : Nat} {p : AV} {H H2 : Hp} (he : ∀ o i f ob, p = .ptr o i f → hget H o = some ob → hget H2 o = some ob) : aload T O H t p = .stop ∨ aload T O H2 t p = (aload T O H t p).onH H2 := by
  simp only [aload]
  cases tab T t with
  | none => exact .inl rfl
  | some ti =>
    cases p <;> try exact .inl rfl
    case ref cs => exact .inr (part_on (k := fun v H => .ok v H) (fun _ _ _ => rfl) H H2)
    case ptr o i off =>
      simp only
      cases hq : hget H o with
      | none => exact .inl rfl
      | some ob =>
        rw [he o i off ob rfl hq]
        exact .inr (orow_on (k := fun l H => part ti.d.isAgg ti.size off l fun v => .ok v H) (fun l H H2 => part_on (k := fun v H => .ok v H) (fun _ _ _ => rfl) H H2) H H2)
theorem load_rd {t : Nat} {p : AV} : Rd fun H => aload T O H t p := fun H H2 he => load_rd' fun o _ _ ob _ h => he o ob h
theorem indexAddr_rd' {t : Nat} {p q : AV} {H H2 : Hp} (he : ∀ o i n ob, p = .sl o i n → hget H o = some ob → hget H2 o = some ob) : aindexAddr T O H t p q = .stop ∨ aindexAddr T O H2 t p q = (aindexAddr T O H t p q).onH H2 := by
  simp only [aindexAddr]
  split
  · split
    · split
      · split
        · exact .inr rfl
        · exact .inl rfl
      · rename_i o i0 n
        cases hq : hget H o with
        | none => exact .inl rfl
        | some ob =>
          rw [he o i0 n ob rfl hq]
          simp only
          split
          · exact .inr rfl
          · exact .inl rfl
      · exact .inl rfl
    · exact .inl rfl
  · right; repeat' split
    all_goals rfl
  · exact .inl rfl
theorem indexAddr_rd {t : Nat} {p q : AV} : Rd fun H => aindexAddr T O H t p q := fun H H2 he => indexAddr_rd' fun o _ _ ob _ h => he o ob h
theorem slice_rd' {t : Nat} {x : AV} {lo hi : Option AV} {H H2 : Hp} (he : ∀ o i n ob, x = .sl o i n → hget H o = some ob → hget H2 o = some ob) : aslice T O H t x lo hi = .stop ∨ aslice T O H2 t x lo hi = (aslice T O H t x lo hi).onH H2 := by
  simp only [aslice]
  split
  · rename_i e sz n f hd
    split
    · split
      · exact .inr (abounds_on (k := fun l m H => .ok (.rows sz m (shiftF O f l)) H) (fun _ _ _ _ => rfl) H H2)
      · exact .inl rfl
    · exact .inl rfl
  · rename_i e o i n hd
    cases hq : hget H o with
    | none => left; split <;> first | rfl | simp_all
    | some ob =>
      rw [he o i n ob rfl hq]
      split
      · rename_i te ob' e1 e2
        injection e2 with e2
        subst e2
        split
        · exact .inr (abounds_on (k := fun l m H => .ok (.sl o (shiftN O i l) m) H) (fun _ _ _ _ => rfl) H H2)
        · exact .inl rfl
      · exact .inl rfl
  · rename_i b hd
    exact .inr (abounds_on (k := fun l m H => .ok (.str (subS O b m l)) H) (fun _ _ _ _ => rfl) H H2)
  · exact .inl rfl
theorem slice_rd {t : Nat} {x : AV} {lo hi : Option AV} : Rd fun H => aslice T O H t x lo hi := fun H H2 he => slice_rd' fun o _ _ ob _ h => he o ob h

inductive Kd where
  | pure | read | fresh | other
  deriving DecidableEq
def kind : Op → Kd
  | .move _ | .assign _ | .pick .. | .nilCheck _ | .fieldAddr .. | .field .. | .extract .. | .makeFunc .. | .binOp .. | .unOp .. | .convert .. | .build .. | .makeInterface .. | .typeAssert .. | .index .. => .pure
  | .call ⟨.builtin .len, _, _⟩ | .call ⟨.builtin .max, _, _⟩ | .call ⟨.builtin .min, _, _⟩ => .pure
  | .load .. | .indexAddr .. | .slice .. => .read
  | .alloc _ | .box .. | .buildSlice .. | .makeSlice .. => .fresh
  | _ => .other

theorem part_pu {ag : Bool} {size off : Nat} {l : List AV} : Pu fun H => part ag size off l fun v => .ok v H := fun H H2 => part_on (k := fun v H => .ok v H) (fun _ _ _ => rfl) H H2
theorem kind_pure {op : Op} (h : kind op = .pure) : Pu fun H => aop T O s H op := by
  intro H H2
  cases op <;> try (exact Kd.noConfusion h)
  case move => rfl
  case assign => rfl
  case pick => simp only [aop, apick]; repeat' split
               all_goals rfl
  case nilCheck => simp only [aop, anilCheck]; repeat' split
                   all_goals rfl
  case fieldAddr => simp only [aop, afieldAddr]; repeat' split
                    all_goals rfl
  case field =>
    simp only [aop, afield]
    split
    · split
      · split
        · exact part_pu H H2
        · rfl
      · rfl
    · rfl
  case extract => simp only [aop, aextract]; repeat' split
                  all_goals rfl
  case makeFunc => rfl
  case binOp op t x y q =>
    simp only [aop, abinOp, abinInt, abinAgg]
    repeat' split
    all_goals rfl
  case unOp => simp only [aop, aunOp]; repeat' split
               all_goals rfl
  case convert => simp only [aop, aconvert]; repeat' split
                  all_goals rfl
  case build => simp only [aop, ablit]; repeat' split
                all_goals rfl
  case makeInterface => simp only [aop, amakeIface]; repeat' split
                        all_goals rfl
  case typeAssert => simp only [aop, atypeAssert]; repeat' split
                     all_goals rfl
  case index =>
    simp only [aop, aindex]
    repeat' split
    all_goals first | rfl | exact part_pu H H2
  case call c =>
    obtain ⟨cal, args, ts⟩ := c
    cases cal with
    | value f => exact Kd.noConfusion h
    | invoke r m => exact Kd.noConfusion h
    | builtin b =>
      cases b <;> try (exact Kd.noConfusion h)
      · simp only [aop, abuiltin, alen]; repeat' split
        all_goals rfl
      · simp only [aop, abuiltin, amaxmin]; repeat' split
        all_goals rfl
      · simp only [aop, abuiltin, amaxmin]; repeat' split
        all_goals rfl
theorem kind_read {op : Op} (h : kind op = .read) : Rd fun H => aop T O s H op := by
  cases op <;> try (exact Kd.noConfusion h)
  case load => exact load_rd
  case indexAddr => exact indexAddr_rd
  case slice t x lo hi mx =>
    cases mx with
    | none => exact slice_rd
    | some m => exact fun _ _ _ => .inl rfl
  case call c =>
    obtain ⟨cal, args, ts⟩ := c
    cases cal with
    | value f => exact Kd.noConfusion h
    | invoke r m => exact Kd.noConfusion h
    | builtin b => cases b <;> exact Kd.noConfusion h

theorem hget_eq : ∀ (H : Hp) (o : Nat), hget H o = (H[o]?).getD none
  | [], o => by simp [hget]
  | x :: r, 0 => by simp [hget]
  | x :: r, o + 1 => by simpa [hget] using hget_eq r o
theorem ext_app (H : Hp) (x : Option Ob) : Ext H (app H x) := by
  intro o ob h
  rw [hget_eq] at h ⊢
  rw [app_eq]
  have hlt : o < H.length := by
    rcases Nat.lt_or_ge o H.length with h1 | h1
    · exact h1
    · rw [List.getElem?_eq_none h1] at h; cases h
  rw [List.getElem?_append_left hlt]
  exact h
theorem kind_fresh {op : Op} (h : kind op = .fresh) {r : AV} {H' : Hp} (hr : (aop T O s H op).is r H') : Ext H H' := by
  cases op <;> try (exact Kd.noConfusion h)
  case alloc => simp only [aop, aalloc] at hr; split at hr; · (rw [← hr.2]; exact ext_app _ _)
                · exact hr.elim
  case box => simp only [aop, abox] at hr; split at hr; · (rw [← hr.2]; exact ext_app _ _)
              · exact hr.elim
  case buildSlice =>
    simp only [aop, abuildSlice] at hr
    split at hr
    · split at hr
      · split at hr
        · rw [← hr.2]; exact ext_app _ _
        · exact hr.elim
      · exact hr.elim
    · exact hr.elim
  case makeSlice =>
    simp only [aop, amakeSlice] at hr
    split at hr
    · split at hr
      · rw [← hr.2.2.2]; exact ext_app _ _
      · exact hr.elim
    · exact hr.elim
  case call c =>
    obtain ⟨cal, args, ts⟩ := c
    cases cal with
    | value f => exact Kd.noConfusion h
    | invoke r m => exact Kd.noConfusion h
    | builtin b => cases b <;> exact Kd.noConfusion h

/-- What kind of object is read. -/
def objE (H : Hp) : AV → Option Nat
  | .ptr o _ _ => match hget H o with | some ob => some ob.e | none => none
  | .sl o _ _ => match hget H o with | some ob => some ob.e | none => none
  | _ => none
def rdObj (H : Hp) (s : Slots) : Op → Option Nat
  | .load _ x => objE H (aeval s x)
  | .indexAddr _ x _ => objE H (aeval s x)
  | .slice _ x _ _ _ => objE H (aeval s x)
  | _ => none
def ExtE (e : Nat) (H H2 : Hp) : Prop := ∀ o ob, hget H o = some ob → ob.e = e → hget H2 o = some ob
def XE : Option Nat → Hp → Hp → Prop
  | none => Ext
  | some e => ExtE e
theorem XE.refl (e : Option Nat) (H : Hp) : XE e H H := by cases e <;> intro o ob h <;> first | exact h | exact fun _ => h
theorem XE.trans {e : Option Nat} {H1 H2 H3 : Hp} (h : XE e H1 H2) (k : XE e H2 H3) : XE e H1 H3 := by
  cases e with
  | none => exact fun o ob q => k o ob (h o ob q)
  | some e => exact fun o ob q he => k o ob (h o ob q he) he
theorem Ext.xe {H H2 : Hp} (h : Ext H H2) (e : Option Nat) : XE e H H2 := by
  cases e with
  | none => exact h
  | some e => exact fun o ob q _ => h o ob q

/-- A reading by what it reads. -/
theorem kind_readE {op : Op} (h : kind op = .read) {e : Option Nat} (hE : ∀ e0, e = some e0 → ∀ e', rdObj H s op = some e' → e' = e0) {r : AV} {H' : Hp} (hr : (aop T O s H op).is r H') {H2 : Hp} (hx : XE e H H2) : (aop T O s H2 op).is r H2 := by
  have key : ∀ (x : AV) (o : Nat) (ob : Ob), (x = .ptr o (0 : Nat) 0 ∨ True) → (objE H x = some ob.e) → (∀ e0, e = some e0 → ∀ e', objE H x = some e' → e' = e0) → hget H o = some ob → hget H2 o = some ob := by
    intro x o ob _ h1 h2 h3
    cases e with
    | none => exact hx o ob h3
    | some e0 => exact hx o ob h3 (h2 e0 rfl ob.e h1)
  have fin : ∀ {f : Hp → Out}, (f H = .stop ∨ f H2 = (f H).onH H2) → (f H).is r H' → (f H2).is r H2 := by
    intro f hf hr
    rcases hf with e1 | e1
    · rw [e1] at hr; exact hr.elim
    · rw [e1]; exact Out.is_onH (H1 := H) hr
  cases op <;> try (exact Kd.noConfusion h)
  case load t x =>
    refine fin (f := fun H => aload T O H t (aeval s x)) (load_rd' fun o i f ob hp hq => ?_) hr
    have e1 : objE H (aeval s x) = some ob.e := by rw [hp]; simp [objE, hq]
    exact key _ o ob (.inr trivial) e1 hE hq
  case indexAddr t x y =>
    refine fin (f := fun H => aindexAddr T O H t (aeval s x) (aeval s y)) (indexAddr_rd' fun o i n ob hp hq => ?_) hr
    have e1 : objE H (aeval s x) = some ob.e := by rw [hp]; simp [objE, hq]
    exact key _ o ob (.inr trivial) e1 hE hq
  case slice t x lo hi mx =>
    cases mx with
    | none =>
      refine fin (f := fun H => aslice T O H t (aeval s x) (lo.map (aeval s)) (hi.map (aeval s))) (slice_rd' fun o i n ob hp hq => ?_) hr
      have e1 : objE H (aeval s x) = some ob.e := by rw [hp]; simp [objE, hq]
      exact key _ o ob (.inr trivial) e1 hE hq
    | some m => exact hr.elim
  case call c =>
    obtain ⟨cal, args, ts⟩ := c
    cases cal with
    | value f => exact Kd.noConfusion h
    | invoke r m => exact Kd.noConfusion h
    | builtin b => cases b <;> exact Kd.noConfusion h

/-- Of which elements an append's slice is. -/
def appE (T : Tab) : Op → Option Nat
  | .call ⟨.builtin .append, _, ts⟩ => match ts.toList with
    | t :: _ => match tdOf T t with | some (.slice e) => some e | _ => none
    | [] => none
  | _ => none
theorem asrc_app {sz : Nat} {x : AV} {k : Nat → (Nat → List AV) → Out} {K : AV → Hp → Prop} (h : (asrc O H sz x k).sat K) : ∃ m g, (k m g).sat K := by
  unfold asrc at h
  repeat' split at h
  all_goals first | exact ⟨_, _, h⟩ | exact h.elim | exact ⟨_, _, h.2⟩
theorem hget_setO {o o' : Nat} {x : Option Ob} (hne : o' ≠ o) : hget (setO H o x) o' = hget H o' := by
  rw [hget_eq, hget_eq, setO_eq, List.getElem?_set_ne (Ne.symm hne)]
theorem append_ext {op : Op} {ek : Nat} (h : appE T op = some ek) {r : AV} {H' : Hp} (hr : (aop T O s H op).is r H') {e : Nat} (hne : e ≠ ek) : ExtE e H H' := by
  cases op
  all_goals try (exact (Option.some_ne_none ek (show (none : Option Nat) = some ek from h).symm).elim)
  rename_i c
  obtain ⟨cal, args, ts⟩ := c
  cases cal with
  | value f => exact (Option.some_ne_none ek (show (none : Option Nat) = some ek from h).symm).elim
  | invoke r m => exact (Option.some_ne_none ek (show (none : Option Nat) = some ek from h).symm).elim
  | builtin b =>
    cases b <;> try (exact (Option.some_ne_none ek (show (none : Option Nat) = some ek from h).symm).elim)
    simp only [aop, abuiltin] at hr
    split at hr
    case h_2 => exact hr.elim
    rename_i x y t t' ha ht
    split at hr
    case h_2 => exact hr.elim
    simp only [appE, ht] at h
    unfold aappend at hr
    cases htd : tdOf T t with
    | none => rw [htd] at hr; exact hr.elim
    | some td =>
      rw [htd] at hr h
      cases td <;> try (exact hr.elim)
      rename_i e1
      simp only at hr h
      injection h with h
      subst h
      cases hte : tab T e1 with
      | none => rw [hte] at hr; exact hr.elim
      | some te =>
        rw [hte] at hr
        obtain ⟨m, g, hr⟩ := asrc_app hr
        split at hr
        · obtain ⟨_, _, rfl⟩ := hr
          exact fun o ob q _ => ext_app _ _ o ob q
        · rename_i o n hx
          cases hob : hget H o with
          | none => rw [hob] at hr; exact hr.elim
          | some ob =>
            rw [hob] at hr
            simp only at hr
            split at hr
            case h_2 => exact hr.elim
            rename_i hb1 hb2
            have he1 := Nat.eq_of_beq_eq_true hb2
            have fin : ∀ z, ExtE e H (app (setO H o none) z) := by
              intro z o' ob' q he'
              refine ext_app _ _ o' ob' ?_
              rw [hget_setO]
              · exact q
              · intro e2
                subst e2
                rw [hob] at q
                injection q with q
                subst q
                exact hne (he'.symm.trans he1.symm)
            split at hr
            · split at hr
              · obtain ⟨_, _, rfl⟩ := hr; exact fin _
              · exact hr.elim
            · obtain ⟨_, _, _, rfl⟩ := hr; exact fin _
        · exact hr.elim
end
end Vx

namespace Vx
open Go

/-! ## Regions that draw their order, 2: any order does what one order does -/
def one (r0 : AV) (H0 : Hp) : AV → Hp → Prop := fun r H' => r = r0 ∧ H' = H0
def dstOf (ops : Array Oper) (i : Nat) : Option Tmp := (ops[i]?).bind (·.dst)

def CallAt (P : Program) (o : Oper) (s : Slots) (H : Hp) (R : AV → Hp → Prop) : Prop :=
  ∃ (fo : Operand) (args : Array Operand) (ts : Array TypeId) (g : FuncId) (first cap : List AV) (fn : Func) (m : List Nat) (Qc : AV → Hp → Prop),
    o.op = .call ⟨.value fo, args, ts⟩ ∧ aeval s fo = .fn (.func g) first cap ∧ P.funcs[g]? = some fn ∧ fn.body.isNone = false ∧ (fn.name == "runtime.NumGoroutine") = false ∧ m.Nodup ∧ (∀ x ∈ m, x < H.length) ∧
    FSpec P g ((first ++ args.toList.map (aeval s) ++ cap).map (AV.ren (inv m))) (callHeap H m) Qc ∧ ∀ r Hc, Qc r Hc → R (r.ren fun k => some (outN H.length m k)) (merge H m Hc)

def Runs (P : Program) (T : Tab) (N : Nat) (ops : Array Oper) (i : Nat) (s : Slots) (H : Hp) (R : AV → Hp → Prop) : Prop :=
  ∃ o, ops[i]? = some o ∧ dstOk N o.dst = true ∧
    ((awant ops s o.guard = .no ∧ R = one (.tup []) H) ∨ (awant ops s o.guard = .yes ∧ ((∃ r0 H0, (aop T std s H o.op).is r0 H0 ∧ R = one r0 H0) ∨ CallAt P o s H R)))

def kindAt (ops : Array Oper) (i : Nat) : Option Kd := (ops[i]?).map fun o => kind o.op
def appNe (T : Tab) (op : Op) : Option Nat → Bool
  | none => false
  | some e => match appE T op with | some ek => !(Nat.beq e ek) | none => false
/-- Which operations wait for number j, if through others. -/
def waitStep (ops : Array Oper) (j : Nat) (ws : Array Bool) (k : Nat) : Array Bool :=
  ws.push (match ops[k]? with | some ok => ok.after.any fun e => Region.binds .any e && (e.on == j || ws.getD e.on false) | none => false)
def waitSet (ops : Array Oper) (j : Nat) : Array Bool := (List.range ops.size).foldl (waitStep ops j) #[]
inductive Reach (ops : Array Oper) (j : Nat) : Nat → Prop
  | step {k : Nat} {ok : Oper} {e : Edge} (hk : ops[k]? = some ok) (he : e ∈ ok.after) (hb : Region.binds .any e = true) (h : e.on = j) : Reach ops j k
  | more {k : Nat} {ok : Oper} {e : Edge} (hk : ops[k]? = some ok) (he : e ∈ ok.after) (hb : Region.binds .any e = true) (h : Reach ops j e.on) : Reach ops j k
theorem waitSet_spec {ops : Array Oper} {j : Nat} : ∀ (n : Nat), ((List.range n).foldl (waitStep ops j) #[]).size = n ∧ ∀ k, ((List.range n).foldl (waitStep ops j) #[]).getD k false = true → Reach ops j k
  | 0 => ⟨rfl, fun k h => by simp at h⟩
  | n + 1 => by
    obtain ⟨h1, h2⟩ := waitSet_spec (ops := ops) (j := j) n
    rw [List.range_succ, List.foldl_append]
    simp only [List.foldl_cons, List.foldl_nil]
    generalize (List.range n).foldl (waitStep ops j) #[] = ws at h1 h2
    refine ⟨by simp [waitStep, h1], fun k h => ?_⟩
    simp only [waitStep, Array.getD_eq_getD_getElem?, Array.getElem?_push] at h
    split at h
    · rename_i hk
      simp only [Option.getD_some] at h
      split at h
      · rename_i ok hok
        obtain ⟨e, he, hb⟩ := Array.any_eq_true'.1 h
        simp only [Bool.and_eq_true, Bool.or_eq_true, beq_iff_eq] at hb
        rw [hk, h1]
        rcases hb.2 with h3 | h3
        · exact .step hok he hb.1 h3
        · exact .more hok he hb.1 (h2 _ (by simpa [Array.getD_eq_getD_getElem?] using h3))
      · cases h
    · exact h2 k (by simpa [Array.getD_eq_getD_getElem?] using h)
def firstB (T : Tab) (ops : Array Oper) (listed : Array Bool) (j : Nat) (e : Option Nat) : Bool :=
  match ops[j]? with
  | none => false
  | some oj => (decide (kind oj.op = .pure) || decide (kind oj.op = .read)) && (List.range ops.size).all fun k => k == j || listed.getD k true || match ops[k]? with
      | some ok => (waitSet ops j).getD k false || (oj.apart ops ok && (decide (kind oj.op = .pure) || decide (kind ok.op ≠ .other) || appNe T ok.op e))
      | none => true

section
variable {P : Program} {T : Tab} {N : Nat} {ops : Array Oper} {s s' : Slots} {H : Hp}

theorem firstB_spec {listed : Array Bool} {j : Nat} {e : Option Nat} {oj : Oper} (hj : ops[j]? = some oj) (h : firstB T ops listed j e = true) :
    (kind oj.op = .pure ∨ kind oj.op = .read) ∧ ∀ (k : Nat) (ok : Oper), ops[k]? = some ok → k ≠ j → listed.getD k true = false → ¬ Reach ops j k → oj.apart ops ok = true ∧ (kind oj.op = .pure ∨ kind ok.op ≠ .other ∨ appNe T ok.op e = true) := by
  simp only [firstB, hj, Bool.and_eq_true, Bool.or_eq_true, decide_eq_true_eq] at h
  refine ⟨h.1, fun k ok hk hne hun hno => ?_⟩
  have h1 := List.all_eq_true.1 h.2 k (List.mem_range.2 (Array.getElem?_eq_some_iff.1 hk).1)
  simp only [hk, Bool.or_eq_true, beq_iff_eq, hne, false_or, hun, Bool.false_eq_true, Bool.and_eq_true, decide_eq_true_eq] at h1
  rcases h1 with h1 | h1
  · exact absurd ((waitSet_spec ops.size).2 k h1) hno
  · exact ⟨h1.1, by rcases h1.2 with (h2 | h2) | h2; exact .inl h2; exact .inr (.inl h2); exact .inr (.inr h2)⟩
theorem getD_set_t {listed : Array Bool} {i k : Nat} (h : listed.getD k true = true) : (listed.setIfInBounds i true).getD k true = true := by
  rw [Array.getD_eq_getD_getElem?] at h ⊢
  rw [Array.getElem?_setIfInBounds]
  split
  · split <;> simp
  · exact h
theorem firstB_mono {listed : Array Bool} {i j : Nat} {e : Option Nat} (h : firstB T ops listed j e = true) : firstB T ops (listed.setIfInBounds i true) j e = true := by
  unfold firstB at *
  split
  · rename_i e; simp [e] at h
  · rename_i oj e
    simp only [e, Bool.and_eq_true] at h ⊢
    refine ⟨h.1, List.all_eq_true.2 fun k hk => ?_⟩
    have h1 := List.all_eq_true.1 h.2 k hk
    simp only [Bool.or_eq_true] at h1 ⊢
    rcases h1 with (h1 | h1) | h1
    · exact .inl (.inl h1)
    · exact .inl (.inr (getD_set_t h1))
    · exact .inr h1

theorem awant_congr {o : Oper} (h : ∀ t ∈ o.looksAt ops, look s t = look s' t) : awant ops s o.guard = awant ops s' o.guard := by
  unfold awant
  cases hg : o.guard with
  | none => rfl
  | some p =>
    obtain ⟨j, want⟩ := p
    simp only
    cases hj : (ops[j]?).bind (·.dst) with
    | none => rfl
    | some d =>
      have : look s d = look s' d := h d (by simp [Oper.looksAt, hg, hj])
      simp only [this]
theorem aeval_congr {o : Oper} (h : ∀ t ∈ o.looksAt ops, look s t = look s' t) : ∀ x ∈ o.op.operands, aeval s x = aeval s' x := by
  intro x hx
  cases x with
  | tmp t =>
    refine h t ?_
    simp only [Oper.looksAt, List.mem_append, List.mem_filterMap]
    exact .inl ⟨_, by simpa using hx, rfl⟩
  | _ => rfl

theorem Runs.congr {i : Nat} {o : Oper} (hi : ops[i]? = some o) {R : AV → Hp → Prop} (hr : Runs P T N ops i s H R) (h : ∀ t ∈ o.looksAt ops, look s t = look s' t) : Runs P T N ops i s' H R := by
  obtain ⟨o', ho', hd, h1⟩ := hr
  obtain rfl : o' = o := Option.some.inj (ho'.symm.trans hi)
  refine ⟨o', hi, hd, ?_⟩
  rw [← awant_congr h]
  rcases h1 with h1 | ⟨hw, h1⟩
  · exact .inl h1
  · refine .inr ⟨hw, ?_⟩
    rcases h1 with ⟨r0, H0, hr, e⟩ | ⟨fo, args, ts, g, first, cap, fn, m, Qc, hop, h2, h3, h4, h5, h6, h7, h8, h9⟩
    · exact .inl ⟨r0, H0, by rw [← aop_congr (aeval_congr h)]; exact hr, e⟩
    · have hc := aeval_congr h
      rw [hop] at hc
      simp only [Op.operands, Call.operands, Array.mem_append] at hc
      have ha : args.toList.map (aeval s) = args.toList.map (aeval s') := List.map_congr_left fun x hx => hc x (.inr (by simpa using hx))
      exact .inr ⟨fo, args, ts, g, first, cap, fn, m, Qc, hop, by rw [← hc fo (.inl (by simp))]; exact h2, h3, h4, h5, h6, h7, by rw [← ha]; exact h8, h9⟩

theorem Runs.det {i : Nat} {o : Oper} (hi : ops[i]? = some o) {R : AV → Hp → Prop} (hr : Runs P T N ops i s H R) (hk : kind o.op = .pure ∨ kind o.op = .read) {e : Option Nat} (hE : ∀ e0, e = some e0 → ∀ e', rdObj H s o.op = some e' → e' = e0) :
    ∃ r0, R = one r0 H ∧ ∀ H2, (kindAt ops i = some .pure ∨ XE e H H2) → Runs P T N ops i s H2 (one r0 H2) := by
  have hka : kindAt ops i = some (kind o.op) := by simp [kindAt, hi]
  obtain ⟨o', ho', hd, h1⟩ := hr
  obtain rfl : o' = o := Option.some.inj (ho'.symm.trans hi)
  rcases h1 with ⟨hw, e⟩ | ⟨hw, ⟨r0, H0, hr, e⟩ | ⟨fo, args, ts, g, first, cap, fn, m, Qc, hop, h2⟩⟩
  · exact ⟨_, e, fun H2 _ => ⟨o', hi, hd, .inl ⟨hw, rfl⟩⟩⟩
  · have hrd : Rd fun H => aop T std s H o'.op := hk.elim (fun h => (kind_pure h).rd) kind_read
    obtain rfl := hrd.self hr
    refine ⟨r0, e, fun H2 h => ⟨o', hi, hd, .inr ⟨hw, .inl ⟨r0, H2, ?_, rfl⟩⟩⟩⟩
    rcases hk with hk | hk
    · exact (kind_pure hk).on hr H2
    · rcases h with h | h
      · rw [hka] at h; injection h with h; rw [hk] at h; cases h
      · exact kind_readE hk hE hr h
  · rw [hop] at hk
    rcases hk with hk | hk <;> exact Kd.noConfusion hk

theorem Runs.extE {i : Nat} {o : Oper} (hi : ops[i]? = some o) {R : AV → Hp → Prop} (hr : Runs P T N ops i s H R) {e : Option Nat} (ha : appNe T o.op e = true) {r : AV} {H' : Hp} (h : R r H') : XE e H H' := by
  cases e with
  | none => simp [appNe] at ha
  | some e =>
    cases hek : appE T o.op with
    | none => simp [appNe, hek] at ha
    | some ek =>
      have hne : e ≠ ek := by
        intro e2
        subst e2
        simp [appNe, hek] at ha
      obtain ⟨o', ho', hd, h1⟩ := hr
      obtain rfl : o' = o := Option.some.inj (ho'.symm.trans hi)
      rcases h1 with ⟨hw, e⟩ | ⟨hw, ⟨r0, H0, hr, e⟩ | ⟨fo, args, ts, g, first, cap, fn, m, Qc, hop, h2⟩⟩
      · subst e; rw [h.2]; exact XE.refl _ _
      · subst e; rw [h.2]; exact append_ext hek hr hne
      · rw [hop] at hek; exact (Option.some_ne_none ek (show (none : Option Nat) = some ek from hek).symm).elim

theorem Runs.ext {i : Nat} {o : Oper} (hi : ops[i]? = some o) {R : AV → Hp → Prop} (hr : Runs P T N ops i s H R) (hk : kind o.op ≠ .other) {r : AV} {H' : Hp} (h : R r H') : Ext H H' := by
  cases hkd : kind o.op with
  | other => exact absurd hkd hk
  | fresh =>
    obtain ⟨o', ho', hd, h1⟩ := hr
    obtain rfl : o' = o := Option.some.inj (ho'.symm.trans hi)
    rcases h1 with ⟨hw, e⟩ | ⟨hw, ⟨r0, H0, hr, e⟩ | ⟨fo, args, ts, g, first, cap, fn, m, Qc, hop, h2⟩⟩
    · subst e; rw [h.2]; exact Ext.refl _
    · subst e; rw [h.2]; exact kind_fresh hkd hr
    · rw [hop] at hkd; exact Kd.noConfusion hkd
  | pure =>
    obtain ⟨r0, e, _⟩ := hr.det hi (.inl hkd) (e := none) (fun _ h => nomatch h)
    subst e; rw [h.2]; exact Ext.refl _
  | read =>
    obtain ⟨r0, e, _⟩ := hr.det hi (.inr hkd) (e := none) (fun _ h => nomatch h)
    subst e; rw [h.2]; exact Ext.refl _

def LEq (s s' : Slots) : Prop := ∀ t, look s t = look s' t
theorem look_put (s : Slots) (d : Option Tmp) (v : AV) (t : Nat) : look (putS s d v) t = if d = some t then v else look s t := by
  cases d with
  | none => simp [putS]
  | some d =>
    simp only [putS, look]
    by_cases h : d = t
    · subst h; simp
    · have : Nat.beq d t = false := by
        cases hb : Nat.beq d t with
        | false => rfl
        | true => exact absurd (Nat.eq_of_beq_eq_true hb) h
      simp [this, h]
theorem LEq.put {s s' : Slots} (h : LEq s s') (d : Option Tmp) (v : AV) : LEq (putS s d v) (putS s' d v) := fun t => by
  rw [look_put, look_put, h t]
theorem LEq.comm (s : Slots) {d e : Option Tmp} (h : ∀ x, d = some x → e ≠ some x) (u v : AV) : LEq (putS (putS s d u) e v) (putS (putS s e v) d u) := fun t => by
  simp only [look_put]
  by_cases h1 : d = some t
  · simp [h1, h t h1]
  · simp [h1]

inductive AnyP (P : Program) (T : Tab) (N : Nat) (ops : Array Oper) (K : Slots → Hp → Prop) : Nat → Array Bool → Slots → Hp → Prop
  | done {n : Nat} {listed : Array Bool} {s : Slots} {H : Hp} (h : Region.ready .any ops listed = []) (k : K s H) : AnyP P T N ops K n listed s H
  | first {n : Nat} {listed : Array Bool} {s : Slots} {H : Hp} (j : Nat) (e : Option Nat) (r0 : AV) (hj : j ∈ Region.ready .any ops listed) (hf : firstB T ops listed j e = true)
      (hr : ∀ H2, (kindAt ops j = some .pure ∨ XE e H H2) → Runs P T N ops j s H2 (one r0 H2))
      (k : AnyP P T N ops K n (listed.setIfInBounds j true) (putS s (dstOf ops j) r0) H) : AnyP P T N ops K (n + 1) listed s H
  | all {n : Nat} {listed : Array Bool} {s : Slots} {H : Hp} (R : Nat → AV → Hp → Prop) (hne : Region.ready .any ops listed ≠ []) (hr : ∀ i ∈ Region.ready .any ops listed, Runs P T N ops i s H (R i))
      (k : ∀ i ∈ Region.ready .any ops listed, ∀ r H', R i r H' → AnyP P T N ops K n (listed.setIfInBounds i true) (putS s (dstOf ops i) r) H') : AnyP P T N ops K (n + 1) listed s H

variable {K : Slots → Hp → Prop}
theorem AnyP.ext (hK : ∀ s s' H, LEq s s' → K s H → K s' H) {n : Nat} {listed : Array Bool} (h : AnyP P T N ops K n listed s H) : ∀ {s' : Slots}, LEq s s' → AnyP P T N ops K n listed s' H := by
  induction h with
  | done h k => intro s' he; exact .done h (hK _ _ _ he k)
  | first j e r0 hj hf hr k ih =>
    intro s' he
    obtain ⟨_, o, ho, _⟩ := mem_ready.1 hj
    exact .first j e r0 hj hf (fun H2 h => (hr H2 h).congr ho fun t _ => he t) (ih (he.put _ _))
  | all R hne hr k ih =>
    intro s' he
    refine .all R hne (fun i hi => ?_) fun i hi r H' h => ih i hi r H' h (he.put _ _)
    obtain ⟨_, o, ho, _⟩ := mem_ready.1 hi
    exact (hr i hi).congr ho fun t _ => he t

theorem getD_replicate_false' (m j : Nat) : (Array.replicate m false).getD j false = false := by
  rcases Nat.lt_or_ge j m with h | h
  · simp [h]
  · simp [h]
def Closed (ops : Array Oper) (listed : Array Bool) : Prop := ∀ (k : Nat) (ok : Oper), ops[k]? = some ok → listed.getD k false = true → ∀ e ∈ ok.after, Region.binds .any e = true → listed.getD e.on false = true
theorem Closed.set {listed : Array Bool} (h : Closed ops listed) {i : Nat} (hi : i ∈ Region.ready .any ops listed) : Closed ops (listed.setIfInBounds i true) := by
  obtain ⟨_, oi, hoi, hall⟩ := mem_ready.1 hi
  intro k ok hk hl e he hb
  by_cases hik : i = k
  · subst hik
    obtain rfl : ok = oi := Option.some.inj (hk.symm.trans hoi)
    exact getD_set_true (hall e he hb)
  · rw [getD_set_ne false hik] at hl
    exact getD_set_true (h k ok hk hl e he hb)
theorem Closed.reach {listed : Array Bool} (h : Closed ops listed) {j k : Nat} (hr : Reach ops j k) : (∀ ok, ops[k]? = some ok → ∀ e ∈ ok.after, Region.binds .any e = true → listed.getD e.on false = true) → listed.getD j false = true := by
  induction hr with
  | step hk he hb hj => intro hd; have := hd _ hk _ he hb; rwa [hj] at this
  | more hk he hb _ ih => intro hd; have h1 := hd _ hk _ he hb; exact ih fun ok hok e he hb => h _ ok hok h1 e he hb
theorem AnyP.any (hK : ∀ s s' H, LEq s s' → K s H → K s' H) {n : Nat} {listed : Array Bool} (h : AnyP P T N ops K n listed s H) : Closed ops listed → ∀ i ∈ Region.ready .any ops listed, ∃ n' R, n = n' + 1 ∧ Runs P T N ops i s H R ∧ ∀ r H', R r H' → AnyP P T N ops K n' (listed.setIfInBounds i true) (putS s (dstOf ops i) r) H' := by
  induction h with
  | done h k => intro _ i hi; rw [h] at hi; cases hi
  | all R hne hr k ih => intro _ i hi; exact ⟨_, R i, rfl, hr i hi, k i hi⟩
  | @first n listed s H j e r0 hj hf hr k ih =>
    intro hcl i hi
    by_cases hij : i = j
    · subst hij
      refine ⟨n, one r0 H, rfl, hr H (.inr (XE.refl _ _)), ?_⟩
      rintro r H' ⟨rfl, rfl⟩
      exact k
    obtain ⟨hunj, oj, hoj, hallj⟩ := mem_ready.1 hj
    obtain ⟨huni, oi, hoi, halli⟩ := mem_ready.1 hi
    obtain ⟨hkd, hfree⟩ := firstB_spec hoj hf
    have hnot : ¬ Reach ops j i := fun hr => by
      have h1 := hcl.reach hr fun ok hok e he hb => by
        obtain rfl : ok = oi := Option.some.inj (hok.symm.trans hoi)
        exact halli e he hb
      rcases Nat.lt_or_ge j listed.size with h' | h'
      · simp [h'] at hunj h1; rw [hunj] at h1; cases h1
      · simp [Array.getElem?_eq_none h'] at h1
    obtain ⟨hap, hcomp⟩ := hfree i oi hoi hij huni hnot
    obtain ⟨a1, a2, a3⟩ := Oper.apart_spec hap
    have ej : dstOf ops j = oj.dst := by simp [dstOf, hoj]
    have ei : dstOf ops i = oi.dst := by simp [dstOf, hoi]
    have hka : kindAt ops j = some (kind oj.op) := by simp [kindAt, hoj]
    obtain ⟨n', Ri, hn', hri, hki⟩ := ih (hcl.set hj) i (ready_mono hi hij)
    have hri' : Runs P T N ops i s H Ri := hri.congr hoi fun t ht => by
      rw [look_put, ej, if_neg (fun e => a1 t e ht)]
    refine ⟨n, Ri, rfl, hri', fun r H' hR => ?_⟩
    rw [hn']
    have hx : kindAt ops j = some .pure ∨ XE e H H' := by
      rcases hcomp with h | h | h
      · exact .inl (by rw [hka, h])
      · exact .inr ((hri'.ext hoi h hR).xe e)
      · exact .inr (hri'.extE hoi h hR)
    refine .first j e r0 (ready_mono hj (Ne.symm hij)) (firstB_mono hf) (fun H2 h2 => ?_) ?_
    · refine (hr H2 ?_).congr hoj fun t ht => ?_
      · rcases h2 with h2 | h2
        · exact .inl h2
        · exact hx.imp id fun h => h.trans h2
      · rw [look_put, ei, if_neg (fun e => a3 t e ht)]
    · rw [Array.setIfInBounds_comm _ _ hij]
      refine (hki r H' hR).ext hK ?_
      refine LEq.comm s (fun x hx => ?_) _ _
      rw [ej] at hx; rw [ei]; exact a2 x hx

variable {f : FuncId} {C : Ctx} {Q : Md} {k : List Item}
theorem V.runs (hT : TabOk P T) {i : Nat} {rest : List Nat} {R : AV → Hp → Prop} (h : Runs P T N ops i s H R) (hk : ∀ r H', R r H' → V P f N C Q (.inRegion ops rest :: k) (putS s (dstOf ops i) r) H') : V P f N C Q (.inRegion ops (i :: rest) :: k) s H := by
  obtain ⟨o, ho, hd, h1⟩ := h
  have ei : dstOf ops i = o.dst := by simp [dstOf, ho]
  rw [ei] at hk
  rcases h1 with ⟨hw, rfl⟩ | ⟨hw, ⟨r0, H0, hr, rfl⟩ | ⟨fo, args, ts, g, first, cap, fn, m, Qc, hop, h2, h3, h4, h5, h6, h7, h8, h9⟩⟩
  · exact V.opSkip ho hw hd (hk _ _ ⟨rfl, rfl⟩)
  · exact V.op ho hw hd (aop_sound hT hr) (hk _ _ ⟨rfl, rfl⟩)
  · exact V.call ho hw hd hop h2 h3 h4 h5 m h6 h7 rfl rfl h8 fun r Hc hq => hk _ _ (h9 r Hc hq)

theorem V.leq {todo : List Item} {s s' : Slots} {H : Hp} (h : LEq s s') (k : V P f N C Q todo s H) : V P f N C Q todo s' H := V.weak (fun t => .inr (h t)) k

theorem AnyP.sound (hT : TabOk P T) : ∀ (n t : Nat) (listed : Array Bool) (s : Slots) (H : Hp), Closed ops listed → AnyP P T N ops (fun s H => V P f N C Q k s H) n listed s H → V P f N C Q (.inRegion ops (Region.linearise.go .any ops n t listed []) :: k) s H := by
  intro n
  induction n with
  | zero =>
    intro t listed s H _ h
    cases h with
    | done h k => simpa [Region.linearise.go] using V.regionEnd k
  | succ n ih =>
    intro t listed s H hcl h
    simp only [Region.linearise.go]
    change V P f N C Q (.inRegion ops (match (Region.ready .any ops listed)[t % (Region.ready .any ops listed).length]? with
      | some i => Region.linearise.go .any ops n (t / (Region.ready .any ops listed).length) (listed.setIfInBounds i true) [i]
      | none => [].reverse) :: k) s H
    cases hi : (Region.ready .any ops listed)[t % (Region.ready .any ops listed).length]? with
    | none =>
      have hnil : Region.ready .any ops listed = [] := by
        cases hr : Region.ready .any ops listed with
        | nil => rfl
        | cons x xs =>
          rw [hr] at hi
          have hlt : t % (x :: xs).length < (x :: xs).length := Nat.mod_lt _ (by simp)
          simp at hi
          simp at hlt
          omega
      cases h with
      | done h k => simpa using V.regionEnd k
      | first j e r0 hj => rw [hnil] at hj; cases hj
      | all R hne => exact absurd hnil hne
    | some i =>
      simp only []
      rw [linearise_go_acc, List.reverse_singleton, List.singleton_append]
      obtain ⟨n', R, hn, hr, hk⟩ := h.any (K := fun s H => V P f N C Q k s H) (fun s s' H he hv => V.leq he hv) hcl i (List.mem_of_getElem? hi)
      obtain rfl : n = n' := by omega
      exact V.runs hT hr fun r H' h => ih _ _ _ _ (hcl.set (List.mem_of_getElem? hi)) (hk r H' h)

/-! ### Trees of orders -/
/-- A tree of orders: done; this one first; this one, or one of the others; no more. -/
inductive Tr where
  | done
  | one (j : Nat) (e : Option Nat) (t : Tr)
  | alt (j : Nat) (t rest : Tr)
  | none

/-- What a reading reads, if that counts. -/
def rdIs (H : Hp) (s : Slots) (op : Op) : Option Nat → Prop
  | .none => True
  | some e => match rdObj H s op with | some e' => e' = e | .none => True
def AnyT (P : Program) (T : Tab) (N : Nat) (ops : Array Oper) (K : Slots → Hp → Prop) : Tr → Slots → Hp → Prop
  | .done, s, H => K s H
  | .one i e t, s, H => (∀ o, ops[i]? = some o → rdIs H s o.op e) ∧ ∃ R, Runs P T N ops i s H R ∧ ∀ r H', R r H' → AnyT P T N ops K t (putS s (dstOf ops i) r) H'
  | .alt i t rest, s, H => (∃ R, Runs P T N ops i s H R ∧ ∀ r H', R r H' → AnyT P T N ops K t (putS s (dstOf ops i) r) H') ∧ AnyT P T N ops K rest s H
  | .none, _, _ => True

/-- The tree fits the region; 'rs': those that are still to be told of. -/
def treeB (T : Tab) (ops : Array Oper) : Tr → Nat → Option (List Nat) → Array Bool → Bool
  | .done, _, .none, listed => (Region.ready .any ops listed).isEmpty
  | .one j e t, n + 1, .none, listed => (((Region.ready .any ops listed).contains j && firstB T ops listed j e) || decide (Region.ready .any ops listed = [j])) && treeB T ops t n .none (listed.setIfInBounds j true)
  | .alt j t rest, n + 1, .none, listed => match Region.ready .any ops listed with
    | k :: rs => Nat.beq k j && treeB T ops t n .none (listed.setIfInBounds j true) && treeB T ops rest (n + 1) (some rs) listed
    | [] => false
  | .alt j t rest, n + 1, some (k :: rs), listed => Nat.beq k j && treeB T ops t n .none (listed.setIfInBounds j true) && treeB T ops rest (n + 1) (some rs) listed
  | .none, _ + 1, some [], _ => true
  | _, _, _, _ => false
/-- This tree serves for all orders. -/
def ordOk (T : Tab) (ops : Array Oper) (t : Tr) : Bool := treeB T ops t ops.size .none (Array.replicate ops.size false)

theorem AnyP.of_T : ∀ (t : Tr) (n : Nat) (rs : Option (List Nat)) (listed : Array Bool) (s : Slots) (H : Hp), treeB T ops t n rs listed = true → AnyT P T N ops K t s H →
    match rs with
    | .none => AnyP P T N ops K n listed s H
    | some rs => ∃ n', n = n' + 1 ∧ ∀ i ∈ rs, ∃ R, Runs P T N ops i s H R ∧ ∀ r H', R r H' → AnyP P T N ops K n' (listed.setIfInBounds i true) (putS s (dstOf ops i) r) H' := by
  intro t
  induction t with
  | done =>
    intro n rs listed s H hB h
    cases rs with
    | none => exact .done (by simpa [treeB] using hB) h
    | some rs => cases n <;> simp [treeB] at hB
  | none =>
    intro n rs listed s H hB h
    cases n with
    | zero => simp [treeB] at hB
    | succ n =>
      cases rs with
      | none => simp [treeB] at hB
      | some rs =>
        cases rs with
        | nil => exact ⟨n, rfl, fun i hi => by cases hi⟩
        | cons a b => simp [treeB] at hB
  | one j e t ih =>
    intro n rs listed s H hB h
    cases n with
    | zero => simp [treeB] at hB
    | succ n =>
      cases rs with
      | some rs => simp [treeB] at hB
      | none =>
        simp only [treeB, Bool.and_eq_true, Bool.or_eq_true, decide_eq_true_eq] at hB
        obtain ⟨hE, R, hr, hk⟩ := h
        rcases hB.1 with ⟨h1, h2⟩ | h1
        · have hj : j ∈ Region.ready .any ops listed := by simpa using h1
          obtain ⟨_, oj, hoj, _⟩ := mem_ready.1 hj
          obtain ⟨hkd, _⟩ := firstB_spec hoj h2
          obtain ⟨r0, rfl, hall⟩ := hr.det hoj hkd (e := e) (fun e0 he e' he' => by
            have := hE oj hoj
            subst he
            simp only [rdIs, he'] at this
            exact this)
          exact .first j e r0 hj h2 hall (ih n .none _ _ _ hB.2 (hk r0 H ⟨rfl, rfl⟩))
        · refine .all (fun _ => R) (by simp [h1]) (fun i hi => ?_) fun i hi r H' h => ?_
          · rw [h1] at hi; obtain rfl : i = j := by simpa using hi
            exact hr
          · rw [h1] at hi; obtain rfl : i = j := by simpa using hi
            exact ih n .none _ _ _ hB.2 (hk r H' h)
  | alt j t rest iht ihr =>
    intro n rs listed s H hB h
    obtain ⟨⟨R, hr, hk⟩, h2⟩ := h
    cases n with
    | zero => simp [treeB] at hB
    | succ n =>
      have go : ∀ ks, Nat.beq (ks : Nat) j = true → treeB T ops t n .none (listed.setIfInBounds j true) = true → ∃ R, Runs P T N ops ks s H R ∧ ∀ r H', R r H' → AnyP P T N ops K n (listed.setIfInBounds ks true) (putS s (dstOf ops ks) r) H' := by
        intro ks h3 h4
        have := Nat.eq_of_beq_eq_true h3
        subst this
        exact ⟨R, hr, fun r H' hR => iht n .none _ _ _ h4 (hk r H' hR)⟩
      cases rs with
      | none =>
        simp only [treeB] at hB
        split at hB
        case h_2 => cases hB
        rename_i k rs hrdy
        simp only [Bool.and_eq_true] at hB
        obtain ⟨n', hn', hall⟩ := ihr (n + 1) (some rs) listed s H hB.2 h2
        obtain rfl : n = n' := by omega
        have hall' : ∀ i ∈ Region.ready .any ops listed, ∃ R, Runs P T N ops i s H R ∧ ∀ r H', R r H' → AnyP P T N ops K n (listed.setIfInBounds i true) (putS s (dstOf ops i) r) H' := by
          intro i hi
          rw [hrdy] at hi
          rcases List.mem_cons.1 hi with rfl | hi
          · exact go _ hB.1.1 hB.1.2
          · exact hall i hi
        refine .all (fun i => if hi : i ∈ Region.ready .any ops listed then Classical.choose (hall' i hi) else fun _ _ => False) (by simp [hrdy]) (fun i hi => ?_) fun i hi r H' h => ?_
        · rw [dif_pos hi]; exact (Classical.choose_spec (hall' i hi)).1
        · rw [dif_pos hi] at h; exact (Classical.choose_spec (hall' i hi)).2 r H' h
      | some rs =>
        cases rs with
        | nil => simp [treeB] at hB
        | cons k rs =>
          simp only [treeB, Bool.and_eq_true] at hB
          obtain ⟨n', hn', hall⟩ := ihr (n + 1) (some rs) listed s H hB.2 h2
          obtain rfl : n = n' := by omega
          refine ⟨n, rfl, fun i hi => ?_⟩
          rcases List.mem_cons.1 hi with rfl | hi
          · exact go _ hB.1.1 hB.1.2
          · exact hall i hi

theorem V.draws (hT : TabOk P T) (hm : P.follows .mixedOrders = true) {id : Nat} (h : AnyP P T N ops (fun s H => V P f N C Q k s H) ops.size (Array.replicate ops.size false) s H) : V P f N C Q (.code (.region id ops true) :: k) s H := by
  intro ρ μ a w hs hst b cs hb hk hro
  have := AnyP.sound hT ops.size (w.tape w.drawn (.order b.fn id)) _ _ _ (fun k ok _ hl => by rw [getD_replicate_false'] at hl; cases hl) h
  obtain ⟨ex, a', w'', fr, hp, hd, hc, h1⟩ := this ρ μ a { w with drawn := w.drawn + 1 } hs hst.drew b cs hb hk hro
  refine ⟨ex, a', w'', fr, hp, hd, .head ?_ hc, h1⟩
  rw [stepR_region_draw]
  simp only [Region.schedule, hm, Bool.true_or, if_true]
  rfl
theorem V.drawn (hT : TabOk P T) (hm : P.follows .mixedOrders = true) {id : Nat} {t : Tr} (ho : ordOk T ops t = true) (h : AnyT P T N ops (fun s H => V P f N C Q k s H) t s H) : V P f N C Q (.code (.region id ops true) :: k) s H :=
  V.draws hT hm (AnyP.of_T t ops.size .none _ s H ho h)

end
end Vx

namespace Vx
open Go

/-! ## Running, regions that draw their order among them -/
def ax1 (T : Tab) (O : Ops) (N : Nat) (L : Prop) (ops : Array Oper) (i : Nat) (e : Option Nat) (s : Slots) (H : Hp) (K : Slots → Hp → Prop) : Prop :=
  match ops[i]? with
    | some o => match awant ops s o.guard with
      | .yes => match dstOk N o.dst with
        | true => match e with
          | .none => (aop T O s H o.op).satL L fun r H' => K (putS s o.dst r) H'
          | some e0 => match rdObj H s o.op with
            | some e' => match Nat.beq e' e0 with
              | true => (aop T O s H o.op).satL L fun r H' => K (putS s o.dst r) H'
              | false => False
            | .none => (aop T O s H o.op).satL L fun r H' => K (putS s o.dst r) H'
        | false => False
      | .no => match dstOk N o.dst with
        | true => match e with
          | .none => K (putS s o.dst (.tup [])) H
          | some e0 => match rdObj H s o.op with
            | some e' => match Nat.beq e' e0 with
              | true => K (putS s o.dst (.tup [])) H
              | false => False
            | .none => K (putS s o.dst (.tup [])) H
        | false => False
      | .open_ => L
    | none => False
def ax (T : Tab) (O : Ops) (N : Nat) (VA : Tr → Slots → Hp → Prop) (ops : Array Oper) (K : Slots → Hp → Prop) : Tr → Slots → Hp → Prop
  | .done, s, H => K s H
  | .one i e t, s, H => ax1 T O N (VA (.one i e t) s H) ops i e s H fun s' H' => ax T O N VA ops K t s' H'
  | .alt i t rest, s, H => (ax1 T O N (VA (.one i .none t) s H) ops i .none s H fun s' H' => ax T O N VA ops K t s' H') ∧ ax T O N VA ops K rest s H
  | .none, _, _ => True

/-- The order of the text. -/
def trText : Nat → Nat → Tr
  | _, 0 => .done
  | k, n + 1 => .one k .none (trText (k + 1) n)
/-- The tree of a region. -/
def treeOf (D : List (Nat × Tr)) (id n : Nat) : Tr :=
  match D with
  | [] => trText 0 n
  | (k, t) :: r => match Nat.beq k id with | true => t | false => treeOf r id n

/-- 'none' as a region's tree: the run stops ahead of it. -/
def stopT : Tr → Bool
  | .none => true
  | _ => false
def sy (T : Tab) (O : Ops) (N : Nat) (W : Array Oper → Tr → Prop) (D : List (Nat × Tr)) (VV : List Item → Slots → Hp → Prop) (VA : Array Oper → List Item → Tr → Slots → Hp → Prop) (rs : List ResultVar) (Q : Md) : Nat → List Item → Slots → Hp → Prop
  | 0, k, s, H => VV k s H
  | n + 1, todo, s, H =>
    match todo with
    | [] => atEnd T O rs s H false Q
    | .code c :: k => match c with
      | .skip => sy T O N W D VV VA rs Q n k s H
      | .label _ => sy T O N W D VV VA rs Q n k s H
      | .ret => atEnd T O rs s H true Q
      | .seq a b => sy T O N W D VV VA rs Q n (.code a :: .code b :: k) s H
      | .block id b => sy T O N W D VV VA rs Q n (.code b :: .inBlock id :: k) s H
      | .scope b => sy T O N W D VV VA rs Q n (.code b :: .inScope b :: k) s H
      | .exit id => match exitTo id k with
        | some k' => sy T O N W D VV VA rs Q n k' s H
        | none => match Q with
          | .round _ QR => QR (some (.exit id)) H
          | _ => False
      | .cond c x y => match aeval s c with
        | .bool b => match b with
          | true => sy T O N W D VV VA rs Q n (.code x :: k) s H
          | false => sy T O N W D VV VA rs Q n (.code y :: k) s H
        | _ => VV (.code (.cond c x y) :: k) s H
      | .region id ops draw => match draw with
        | false => sy T O N W D VV VA rs Q n (.inRegion ops (List.range ops.size) :: k) s H
        | true => match stopT (treeOf D id ops.size) with
          | true => VV (.code (.region id ops draw) :: k) s H
          | false => W ops (treeOf D id ops.size) ∧ ax T O N (VA ops k) ops (fun s H => sy T O N W D VV VA rs Q n k s H) (treeOf D id ops.size) s H
      | c => VV (.code c :: k) s H
    | .inBlock _ :: k => sy T O N W D VV VA rs Q n k s H
    | .inScope _ :: k => sy T O N W D VV VA rs Q n k s H
    | .inRegion _ [] :: k => sy T O N W D VV VA rs Q n k s H
    | .inRegion ops (i :: rest) :: k => match ops[i]? with
      | some o => match awant ops s o.guard with
        | .yes => match dstOk N o.dst with
          | true => (aop T O s H o.op).satL (VV (.inRegion ops (i :: rest) :: k) s H) fun r H' => sy T O N W D VV VA rs Q n (.inRegion ops rest :: k) (putS s o.dst r) H'
          | false => False
        | .no => match dstOk N o.dst with
          | true => sy T O N W D VV VA rs Q n (.inRegion ops rest :: k) (putS s o.dst (.tup [])) H
          | false => False
        | .open_ => VV (.inRegion ops (i :: rest) :: k) s H
      | none => False
    | todo => VV todo s H

section
variable {P : Program} {T : Tab} {N : Nat} {s : Slots} {H : Hp}
theorem ax1_sound {ops : Array Oper} {i : Nat} {e : Option Nat} {L : Prop} {K : Slots → Hp → Prop} (h : ax1 T std N L ops i e s H K) : L ∨ ((∀ o, ops[i]? = some o → rdIs H s o.op e) ∧ ∃ R, Runs P T N ops i s H R ∧ ∀ r H', R r H' → K (putS s (dstOf ops i) r) H') := by
  unfold ax1 at h
  split at h
  case h_2 => exact h.elim
  rename_i o ho
  have ei : dstOf ops i = o.dst := by simp [dstOf, ho]
  have fin : rdIs H s o.op e → (∀ o, ops[i]? = some o → rdIs H s o.op e) := fun h o' ho' => by
    obtain rfl : o' = o := Option.some.inj (ho'.symm.trans ho)
    exact h
  split at h
  · rename_i hw
    split at h
    case h_2 => exact h.elim
    rename_i hd
    have run : rdIs H s o.op e → ((aop T std s H o.op).satL L fun r H' => K (putS s o.dst r) H') → L ∨ ((∀ o, ops[i]? = some o → rdIs H s o.op e) ∧ ∃ R, Runs P T N ops i s H R ∧ ∀ r H', R r H' → K (putS s (dstOf ops i) r) H') := by
      intro hE h
      rcases Out.satL_cases h with h | h
      · exact .inl h
      · obtain ⟨r, H', hk, hr⟩ := Out.sat_one h
        refine .inr ⟨fin hE, one r H', ⟨o, ho, hd, .inr ⟨hw, .inl ⟨r, H', hr, rfl⟩⟩⟩, fun r' H'' e => ?_⟩
        obtain ⟨rfl, rfl⟩ := e
        rw [ei]
        exact hk
    split at h
    · exact run trivial h
    · rename_i e0
      split at h
      · rename_i e' hq
        split at h
        · rename_i hb
          exact run (by simp only [rdIs, hq]; exact Nat.eq_of_beq_eq_true hb) h
        · exact h.elim
      · rename_i hq
        exact run (by simp only [rdIs, hq]) h
  · rename_i hw
    split at h
    case h_2 => exact h.elim
    rename_i hd
    have run : rdIs H s o.op e → K (putS s o.dst (.tup [])) H → L ∨ ((∀ o, ops[i]? = some o → rdIs H s o.op e) ∧ ∃ R, Runs P T N ops i s H R ∧ ∀ r H', R r H' → K (putS s (dstOf ops i) r) H') := by
      intro hE h
      refine .inr ⟨fin hE, one (.tup []) H, ⟨o, ho, hd, .inl ⟨hw, rfl⟩⟩, fun r' H'' e => ?_⟩
      obtain ⟨rfl, rfl⟩ := e
      rw [ei]
      exact h
    split at h
    · exact run trivial h
    · rename_i e0
      split at h
      · rename_i e' hq
        split at h
        · rename_i hb
          exact run (by simp only [rdIs, hq]; exact Nat.eq_of_beq_eq_true hb) h
        · exact h.elim
      · rename_i hq
        exact run (by simp only [rdIs, hq]) h
  · exact .inl h

theorem ax_sound {ops : Array Oper} {K K' : Slots → Hp → Prop} {VA : Tr → Slots → Hp → Prop} (hK : ∀ s H, K s H → K' s H) (hA : ∀ l s H, VA l s H → AnyT P T N ops K' l s H) : ∀ (l : Tr) (s : Slots) (H : Hp), ax T std N VA ops K l s H → AnyT P T N ops K' l s H := by
  intro l
  induction l with
  | done => intro s H h; exact hK _ _ h
  | none => intro s H h; trivial
  | one i e t ih =>
    intro s H h
    rcases ax1_sound (P := P) h with h | ⟨h1, R, h2, h3⟩
    · exact hA _ _ _ h
    · exact ⟨h1, R, h2, fun r H' hR => ih _ _ (h3 r H' hR)⟩
  | alt i t rest iht ihr =>
    intro s H h
    refine ⟨?_, ihr _ _ h.2⟩
    rcases ax1_sound (P := P) h.1 with h | ⟨_, R, h2, h3⟩
    · exact (hA _ _ _ h).2
    · exact ⟨R, h2, fun r H' hR => iht _ _ (h3 r H' hR)⟩

theorem sy_sound {W : Array Oper → Tr → Prop} (hW : ∀ ops t, W ops t → ordOk T ops t = true) {f : FuncId} {C : Ctx} {Q : Md} {D : List (Nat × Tr)} (hT : TabOk P T) (hm : P.follows .mixedOrders = true) {fn : Func} (hf : P.funcs[f]? = some fn) {VV : List Item → Slots → Hp → Prop} {VA : Array Oper → List Item → Tr → Slots → Hp → Prop} (hV : ∀ k s H, VV k s H → V P f N C Q k s H)
    (hA : ∀ ops k l s H, VA ops k l s H → AnyT P T N ops (fun s H => V P f N C Q k s H) l s H) (hfit : Q.fits C) : ∀ (n : Nat) (todo : List Item) (s : Slots) (H : Hp), sy T std N W D VV VA fn.results.toList Q n todo s H → V P f N C Q todo s H := by
  intro n
  induction n with
  | zero => exact fun k s H h => hV k s H h
  | succ n ih =>
    intro todo s H h
    simp only [sy] at h
    split at h
    · exact (V.ends (k := []) hT hf hfit).2 h
    · split at h
      · exact V.skip (ih _ _ _ h)
      · exact V.label (ih _ _ _ h)
      · exact (V.ends hT hf hfit).1 h
      · exact V.seq (ih _ _ _ h)
      · exact V.block (ih _ _ _ h)
      · exact V.scope (ih _ _ _ h)
      · split at h
        · exact V.exit (by assumption) (ih _ _ _ h)
        · rename_i hx
          cases Q with
          | round l QR => exact V.leaves hfit hx h
          | _ => exact h.elim
      · split at h
        · rename_i b hb
          cases b
          · exact V.cond hb (ih _ _ _ h)
          · exact V.cond hb (ih _ _ _ h)
        · exact hV _ _ _ h
      · split at h
        · exact V.region (ih _ _ _ h)
        · split at h
          · exact hV _ _ _ h
          · exact V.drawn hT hm (hW _ _ h.1) (ax_sound (fun s H h => ih _ _ _ h) (hA _ _) _ _ _ h.2)
      · exact hV _ _ _ h
    · exact V.inBlock (ih _ _ _ h)
    · exact V.inScope (ih _ _ _ h)
    · exact V.regionEnd (ih _ _ _ h)
    · split at h
      · rename_i o ho
        split at h
        · rename_i hw
          split at h
          · rename_i hd
            rcases Out.satL_cases h with h | h
            · exact hV _ _ _ h
            · obtain ⟨r, H', hk, hr⟩ := Out.sat_one h
              exact V.op ho hw hd (aop_sound hT hr) (ih _ _ _ hk)
          · exact h.elim
        · rename_i hw
          split at h
          · rename_i hd
            exact V.opSkip ho hw hd (ih _ _ _ h)
          · exact h.elim
        · exact hV _ _ _ h
      · exact h.elim
    · exact hV _ _ _ h

variable {f : FuncId} {C : Ctx} {Q : Md} {fn : Func} {D : List (Nat × Tr)}
/-- Run on; where the run stops, 'VV' (or 'VA', within a region that draws its order) stands for what is left to show. -/
theorem V.goF (hfit : Q.fits C) (hf : P.funcs[f]? = some fn) (hT : TabOk P T) (hm : P.follows .mixedOrders = true) {O : Ops} (hO : O = std) (D : List (Nat × Tr)) (n : Nat) {todo : List Item} {s : Slots} {H : Hp}
    (h : ∀ VV VA (W : Array Oper → Tr → Prop), VV = V P f N C Q → VA = (fun ops k => AnyT P T N ops fun s H => V P f N C Q k s H) → W = (fun ops t => ordOk T ops t = true) → sy T O N W D VV VA fn.results.toList Q n todo s H) : V P f N C Q todo s H := by
  subst hO
  exact sy_sound (fun _ _ h => h) hT hm hf (fun _ _ _ h => h) (fun _ _ _ _ _ h => h) hfit n _ _ _ (h _ _ _ rfl rfl rfl)
theorem AnyT.goF (hfit : Q.fits C) (hf : P.funcs[f]? = some fn) (hT : TabOk P T) (hm : P.follows .mixedOrders = true) {O : Ops} (hO : O = std) (D : List (Nat × Tr)) (n : Nat) {ops : Array Oper} {k : List Item} {l : Tr} {s : Slots} {H : Hp}
    (h : ∀ VV VA (W : Array Oper → Tr → Prop), VV = V P f N C Q → VA = (fun ops k => AnyT P T N ops fun s H => V P f N C Q k s H) → W = (fun ops t => ordOk T ops t = true) → ax T O N (VA ops k) ops (fun s H => sy T O N W D VV VA fn.results.toList Q n k s H) l s H) : AnyT P T N ops (fun s H => V P f N C Q k s H) l s H := by
  subst hO
  exact ax_sound (fun s H h => sy_sound (fun _ _ h => h) hT hm hf (fun _ _ _ h => h) (fun _ _ _ _ _ h => h) hfit n _ _ _ h) (fun _ _ _ h => h) _ _ _ (h _ _ _ rfl rfl rfl)

/-- A call within a region that draws its order. -/
theorem AnyT.call {ops : Array Oper} {K : Slots → Hp → Prop} {i : Nat} {rest : Tr} {o : Oper} (ho : ops[i]? = some o) (hw : awant ops s o.guard = .yes) (hd : dstOk N o.dst = true)
    {fo : Operand} {args : Array Operand} {ts : Array TypeId} (hop : o.op = .call ⟨.value fo, args, ts⟩) {g : FuncId} {first cap : List AV} (hf : aeval s fo = .fn (.func g) first cap)
    {fn : Func} (hg : P.funcs[g]? = some fn) (hb : fn.body.isNone = false) (hnm : (fn.name == "runtime.NumGoroutine") = false) (m : List Nat) (hn : m.Nodup) (hm : ∀ o ∈ m, o < H.length)
    {xs : List AV} (hxs : xs = (first ++ args.toList.map (aeval s) ++ cap).map (AV.ren (inv m))) {Hc : Hp} (hHc : Hc = callHeap H m)
    {Qc : AV → Hp → Prop} (spec : FSpec P g xs Hc Qc)
    (cont : ∀ r Hc', Qc r Hc' → AnyT P T N ops K rest (putS s o.dst (r.ren fun k => some (outN H.length m k))) (merge H m Hc')) :
    AnyT P T N ops K (.one i .none rest) s H := by
  subst hxs hHc
  refine ⟨fun _ _ => trivial, fun r H' => ∃ r0 Hc', Qc r0 Hc' ∧ r = (r0.ren fun k => some (outN H.length m k)) ∧ H' = merge H m Hc', ⟨o, ho, hd, .inr ⟨hw, .inr ⟨fo, args, ts, g, first, cap, fn, m, Qc, hop, hf, hg, hb, hnm, hn, hm, spec, fun r Hc hq => ⟨r, Hc, hq, rfl, rfl⟩⟩⟩⟩, ?_⟩
  rintro r H' ⟨r0, Hc', hq, rfl, rfl⟩
  have ei : dstOf ops i = o.dst := by simp [dstOf, ho]
  rw [ei]
  exact cont r0 Hc' hq
theorem AnyT.done {ops : Array Oper} {K : Slots → Hp → Prop} (h : K s H) : AnyT P T N ops K .done s H := h

end
end Vx

namespace Vx
open Go

section
variable {P : Program} {N : Nat} {f : FuncId} {C : Ctx} {Q : Md} {todo : List Item} {s : Slots} {H : Hp}
theorem V.know (p : Prop) (h : ∀ ρ μ a w, RelS ρ μ N s a → St C ρ μ H w → p) (k : p → V P f N C Q todo s H) : V P f N C Q todo s H :=
  fun ρ μ a w hs hst => k (h ρ μ a w hs hst) ρ μ a w hs hst
theorem V.rowsLen (t : Nat) {sz n : Nat} {g : Nat → List AV} (hl : look s t = .rows sz n g) (k : n ≤ maxLen → V P f N C Q todo s H) : V P f N C Q todo s H :=
  V.know _ (fun ρ μ a w hs hst => by
    have h := hs.v t
    rw [hl] at h
    generalize a.tmps.getD t undef = v at h
    cases h with
    | rows _ _ _ _ a c sz b o ws hlen hsz hrel hmem hc hm => omega) k
theorem V.slLen (t : Nat) {o i n : Nat} {ob : Ob} (hl : look s t = .sl o i n) (ho : hget H o = some ob) (k : n ≤ maxLen → V P f N C Q todo s H) : V P f N C Q todo s H :=
  V.know _ (fun ρ μ a w hs hst => by
    have h := hs.v t
    rw [hl] at h
    generalize a.tmps.getD t undef = v at h
    cases h with
    | sl _ _ _ _ _ c x L hL hc hn hx =>
      obtain ⟨L', cs, hat⟩ := hst.rep.at_ (hget_some ho) hL
      obtain rfl : L' = L := Option.some.inj (hat.loc.symm.trans hL)
      have := hat.max
      omega
    | slNil => simp) k
end
end Vx

namespace Vx
open Go
section
variable {P : Program} {N : Nat} {f : FuncId} {C : Ctx} {Q : Md} {todo : List Item} {s : Slots} {H : Hp}

theorem callHeap_get {m : List Nat} {k : Nat} {ob : Ob} (h : (callHeap H m)[k]? = some (some ob)) : ∃ o ob1, m[k]? = some o ∧ H[o]? = some (some ob1) ∧ ob = ob1.ren (inv m) := by
  simp only [callHeap, List.getElem?_map] at h
  cases hm : m[k]? with
  | none => simp [hm] at h
  | some o =>
    simp only [hm, Option.map_some, Option.some.injEq, Option.map_eq_some_iff] at h
    obtain ⟨ob1, h1, h2⟩ := h
    exact ⟨o, ob1, rfl, hget_some h1, h2.symm⟩

/-- m begins with 0, 1, .., n-1. -/
def begins (n : Nat) (m : List Nat) : Prop := ∀ k, k < n → m[k]? = some k

theorem St.pick {ρ : Rho} {μ : Mu} {w : World} (h : St C ρ μ H w) (m : List Nat) (hn : m.Nodup) (hb : begins C.n0 m) : St C (rhoC ρ m) μ (callHeap H m) w := by
  have lv : ∀ {k : Nat}, Live (callHeap H m) k → ∃ o, m[k]? = some o ∧ Live H o := fun {k} ⟨ob, hk⟩ => let ⟨o, ob1, h1, h2, _⟩ := callHeap_get hk; ⟨o, h1, ob1, h2⟩
  refine ⟨h.rep.callee m hn, ⟨?_, fun o ho => ?_, h.keep.mu, h.keep.size, h.keep.os, h.keep.tape, h.keep.output, h.keep.block, fun k L hk hL => ?_, h.keep.muo⟩⟩
  · rcases Nat.eq_zero_or_pos C.n0 with h0 | h0
    · rw [h0]; exact Nat.zero_le _
    · have := hb (C.n0 - 1) (by omega)
      have := (List.getElem?_eq_some_iff.1 this).1
      simp only [callHeap, List.length_map]
      omega
  · simp only [rhoC, hb o ho]
    exact h.keep.rho o ho
  · obtain ⟨o, h1, h2⟩ := lv hk
    simp only [rhoC, h1] at hL
    exact h.keep.own o L h2 hL

def renS (g : Nat → Option Nat) : Slots → Slots
  | [] => []
  | (t, v) :: r => (t, v.ren g) :: renS g r
theorem look_renS (g : Nat → Option Nat) : ∀ (s : Slots) (t : Nat), look (renS g s) t = (look s t).ren g
  | [], t => by simp [renS, look, AV.ren]
  | (q, v) :: r, t => by
    simp only [renS, look]
    cases Nat.beq q t with
    | true => rfl
    | false => exact look_renS g r t

/-- The objects of 'm' alone, in this order, are kept. -/
theorem V.pick (m : List Nat) (hn : m.Nodup) (hb : begins C.n0 m) {s' : Slots} {H' : Hp} (hH : callHeap H m = H') (hs : renS (inv m) s = s') (k : V P f N C Q todo s' H') : V P f N C Q todo s H := by
  subst hH hs
  refine V.steps k fun ρ μ a w hs hst => ⟨rhoC ρ m, μ, a, w, ⟨hs.size, hs.defers, fun t => ?_⟩, hst.pick m hn hb, rfl, fun _ _ _ _ => .refl _ _⟩
  rw [look_renS]
  exact (hs.v t).ren fun o o' L hg hL => by simp [rhoC, inv_some hg, hL]
end

/-- A contract that says less, or the same in other words. -/
theorem FSpec.weaken {P : Program} {g : FuncId} {args : List AV} {H : Hp} {Q Q' : AV → Hp → Prop} (h : FSpec P g args H Q) (hq : ∀ r H', Q r H' → ∃ H'', heapCov H''.length H' H'' ∧ r.bnd H''.length = true ∧ H.length ≤ H''.length ∧ Q' r H'') : FSpec P g args H Q' := by
  intro ρ μ w vs h1 h2 h3
  refine (h ρ μ w vs h1 h2 h3).mono ?_
  rintro e w' ⟨v, r, H', ρ', μ', rfl, hQ, hr, hst⟩
  obtain ⟨H'', c1, c2, c3, c4⟩ := hq r H' hQ
  exact ⟨v, r, H'', _, μ', rfl, c4, hr.to c2 (fun o ho => by simp [rcut, ho]), hst.cov c1 c3⟩
/-- A contract whose end is renumbered. -/
theorem FSpec.repick {P : Program} {g : FuncId} {args : List AV} {H : Hp} {Q Q' : AV → Hp → Prop} (h : FSpec P g args H Q) (hq : ∀ r H', Q r H' → ∃ m : List Nat, m.Nodup ∧ begins H.length m ∧ Q' (r.ren (inv m)) (callHeap H' m)) : FSpec P g args H Q' := by
  intro ρ μ w vs h1 h2 h3
  refine (h ρ μ w vs h1 h2 h3).mono ?_
  rintro e w' ⟨v, r, H', ρ', μ', rfl, hQ, hr, hst⟩
  obtain ⟨m, c1, c2, c3⟩ := hq r H' hQ
  exact ⟨v, _, _, rhoC ρ' m, μ', rfl, c3, hr.ren (fun o o' L hg hL => by simp [rhoC, inv_some hg, hL]), hst.pick m c1 c2⟩
/-- A nil slice that is handed back is a slice of an object without memory. -/
theorem FSpec.unnil {P : Program} {g : FuncId} {args : List AV} {H : Hp} {Q Q' : AV → Hp → Prop} (h : FSpec P g args H Q) (hq : ∀ r H', Q r H' → Q' r H' ∨ (r = .nil .slice ∧ ∃ e sz f, Q' (.sl H'.length 0 0) (app H' (some ⟨e, sz, .arr 0 f⟩)))) : FSpec P g args H Q' := by
  intro ρ μ w vs h1 h2 h3
  refine (h ρ μ w vs h1 h2 h3).mono ?_
  rintro e w' ⟨v, r, H', ρ', μ', rfl, hQ, hr, hst⟩
  rcases hq r H' hQ with hQ' | ⟨rfl, e, sz, f, hQ'⟩
  · exact ⟨v, r, H', ρ', μ', rfl, hQ', hr, hst⟩
  · cases hr
    exact ⟨_, _, _, ρ', μ', rfl, hQ', .slNil .., by rw [app_eq]; exact hst.phantom _ rfl⟩
section
variable {P : Program} {N : Nat} {f : FuncId} {C : Ctx} {Q : Md} {todo : List Item} {s : Slots} {H : Hp}
theorem V.objLen (o : Nat) {ob : Ob} (ho : hget H o = some ob) (k : ob.c.n ≤ maxLen → V P f N C Q todo s H) : V P f N C Q todo s H :=
  V.know _ (fun ρ μ a w hs hst => by
    rcases hst.rep.obj o ob (hget_some ho) with ⟨L, cs, hat⟩ | ⟨_, h0⟩
    · have := hat.n; have := hat.max; omega
    · omega) k
/-- Is a slice nil? It isn't told; but if so, it is empty. -/
theorem V.isNil {T : Tab} (hT : TabOk P T) {ops : Array Oper} {i : Nat} {rest : List Nat} {o : Oper} {k : List Item} (ho : ops[i]? = some o) (hw : awant ops s o.guard = .yes) (hd : dstOk N o.dst = true)
    {t q : Nat} {x : Operand} (hop : o.op = .binOp .eql t x (.const (.slice none 0 0)) q) {e : Nat} (ht : tdOf T t = some (.slice e)) {sz n : Nat} {g : Nat → List AV} (hx : aeval s x = .rows sz n g)
    (h : ∀ b, (b = true → n = 0) → V P f N C Q (.inRegion ops rest :: k) (putS s o.dst (.bool b)) H) : V P f N C Q (.inRegion ops (i :: rest) :: k) s H := by
  have hu : P.underlying t = some (.slice e) := Tok.td hT ht
  intro ρ μ a w hs hst
  have hr := aeval_rel hs x
  rw [hx] at hr
  generalize hv : a.eval x = v at hr
  cases hr with
  | rows _ _ _ _ ad c _ b o' ws hlen hsz hrel hmem hc hm =>
    have hn : ad.isNone = true → n = 0 := fun h0 => by
      rcases Nat.eq_zero_or_pos n with h1 | h1
      · exact h1
      · have := (hmem 0 0 h1 hsz).1
        rw [this] at h0; cases h0
    intro fb cs hb hk hro
    obtain ⟨ex, a', w'', fr, hp, hdd, hcm, h1⟩ := h ad.isNone hn ρ μ (a.put o.dst (.bool ad.isNone)) w (hs.putS hd (.bool ..)) hst fb cs hb hk hro
    refine ⟨ex, a', w'', fr, hp, hdd.trans (put_defers a _ _), .head (step_lone_go ?_) hcm, h1⟩
    have hwt := (awant_sound hs ops o).1 hw
    rw [stepGR_op ho hwt]
    have hrun : (execOp a.eval o).run P w = .ok (.value (.bool ad.isNone)) w := by
      have hg : (eqGuard .eql t x (.const (.slice none 0 0)) (.slice ad n c) (.slice none 0 0)).run P w = .ok () w := eqGuard_plain (fun _ => by simp) (by simp) w
      have hcv : a.eval (.const (.slice none 0 0)) = .slice none 0 0 := rfl
      simp [execOp, hop, hv, hcv, hg, binOp, run_equal_sliceNil hu]
    have hfin : (fb.atR a (.inRegion ops (i :: rest) :: k)).finish (.bool ad.isNone) = fb.atR (a.put o.dst (.bool ad.isNone)) (.inRegion ops rest :: k) := by
      rw [Frame.finish_atR, ho]; rfl
    rw [← hfin, semAt_of fb.roundOf hrun (fun _ h => by cases h)]
    simp [stepG.apply, hrun]
/-- The same, from the object's head on. -/
theorem V.freeze0 (t o n : Nat) {sz : Nat} {g : Nat → List AV} {ob : Ob} (hl : Vx.look s t = .sl o 0 n) (ho : hget H o = some ob) (hs : ob.sz = sz) (hp : 0 < sz) (hg : ob.c.f = g) (hb : bndOb 0 ob.c = true) (hn : n ≤ ob.c.n)
    (k : V P f N C Q todo ((t, .rows sz n g) :: s) (setO H o none)) : V P f N C Q todo s H := by
  subst hs hg
  refine V.freeze t hl ho hp hb (by omega) ?_
  have e : (fun j => ob.c.f (0 + j)) = ob.c.f := funext fun j => by rw [Nat.zero_add]
  rw [e]
  exact k
end
end Vx

/- The operations by plain names, and the bundle of names that stand for them while a run is evaluated. -/
namespace Vx
open Go

def iadd : IntKind → Int → Int → Int := fun k x y => k.wrap (x + y)
def isub : IntKind → Int → Int → Int := fun k x y => k.wrap (x - y)
def imul : IntKind → Int → Int → Int := fun k x y => k.wrap (x * y)
def iquo : IntKind → Int → Int → Int := fun k x y => k.wrap (x.tdiv y)
def irem : Int → Int → Int := fun x y => x.tmod y
def iband : IntKind → Int → Int → Int := fun k x y => bits k (· &&& ·) x y
def ibor : IntKind → Int → Int → Int := fun k x y => bits k (· ||| ·) x y
def ibxor : IntKind → Int → Int → Int := fun k x y => bits k (· ^^^ ·) x y
def ibandn : IntKind → Int → Int → Int := fun k x y => bits k (fun a b => a &&& ~~~b) x y
def ishl : IntKind → Int → Int → Int := fun k x y => k.wrap (x * 2 ^ (min y.toNat k.bits))
def ishr : IntKind → Int → Int → Int := fun k x y => x.fdiv (2 ^ (min y.toNat k.bits))
def iconv : IntKind → Int → Int := fun k x => k.wrap x
def ieq : Int → Int → Bool := fun x y => x == y
def ine : Int → Int → Bool := fun x y => x != y
def ilt : Int → Int → Bool := fun x y => decide (x < y)
def ile : Int → Int → Bool := fun x y => decide (x ≤ y)
def igt : Int → Int → Bool := fun x y => decide (x > y)
def ige : Int → Int → Bool := fun x y => decide (x ≥ y)
def bbeq : Bool → Bool → Bool := fun a b => a == b
def bbne : Bool → Bool → Bool := fun a b => a != b
def bnot : Bool → Bool := fun a => !a
def bband : Bool → Bool → Bool := fun a b => a && b
def sseq : ByteArray → ByteArray → Bool := fun x y => x.toList == y.toList
def ssne : ByteArray → ByteArray → Bool := fun x y => !(x.toList == y.toList)
def sscat : ByteArray → ByteArray → ByteArray := fun x y => x ++ y
def sssub : ByteArray → Nat → Nat → ByteArray := fun x l h => x.extract l h
def sslen : ByteArray → Int := fun x => x.size
def sssz : ByteArray → Nat := fun x => x.size
def ssbyte : ByteArray → Nat → Int := fun x i => (x[i]?.map (fun b => (b.toNat : Int))).getD 0
def toN : Int → Nat := fun i => i.toNat
def ofN : Nat → Int := fun n => n
def addN : Nat → Nat → Nat := fun a b => a + b
def subN : Nat → Nat → Nat := fun a b => a - b
def eqN : Nat → Nat → Bool := fun a b => a == b
def ltB : Nat → Nat → Bool := fun a b => decide (a < b)
def leN : Nat → Nat → Prop := fun a b => a ≤ b
def imx : Int → Int → Int := fun x y => if y > x then y else x
def imn : Int → Int → Int := fun x y => if y < x then y else x
def inb : Int → Nat → Prop := fun i n => 0 ≤ i ∧ i < n
def leb : Int → Int → Prop := fun i n => 0 ≤ i ∧ i ≤ n
def sslt : ByteArray → ByteArray → Bool := fun x y => Op.bytesLess x.toList y.toList
def ltN : Nat → Nat → Prop := fun a b => a < b
def fit : Nat → Nat → Prop := fun n b => n * b ≤ 140737488355328 ∧ n ≤ maxLen
def ne0 : Int → Prop := fun x => x ≠ 0
def ge0 : Int → Prop := fun x => 0 ≤ x
def ssfit : ByteArray → ByteArray → Prop := fun x y => ((x.size + y.size : Nat) : Int) ≤ 9223372036854775807
def minN : Nat → Nat → Nat := fun x y => min x y
def inR : Nat → Nat → Nat → Bool := fun i k j => decide (i ≤ j ∧ j < i + k)
def bcol : ByteArray → Nat → List AV := fun b i => bcolF b i
def bstr : Nat → (Nat → List AV) → ByteArray := fun n f => bstrF n f
def isBy : Nat → (Nat → List AV) → Prop := fun n f => ∀ i, i < n → ∃ x, f i = [.int .u8 x]

/-- Names for the operations. -/
structure Nm (iadd : IntKind → Int → Int → Int) (isub : IntKind → Int → Int → Int) (imul : IntKind → Int → Int → Int) (iquo : IntKind → Int → Int → Int) (irem : Int → Int → Int) (iband : IntKind → Int → Int → Int) (ibor : IntKind → Int → Int → Int) (ibxor : IntKind → Int → Int → Int) (ibandn : IntKind → Int → Int → Int) (ishl : IntKind → Int → Int → Int) (ishr : IntKind → Int → Int → Int) (iconv : IntKind → Int → Int) (ieq : Int → Int → Bool) (ine : Int → Int → Bool) (ilt : Int → Int → Bool) (ile : Int → Int → Bool) (igt : Int → Int → Bool) (ige : Int → Int → Bool) (bbeq : Bool → Bool → Bool) (bbne : Bool → Bool → Bool) (bnot : Bool → Bool) (bband : Bool → Bool → Bool) (sseq : ByteArray → ByteArray → Bool) (ssne : ByteArray → ByteArray → Bool) (sscat : ByteArray → ByteArray → ByteArray) (sssub : ByteArray → Nat → Nat → ByteArray) (sslen : ByteArray → Int) (sssz : ByteArray → Nat) (ssbyte : ByteArray → Nat → Int) (toN : Int → Nat) (ofN : Nat → Int) (addN : Nat → Nat → Nat) (subN : Nat → Nat → Nat) (eqN : Nat → Nat → Bool) (ltB : Nat → Nat → Bool) (leN : Nat → Nat → Prop) (imx : Int → Int → Int) (imn : Int → Int → Int) (inb : Int → Nat → Prop) (leb : Int → Int → Prop) (sslt : ByteArray → ByteArray → Bool) (ltN : Nat → Nat → Prop) (fit : Nat → Nat → Prop) (ne0 : Int → Prop) (ge0 : Int → Prop) (ssfit : ByteArray → ByteArray → Prop) (minN : Nat → Nat → Nat) (inR : Nat → Nat → Nat → Bool) (bcol : ByteArray → Nat → List AV) (bstr : Nat → (Nat → List AV) → ByteArray) (isBy : Nat → (Nat → List AV) → Prop) : Prop where
  glob : iadd = Vx.iadd ∧ isub = Vx.isub ∧ imul = Vx.imul ∧ iquo = Vx.iquo ∧ irem = Vx.irem ∧ iband = Vx.iband ∧ ibor = Vx.ibor ∧ ibxor = Vx.ibxor ∧ ibandn = Vx.ibandn ∧ ishl = Vx.ishl ∧ ishr = Vx.ishr ∧ iconv = Vx.iconv ∧ ieq = Vx.ieq ∧ ine = Vx.ine ∧ ilt = Vx.ilt ∧ ile = Vx.ile ∧ igt = Vx.igt ∧ ige = Vx.ige ∧ bbeq = Vx.bbeq ∧ bbne = Vx.bbne ∧ bnot = Vx.bnot ∧ bband = Vx.bband ∧ sseq = Vx.sseq ∧ ssne = Vx.ssne ∧ sscat = Vx.sscat ∧ sssub = Vx.sssub ∧ sslen = Vx.sslen ∧ sssz = Vx.sssz ∧ ssbyte = Vx.ssbyte ∧ toN = Vx.toN ∧ ofN = Vx.ofN ∧ addN = Vx.addN ∧ subN = Vx.subN ∧ eqN = Vx.eqN ∧ ltB = Vx.ltB ∧ leN = Vx.leN ∧ imx = Vx.imx ∧ imn = Vx.imn ∧ inb = Vx.inb ∧ leb = Vx.leb ∧ sslt = Vx.sslt ∧ ltN = Vx.ltN ∧ fit = Vx.fit ∧ ne0 = Vx.ne0 ∧ ge0 = Vx.ge0 ∧ ssfit = Vx.ssfit ∧ minN = Vx.minN ∧ inR = Vx.inR ∧ bcol = Vx.bcol ∧ bstr = Vx.bstr ∧ isBy = Vx.isBy
  ops : (⟨iadd, isub, imul, iquo, irem, iband, ibor, ibxor, ibandn, ishl, ishr, iconv, ieq, ine, ilt, ile, igt, ige, bbeq, bbne, bnot, bband, sseq, ssne, sscat, sssub, sslen, sssz, ssbyte, toN, ofN, addN, subN, eqN, ltB, leN, imx, imn, inb, leb, sslt, ltN, fit, ne0, ge0, ssfit, minN, inR, bcol, bstr, isBy⟩ : Ops) = std
  tidy : (∀ n, toN (ofN n) = n) ∧ (∀ n, addN 0 n = n) ∧ (∀ n, subN n 0 = n)
theorem names : ∃ (iadd : IntKind → Int → Int → Int) (isub : IntKind → Int → Int → Int) (imul : IntKind → Int → Int → Int) (iquo : IntKind → Int → Int → Int) (irem : Int → Int → Int) (iband : IntKind → Int → Int → Int) (ibor : IntKind → Int → Int → Int) (ibxor : IntKind → Int → Int → Int) (ibandn : IntKind → Int → Int → Int) (ishl : IntKind → Int → Int → Int) (ishr : IntKind → Int → Int → Int) (iconv : IntKind → Int → Int) (ieq : Int → Int → Bool) (ine : Int → Int → Bool) (ilt : Int → Int → Bool) (ile : Int → Int → Bool) (igt : Int → Int → Bool) (ige : Int → Int → Bool) (bbeq : Bool → Bool → Bool) (bbne : Bool → Bool → Bool) (bnot : Bool → Bool) (bband : Bool → Bool → Bool) (sseq : ByteArray → ByteArray → Bool) (ssne : ByteArray → ByteArray → Bool) (sscat : ByteArray → ByteArray → ByteArray) (sssub : ByteArray → Nat → Nat → ByteArray) (sslen : ByteArray → Int) (sssz : ByteArray → Nat) (ssbyte : ByteArray → Nat → Int) (toN : Int → Nat) (ofN : Nat → Int) (addN : Nat → Nat → Nat) (subN : Nat → Nat → Nat) (eqN : Nat → Nat → Bool) (ltB : Nat → Nat → Bool) (leN : Nat → Nat → Prop) (imx : Int → Int → Int) (imn : Int → Int → Int) (inb : Int → Nat → Prop) (leb : Int → Int → Prop) (sslt : ByteArray → ByteArray → Bool) (ltN : Nat → Nat → Prop) (fit : Nat → Nat → Prop) (ne0 : Int → Prop) (ge0 : Int → Prop) (ssfit : ByteArray → ByteArray → Prop) (minN : Nat → Nat → Nat) (inR : Nat → Nat → Nat → Bool) (bcol : ByteArray → Nat → List AV) (bstr : Nat → (Nat → List AV) → ByteArray) (isBy : Nat → (Nat → List AV) → Prop), Nm iadd isub imul iquo irem iband ibor ibxor ibandn ishl ishr iconv ieq ine ilt ile igt ige bbeq bbne bnot bband sseq ssne sscat sssub sslen sssz ssbyte toN ofN addN subN eqN ltB leN imx imn inb leb sslt ltN fit ne0 ge0 ssfit minN inR bcol bstr isBy :=
  ⟨_, _, _, _, _, _, _, _, _, _, _, _, _, _, _, _, _, _, _, _, _, _, _, _, _, _, _, _, _, _, _, _, _, _, _, _, _, _, _, _, _, _, _, _, _, _, _, _, _, _, _, ⟨⟨rfl, rfl, rfl, rfl, rfl, rfl, rfl, rfl, rfl, rfl, rfl, rfl, rfl, rfl, rfl, rfl, rfl, rfl, rfl, rfl, rfl, rfl, rfl, rfl, rfl, rfl, rfl, rfl, rfl, rfl, rfl, rfl, rfl, rfl, rfl, rfl, rfl, rfl, rfl, rfl, rfl, rfl, rfl, rfl, rfl, rfl, rfl, rfl, rfl, rfl, rfl⟩, rfl, ⟨fun _ => rfl, fun n => Nat.zero_add n, fun _ => rfl⟩⟩⟩

section
variable (x y : Int)
theorem iadd_i64 (h : -9223372036854775808 ≤ x + y ∧ x + y ≤ 9223372036854775807) : iadd .i64 x y = x + y := IntWalk.i64_in _ h
theorem isub_i64 (h : -9223372036854775808 ≤ x - y ∧ x - y ≤ 9223372036854775807) : isub .i64 x y = x - y := IntWalk.i64_in _ h
theorem imul_i64 (h : -9223372036854775808 ≤ x * y ∧ x * y ≤ 9223372036854775807) : imul .i64 x y = x * y := IntWalk.i64_in _ h
theorem iconv_i64 (h : -9223372036854775808 ≤ x ∧ x ≤ 9223372036854775807) : iconv .i64 x = x := IntWalk.i64_in _ h
theorem iadd_u64 (h : 0 ≤ x + y ∧ x + y ≤ 18446744073709551615) : iadd .u64 x y = x + y := IntWalk.u64_in _ h
theorem isub_u64 (h : 0 ≤ x - y ∧ x - y ≤ 18446744073709551615) : isub .u64 x y = x - y := IntWalk.u64_in _ h
theorem imul_u64 (h : 0 ≤ x * y ∧ x * y ≤ 18446744073709551615) : imul .u64 x y = x * y := IntWalk.u64_in _ h
theorem iconv_u64 (h : 0 ≤ x ∧ x ≤ 18446744073709551615) : iconv .u64 x = x := IntWalk.u64_in _ h
theorem iadd_u8 (h : 0 ≤ x + y ∧ x + y ≤ 255) : iadd .u8 x y = x + y := IntWalk.u8_in _ h
theorem isub_u8 (h : 0 ≤ x - y ∧ x - y ≤ 255) : isub .u8 x y = x - y := IntWalk.u8_in _ h
theorem iconv_u8 (h : 0 ≤ x ∧ x ≤ 255) : iconv .u8 x = x := IntWalk.u8_in _ h
theorem iadd_u32 (h : 0 ≤ x + y ∧ x + y ≤ 4294967295) : iadd .u32 x y = x + y := IntWalk.u32_in _ h
theorem isub_u32 (h : 0 ≤ x - y ∧ x - y ≤ 4294967295) : isub .u32 x y = x - y := IntWalk.u32_in _ h
theorem iconv_u32 (h : 0 ≤ x ∧ x ≤ 4294967295) : iconv .u32 x = x := IntWalk.u32_in _ h
theorem iadd_i32 (h : -2147483648 ≤ x + y ∧ x + y ≤ 2147483647) : iadd .i32 x y = x + y := IntWalk.i32_in _ h
theorem isub_i32 (h : -2147483648 ≤ x - y ∧ x - y ≤ 2147483647) : isub .i32 x y = x - y := IntWalk.i32_in _ h
theorem iconv_i32 (h : -2147483648 ≤ x ∧ x ≤ 2147483647) : iconv .i32 x = x := IntWalk.i32_in _ h
theorem irem_pos (h : 0 ≤ x) : irem x y = x % y := Int.tmod_eq_emod_of_nonneg h
/-- The operations that wrap, where they don't. -/
theorem wraps :
    (∀ x y : Int, -9223372036854775808 ≤ x + y ∧ x + y ≤ 9223372036854775807 → iadd .i64 x y = x + y) ∧
    (∀ x y : Int, -9223372036854775808 ≤ x - y ∧ x - y ≤ 9223372036854775807 → isub .i64 x y = x - y) ∧
    (∀ x y : Int, -9223372036854775808 ≤ x * y ∧ x * y ≤ 9223372036854775807 → imul .i64 x y = x * y) ∧
    (∀ x : Int, -9223372036854775808 ≤ x ∧ x ≤ 9223372036854775807 → iconv .i64 x = x) ∧
    (∀ x y : Int, 0 ≤ x + y ∧ x + y ≤ 18446744073709551615 → iadd .u64 x y = x + y) ∧
    (∀ x y : Int, 0 ≤ x - y ∧ x - y ≤ 18446744073709551615 → isub .u64 x y = x - y) ∧
    (∀ x y : Int, 0 ≤ x * y ∧ x * y ≤ 18446744073709551615 → imul .u64 x y = x * y) ∧
    (∀ x : Int, 0 ≤ x ∧ x ≤ 18446744073709551615 → iconv .u64 x = x) ∧
    (∀ x y : Int, 0 ≤ x + y ∧ x + y ≤ 255 → iadd .u8 x y = x + y) ∧
    (∀ x y : Int, 0 ≤ x - y ∧ x - y ≤ 255 → isub .u8 x y = x - y) ∧
    (∀ x : Int, 0 ≤ x ∧ x ≤ 255 → iconv .u8 x = x) ∧
    (∀ x y : Int, 0 ≤ x + y ∧ x + y ≤ 4294967295 → iadd .u32 x y = x + y) ∧
    (∀ x y : Int, 0 ≤ x - y ∧ x - y ≤ 4294967295 → isub .u32 x y = x - y) ∧
    (∀ x : Int, 0 ≤ x ∧ x ≤ 4294967295 → iconv .u32 x = x) ∧
    (∀ x y : Int, -2147483648 ≤ x + y ∧ x + y ≤ 2147483647 → iadd .i32 x y = x + y) ∧
    (∀ x y : Int, -2147483648 ≤ x - y ∧ x - y ≤ 2147483647 → isub .i32 x y = x - y) ∧
    (∀ x : Int, -2147483648 ≤ x ∧ x ≤ 2147483647 → iconv .i32 x = x) ∧
    (∀ x y : Int, 0 ≤ x → irem x y = x % y) :=
  ⟨iadd_i64, isub_i64, imul_i64, iconv_i64, iadd_u64, isub_u64, imul_u64, iconv_u64, iadd_u8, isub_u8, iconv_u8, iadd_u32, isub_u32, iconv_u32, iadd_i32, isub_i32, iconv_i32, irem_pos⟩
/-- What the others are. -/
theorem plain :
    (∀ x y : Int, (ieq x y = true) = (x = y)) ∧ (∀ x y : Int, (ieq x y = false) = (x ≠ y)) ∧ (∀ x y : Int, (ine x y = true) = (x ≠ y)) ∧ (∀ x y : Int, (ine x y = false) = (x = y)) ∧
    (∀ x y : Int, (ilt x y = true) = (x < y)) ∧ (∀ x y : Int, (ilt x y = false) = (y ≤ x)) ∧ (∀ x y : Int, (ile x y = true) = (x ≤ y)) ∧ (∀ x y : Int, (ile x y = false) = (y < x)) ∧
    (∀ x y : Int, (igt x y = true) = (y < x)) ∧ (∀ x y : Int, (igt x y = false) = (x ≤ y)) ∧ (∀ x y : Int, (ige x y = true) = (y ≤ x)) ∧ (∀ x y : Int, (ige x y = false) = (x < y)) ∧
    (∀ n : Nat, toN (n : Int) = n) ∧ (∀ n : Nat, toN (no_index (OfNat.ofNat n)) = OfNat.ofNat n) ∧ (∀ n m : Nat, toN ((n : Int) - (m : Int)) = n - m) ∧ (∀ n m : Nat, toN ((n : Int) + (m : Int)) = n + m) ∧
    (∀ n m : Nat, toN ((n : Int) + no_index (OfNat.ofNat m)) = n + OfNat.ofNat m) ∧ (∀ n m : Nat, toN ((n : Int) - no_index (OfNat.ofNat m)) = n - OfNat.ofNat m) ∧
    (∀ n : Nat, ofN n = (n : Int)) ∧ (∀ a b : Nat, addN a b = a + b) ∧ (∀ a b : Nat, subN a b = a - b) ∧ (∀ a b : Nat, minN a b = min a b) ∧ (∀ a b : Nat, leN a b = (a ≤ b)) ∧ (∀ a b : Nat, ltN a b = (a < b)) ∧
    (∀ (i : Int) (n : Nat), inb i n = (0 ≤ i ∧ i < n)) ∧ (∀ i n : Int, leb i n = (0 ≤ i ∧ i ≤ n)) ∧ (∀ n b : Nat, fit n b = (n * b ≤ 140737488355328 ∧ n ≤ 9223372036854775807)) ∧
    (∀ x : Int, ne0 x = (x ≠ 0)) ∧ (∀ x : Int, ge0 x = (0 ≤ x)) ∧ (∀ a b : Nat, (ltB a b = true) = (a < b)) ∧ (∀ a b : Nat, (ltB a b = false) = (b ≤ a)) ∧ (∀ a b : Nat, (eqN a b = true) = (a = b)) ∧ (∀ a b : Nat, (eqN a b = false) = (a ≠ b)) ∧
    (∀ i k j : Nat, (inR i k j = true) = (i ≤ j ∧ j < i + k)) ∧ (∀ i k j : Nat, (inR i k j = false) = ¬ (i ≤ j ∧ j < i + k)) ∧ maxLen = 9223372036854775807 ∧ (∀ b : ByteArray, sssz b = b.size) ∧ (∀ b : ByteArray, sslen b = (b.size : Int)) := by
  refine ⟨?_, ?_, ?_, ?_, ?_, ?_, ?_, ?_, ?_, ?_, ?_, ?_, fun n => rfl, fun n => rfl, fun n m => ?_, fun n m => ?_, fun n m => ?_, fun n m => ?_, fun n => rfl, fun a b => rfl, fun a b => rfl, fun a b => rfl, fun a b => rfl, fun a b => rfl, fun i n => rfl, fun i n => rfl, fun n b => rfl, fun x => rfl, fun x => rfl, ?_, ?_, ?_, ?_, ?_, ?_, rfl, fun b => rfl, fun b => rfl⟩
  all_goals first | (intros; simp [ieq, ine, ilt, ile, igt, ige, ltB, eqN, inR]; done) | (unfold toN; omega) | (show Int.toNat ((n : Int) + (m : Int)) = n + m; omega) | (show Int.toNat ((n : Int) - (m : Int)) = n - m; omega)
end
theorem sti {k : IntKind} {x y : Int} (h : x = y) : AV.int k x = AV.int k y := by rw [h]
theorem slq {o o' i i' n n' : Nat} (h1 : o = o') (h2 : i = i') (h3 : n = n') : AV.sl o i n = AV.sl o' i' n' := by rw [h1, h2, h3]
theorem ptq {o o' i i' n n' : Nat} (h1 : o = o') (h2 : i = i') (h3 : n = n') : AV.ptr o i n = AV.ptr o' i' n' := by rw [h1, h2, h3]
def icol (k : IntKind) (h : Nat → Int) : Nat → List AV := fun j => [.int k (h j)]
theorem rwq {sz n n' : Nat} {f f' : Nat → List AV} (h1 : n = n') (h2 : ∀ j, f j = f' j) : AV.rows sz n f = AV.rows sz n' f' := by rw [h1, funext h2]
theorem icq {k : IntKind} {f g : Nat → Int} {i j : Nat} (h : f i = g j) : icol k f i = icol k g j := by simp only [icol, h]
theorem blq {a b : Bool} (h : a = b) : AV.bool a = AV.bool b := by rw [h]
/-- 'begins', reckoned. -/
def beginsB (n : Nat) (m : List Nat) : Bool := (List.range n).all fun k => m[k]? == some k
theorem begins_of {n : Nat} {m : List Nat} (h : beginsB n m = true) : begins n m := by
  intro k hk
  have := List.all_eq_true.1 h k (by simpa using hk)
  simpa using this
theorem all_lt {m : List Nat} {L : Nat} (h : (m.all fun o => Nat.blt o L) = true) : ∀ o ∈ m, o < L := fun o ho => by simpa using List.all_eq_true.1 h o ho
end Vx

/- Bits of numbers. -/
namespace Vx
open Go
theorem bool_of (p : Prop) : ∃ b : Bool, b = true ↔ p := open Classical in ⟨decide p, by simp⟩
theorem ofInt_nat (n : Nat) (h : n < 9223372036854775808) : (BitVec.ofInt IntKind.i64.bits (n : Int)).toNat = n := by
  rw [BitVec.ofInt_natCast, BitVec.toNat_ofNat]
  exact Nat.mod_eq_of_lt (by show n < 2 ^ 64; omega)
theorem wrap_nat (n : Nat) (h : n < 9223372036854775808) : IntKind.i64.wrap (n : Int) = n := by
  have := iconv_i64 (n : Int) (by omega)
  exact this
theorem iband_nat (a b : Nat) (ha : a < 9223372036854775808) (hb : b < 9223372036854775808) : iband .i64 a b = ((a &&& b : Nat) : Int) := by
  unfold iband bits
  rw [BitVec.toNat_and, ofInt_nat a ha, ofInt_nat b hb]
  exact wrap_nat _ (Nat.lt_of_le_of_lt Nat.and_le_left ha)
theorem ibor_nat (a b : Nat) (ha : a < 9223372036854775808) (hb : b < 9223372036854775808) : ibor .i64 a b = ((a ||| b : Nat) : Int) := by
  unfold ibor bits
  rw [BitVec.toNat_or, ofInt_nat a ha, ofInt_nat b hb]
  exact wrap_nat _ (by
    have : a ||| b < 2 ^ 63 := Nat.or_lt_two_pow (by omega) (by omega)
    omega)
theorem iband_le (x : Int) (m : Nat) (hm : m < 9223372036854775808) : 0 ≤ iband .i64 x m ∧ iband .i64 x m ≤ m := by
  unfold iband bits
  rw [BitVec.toNat_and, ofInt_nat m hm]
  have h := Nat.and_le_right (n := (BitVec.ofInt IntKind.i64.bits x).toNat) (m := m)
  rw [wrap_nat _ (by omega)]
  omega
/-- The bits of a byte that follows. -/
theorem iband63 (x : Int) (h : 0 ≤ x ∧ x ≤ 255) : iband .i64 x 63 = x % 64 := by
  obtain ⟨n, rfl⟩ := Int.eq_ofNat_of_zero_le h.1
  have := iband_nat n 63 (by omega) (by decide)
  rw [show ((63 : Nat) : Int) = 63 from rfl] at this
  rw [this, show (63 : Nat) = 2 ^ 6 - 1 from rfl, Nat.and_two_pow_sub_one_eq_mod]
  omega
theorem ibandn63 (x : Int) (h : 0 ≤ x ∧ x ≤ 255) : ibandn .i64 x 63 = x - x % 64 := by
  obtain ⟨n, rfl⟩ := Int.eq_ofNat_of_zero_le h.1
  have key : ∀ n : _root_.Fin 256, ibandn .i64 ((n.val : Nat) : Int) 63 = ((n.val : Nat) : Int) - ((n.val : Nat) : Int) % 64 := by decide +kernel
  exact key ⟨n, by omega⟩
theorem ishl_nat (a k : Nat) (hk : k ≤ 64) (h : a * 2 ^ k < 9223372036854775808) : ishl .i64 (a : Int) (k : Int) = ((a * 2 ^ k : Nat) : Int) := by
  unfold ishl
  rw [show min (k : Int).toNat IntKind.i64.bits = k from by show min k 64 = k; omega]
  have := wrap_nat (a * 2 ^ k) h
  rw [← this]
  congr 1
/-- Six bits more. -/
theorem six (c x : Int) (hc : 0 ≤ c ∧ c ≤ 1000000000) (hx : 0 ≤ x ∧ x < 64) : ibor .i64 (ishl .i64 c 6) x = 64 * c + x := by
  obtain ⟨a, rfl⟩ := Int.eq_ofNat_of_zero_le hc.1
  obtain ⟨b, rfl⟩ := Int.eq_ofNat_of_zero_le hx.1
  have e1 := ishl_nat a 6 (by decide) (by omega)
  rw [show ((6 : Nat) : Int) = 6 from rfl] at e1
  rw [e1, ibor_nat _ _ (by omega) (by omega)]
  have := Nat.shiftLeft_add_eq_or_of_lt (i := 6) (b := b) (by omega) a
  rw [Nat.shiftLeft_eq] at this
  rw [← this]
  omega
/-- A contract of a function that touches no memory. -/
theorem FSpec.ofCalls {P : Program} {g : FuncId} {k : IntKind} {x : Int} {v : Value} {r : AV} (h : ∀ w, Calls P g #[.int k x] w fun e w' => e = .returned v ∧ w' = w) (hv : ∀ ρ μ, RelV ρ μ r v) : FSpec P g [.int k x] [] (fun r' H' => r' = r ∧ H' = []) := by
  intro ρ μ w vs h1 h2 h3
  have e : vs = #[.int k x] := by
    have hr := h2 0 (by simp)
    simp at hr
    have q := hr.int_inv
    match vs, h1, q with
    | ⟨[y]⟩, _, q => simp at q; rw [q]
  subst e
  refine (h w).mono ?_
  rintro ex w' ⟨rfl, rfl⟩
  exact ⟨v, r, [], ρ, μ, rfl, ⟨rfl, rfl⟩, hv ρ μ, .start h3⟩
theorem RelV.pair {ρ : Rho} {μ : Mu} {k q : IntKind} {a b : Int} : RelV ρ μ (.tup [.int k a, .int q b]) (.tuple #[.int k a, .int q b]) :=
  .tup _ _ _ _ rfl fun j hj => by
    match j, hj with
    | 0, _ => exact .int ..
    | 1, _ => exact .int ..
end Vx

namespace Vx
open Go

/-! ## Objects moved to new places -/
def mvG (n0 : Nat) (m : List Nat) (o : Nat) : Option Nat :=
  match inv m o with
  | some k => some (n0 + k)
  | none => match Nat.blt o n0 with | true => some o | false => none
def mvH (n0 : Nat) (H : Hp) (m : List Nat) : Hp :=
  ((List.range n0).map fun o => match inv m o with | some _ => none | none => (hget H o).map (Ob.ren (mvG n0 m))) ++ m.map fun o => (hget H o).map (Ob.ren (mvG n0 m))
def mvR (n0 : Nat) (ρ : Rho) (m : List Nat) : Rho := fun k => if k < n0 then ρ k else match m[k - n0]? with | some o => ρ o | none => none

theorem inv_none : ∀ {m : List Nat} {o : Nat}, inv m o = none → o ∉ m
  | [], o, _ => by simp
  | x :: r, o, h => by
    simp only [inv] at h
    split at h
    · cases h
    · rename_i hb
      split at h
      · cases h
      · rename_i hn
        have := inv_none hn
        simp only [List.mem_cons, not_or]
        exact ⟨fun e => by subst e; simp at hb, this⟩

section
variable {P : Program} {N : Nat} {f : FuncId} {C : Ctx} {Q : Md} {todo : List Item} {s : Slots} {H : Hp}
theorem mvG_ok {n0 : Nat} {ρ : Rho} {m : List Nat} : ∀ (o o' : Nat) (L : Loc), mvG n0 m o = some o' → ρ o = some L → mvR n0 ρ m o' = some L := by
  intro o o' L hg hL
  simp only [mvG] at hg
  split at hg
  · rename_i k hk
    injection hg with hg
    subst hg
    simp only [mvR]
    rw [if_neg (by omega), show n0 + k - n0 = k by omega, inv_some hk]
    exact hL
  · split at hg
    · rename_i hb
      injection hg with hg
      subst hg
      have : o < n0 := by simpa using hb
      simp only [mvR]
      rw [if_pos this]
      exact hL
    · cases hg

theorem mvH_get {n0 : Nat} {m : List Nat} {k : Nat} {ob : Ob} (h : (mvH n0 H m)[k]? = some (some ob)) : ∃ o ob1, H[o]? = some (some ob1) ∧ ob = ob1.ren (mvG n0 m) ∧ ((k < n0 ∧ o = k ∧ o ∉ m) ∨ (n0 ≤ k ∧ m[k - n0]? = some o)) := by
  simp only [mvH] at h
  rcases Nat.lt_or_ge k n0 with hk | hk
  · rw [List.getElem?_append_left (by simpa using hk)] at h
    simp only [List.getElem?_map, List.getElem?_range hk, Option.map_some, Option.some.injEq] at h
    split at h
    · cases h
    · rename_i hi
      rw [Option.map_eq_some_iff] at h
      obtain ⟨ob1, h1, h2⟩ := h
      exact ⟨k, ob1, hget_some h1, h2.symm, .inl ⟨hk, rfl, inv_none hi⟩⟩
  · rw [List.getElem?_append_right (by simpa using hk)] at h
    simp only [List.length_map, List.length_range, List.getElem?_map] at h
    cases hm : m[k - n0]? with
    | none => simp [hm] at h
    | some o =>
      simp only [hm, Option.map_some, Option.some.injEq, Option.map_eq_some_iff] at h
      obtain ⟨ob1, h1, h2⟩ := h
      exact ⟨o, ob1, hget_some h1, h2.symm, .inr ⟨hk, rfl⟩⟩

theorem St.mv {ρ : Rho} {μ : Mu} {w : World} (h : St C ρ μ H w) {n0 : Nat} (hn0 : C.n0 = n0) (m : List Nat) (hn : m.Nodup) : St C (mvR n0 ρ m) μ (mvH n0 H m) w := by
  have lv : ∀ {k : Nat} {L : Loc}, Live (mvH n0 H m) k → mvR n0 ρ m k = some L → ∃ o, Live H o ∧ ρ o = some L ∧ ((k < n0 ∧ o = k ∧ o ∉ m) ∨ (n0 ≤ k ∧ m[k - n0]? = some o)) := by
    intro k L ⟨ob, hk⟩ hL
    obtain ⟨o, ob1, h1, _, h3⟩ := mvH_get hk
    refine ⟨o, ⟨ob1, h1⟩, ?_, h3⟩
    rcases h3 with ⟨h4, h5, _⟩ | ⟨h4, h5⟩
    · simp only [mvR] at hL
      rw [if_pos h4] at hL
      rw [h5]; exact hL
    · simp only [mvR] at hL
      rw [if_neg (by omega), h5] at hL
      exact hL
  refine ⟨⟨fun k hk => ?_, fun k ob hk => ?_, fun a b L L' ha hb hL hL' hbb => ?_, h.rep.mem, fun k L x hk hL => ?_⟩, ⟨?_, fun o ho => ?_, h.keep.mu, h.keep.size, h.keep.os, h.keep.tape, h.keep.output, h.keep.block, fun k L hk hL => ?_, h.keep.muo⟩⟩
  · simp only [mvH, List.length_append, List.length_map, List.length_range] at hk
    simp only [mvR]
    rw [if_neg (by omega), List.getElem?_eq_none (by omega)]
  · obtain ⟨o, ob1, h1, rfl, h3⟩ := mvH_get hk
    have hρ : mvR n0 ρ m k = ρ o := by
      rcases h3 with ⟨h4, h5, _⟩ | ⟨h4, h5⟩
      · simp only [mvR]; rw [if_pos h4, h5]
      · simp only [mvR]; rw [if_neg (by omega), h5]
    rcases h.rep.obj o ob1 h1 with ⟨L, cs, hat⟩ | ⟨hn0', hz⟩
    · exact .inl ⟨L, cs, hat.ren mvG_ok (by rw [hρ]; exact hat.loc)⟩
    · exact .inr ⟨by rw [hρ]; exact hn0', by simpa [Ob.ren, Cont.ren_n] using hz⟩
  · obtain ⟨o, h1, h2, h3⟩ := lv ha hL
    obtain ⟨o', h1', h2', h3'⟩ := lv hb hL'
    have e := h.rep.distinct o o' L L' h1 h1' h2 h2' hbb
    subst e
    rcases h3 with ⟨a1, a2, a3⟩ | ⟨a1, a2⟩ <;> rcases h3' with ⟨b1, b2, b3⟩ | ⟨b1, b2⟩
    · omega
    · exact absurd (List.mem_of_getElem? b2) a3
    · exact absurd (List.mem_of_getElem? a2) b3
    · have := nodup_inj hn a2 b2
      omega
  · obtain ⟨o, h1, h2, _⟩ := lv hk hL
    exact h.rep.sep o L x h1 h2
  · simp only [mvH, List.length_append, List.length_map, List.length_range]; omega
  · simp only [mvR]
    rw [if_pos (by omega)]
    exact h.keep.rho o ho
  · obtain ⟨o, h1, h2, _⟩ := lv hk hL
    exact h.keep.own o L h1 h2
/-- A contract whose end is told with objects in new places. -/
theorem FSpec.mv {P : Program} {g : FuncId} {args : List AV} {H : Hp} {Q Q' : AV → Hp → Prop} (h : FSpec P g args H Q) (hq : ∀ r H', Q r H' → ∃ m : List Nat, m.Nodup ∧ Q' (r.ren (mvG H.length m)) (mvH H.length H' m)) : FSpec P g args H Q' := by
  intro ρ μ w vs h1 h2 h3
  refine (h ρ μ w vs h1 h2 h3).mono ?_
  rintro e w' ⟨v, r, H', ρ', μ', rfl, hQ, hr, hst⟩
  obtain ⟨m, c1, c3⟩ := hq r H' hQ
  exact ⟨v, _, _, mvR H.length ρ' m, μ', rfl, c3, hr.ren mvG_ok, hst.mv rfl m c1⟩
end
end Vx

namespace Vx
open Go

/-! ## Maps that are made once, and then only looked into -/
section
variable {P : Program} {N : Nat} {f : FuncId} {C : Ctx} {Q : AV → Hp → Prop} {k : List Item} {s : Slots} {H : Hp}

/-- What is shown from a later point on. -/
theorem St.rebase {ρ : Rho} {μ : Mu} {w : World} (h : St C ρ μ H w) {ρ' : Rho} {μ' : Mu} {H' : Hp} {w' : World} {n : Nat} (hn : C.n0 ≤ n) (h' : St ⟨w, ρ, μ, H, n⟩ ρ' μ' H' w') : St C ρ' μ' H' w' := by
  have ownC : ∀ b, (⟨w, ρ, μ, H, n⟩ : Ctx).own b → C.own b := by
    intro b how
    rcases how with h1 | ⟨o, L, ho, hL, hb⟩
    · have := h.keep.size; simp only at h1; exact .inl (by omega)
    · rw [← hb]; exact h.keep.own o L ho hL
  refine ⟨h'.rep, ⟨Nat.le_trans hn h'.keep.hl, fun o ho => ?_, h.keep.mu.trans h'.keep.mu, Nat.le_trans h.keep.size h'.keep.size, h'.keep.os.trans h.keep.os, h'.keep.tape.trans h.keep.tape, h'.keep.output.trans h.keep.output, fun b hb => ?_, fun o L ho hL => ?_, fun b x hb => ?_⟩⟩
  · rw [h'.keep.rho o (Nat.lt_of_lt_of_le ho hn)]; exact h.keep.rho o ho
  · rw [h'.keep.block b (fun h1 => hb (ownC b h1))]; exact h.keep.block b hb
  · exact ownC _ (h'.keep.own o L ho hL)
  · rw [h'.keep.muo b x (fun h1 => hb (ownC b h1))]; exact h.keep.muo b x hb
theorem V.rebase {todo : List Item} (p : Ctx → Prop) (hp : ∀ ρ μ a w, RelS ρ μ N s a → St C ρ μ H w → p ⟨w, ρ, μ, H, H.length⟩) (k : ∀ C' : Ctx, C'.n0 = H.length → p C' → V P f N C' (.norm Q) todo s H) : V P f N C (.norm Q) todo s H := by
  intro ρ μ a w hs hst b cs hb hk hro
  obtain ⟨ex, a', w', fr, hfin, hd, hc, hx⟩ := k ⟨w, ρ, μ, H, H.length⟩ rfl (hp ρ μ a w hs hst) ρ μ a w hs (.start hst.rep) b cs hb hk hro
  cases ex with
  | ret =>
    obtain ⟨fn, v, r, H', ρ', μ', h0, h1, h2, h3, h4⟩ := hfin
    exact ⟨.ret, a', w', fr, ⟨fn, v, r, H', ρ', μ', h0, h1, h2, h3, hst.rebase hst.keep.hl h4⟩, hd, hc, hx⟩
  | leave j => exact hfin.elim
  | panic v => exact hfin.elim
  | at_ todo0 => exact hfin.elim

/-- A map that is there, and is no object's. -/
def HasMap (C : Ctx) (b : Nat) (es : Array MapEntry) (clock : Nat) : Prop := C.w0.heap[b]? = some (.map es clock) ∧ ¬ C.own b
theorem HasMap.now {b : Nat} {es : Array MapEntry} {clock : Nat} (h : HasMap C b es clock) {ρ : Rho} {μ : Mu} {w : World} (hst : St C ρ μ H w) : w.heap[b]? = some (.map es clock) := by
  rw [hst.keep.block b h.2]; exact h.1

/-- A call that makes a map. -/
theorem V.callMap {ops : Array Oper} {i : Nat} {rest : List Nat} {o : Oper} (ho : ops[i]? = some o) (hw : awant ops s o.guard = .yes) (hd : dstOk N o.dst = true)
    {fo : Operand} {ts : Array TypeId} (hop : o.op = .call ⟨.value fo, #[], ts⟩) {g : FuncId} (hf : aeval s fo = .fn (.func g) [] [])
    {fn : Func} (hg : P.funcs[g]? = some fn) (hb : fn.body.isNone = false) (hnm : (fn.name == "runtime.NumGoroutine") = false)
    {es : Array MapEntry} {clock : Nat} (spec : ∀ w, Calls P g #[] w fun e w' => e = .returned (.map (some w.heap.size)) ∧ w' = w.alloc (.map es clock))
    (cont : ∀ (C' : Ctx) (b : Nat), C'.n0 = H.length → HasMap C' b es clock → V P f N C' (.norm Q) (.inRegion ops rest :: k) (putS s o.dst (.mp b)) H) :
    V P f N C (.norm Q) (.inRegion ops (i :: rest) :: k) s H := by
  intro ρ μ a w hs hst b cs hbf hk hro
  have h2 := aeval_rel hs fo
  rw [hf] at h2
  generalize hv : a.eval fo = v at h2
  cases h2 with
  | fn _ _ _ _ _ us vs hl hl' hr hr' =>
    have e1 : us = #[] := Array.eq_empty_of_size_eq_zero (by simpa using hl)
    have e2 : vs = #[] := Array.eq_empty_of_size_eq_zero (by simpa using hl')
    subst e1 e2
    have hrun : (execOp a.eval o).run P w = .ok (.enter g #[]) w := by
      have hnm' : ¬ fn.name = "runtime.NumGoroutine" := by simpa using hnm
      have hb' : ¬ fn.body = none := by intro e; rw [e] at hb; cases hb
      simp [execOp, hop, resolve, hv, Deferred.ofValue, invoke, callFunc, hg, hb', hnm']
    have hwt := (awant_sound hs ops o).1 hw
    have hgs := stepGR_op (P := P) (b := b) (k := k) (cs := cs) (w := w) (rest := rest) ho hwt
    rw [semAt_of b.roundOf hrun (fun _ h => by cases h)] at hgs
    have hfin : ∀ v, (b.atR a (.inRegion ops (i :: rest) :: k)).finish v = b.atR (a.put o.dst v) (.inRegion ops rest :: k) := by
      intro v; rw [Frame.finish_atR, ho]; rfl
    obtain ⟨e, w', fr, ⟨rfl, rfl⟩, hcomes, _, hleave⟩ := spec w (b.atR a (.inRegion ops (i :: rest) :: k) :: cs)
    have henter : step P (lone (b.atR a (.inRegion ops (i :: rest) :: k)) cs w) = .next (lone (Frame.enter P g #[] .normal) (b.atR a (.inRegion ops (i :: rest) :: k) :: cs) w) :=
      step_lone_go (by rw [hgs]; simp [stepG.apply, hrun, Frame.atR])
    have hback := step_leave_returned (c := b.atR a (.inRegion ops (i :: rest) :: k)) (cs := cs) hleave
    rw [hfin] at hback
    have hst1 := hst.allocRaw (.map es clock)
    have hst' : St ⟨w.alloc (.map es clock), ρ, μ, H, H.length⟩ ρ μ H (w.alloc (.map es clock)) := ⟨hst1.rep, ⟨Nat.le_refl _, fun _ _ => rfl, MuLe.refl _, Nat.le_refl _, rfl, rfl, rfl, fun _ _ => rfl, fun o L ho hL => .inr ⟨o, L, ho, hL, rfl⟩, fun _ _ _ => rfl⟩⟩
    have hmap : HasMap ⟨w.alloc (.map es clock), ρ, μ, H, H.length⟩ w.heap.size es clock := by
      refine ⟨heap_alloc_new w _, ?_⟩
      rintro (h1 | ⟨o, L, h1, h2, h3⟩)
      · simp at h1; omega
      · have := hst.rep.blk h1 h2
        omega
    obtain ⟨ex, a2, w2, fr2, hfin2, hd2, hc, hx⟩ := cont ⟨w.alloc (.map es clock), ρ, μ, H, H.length⟩ w.heap.size rfl hmap ρ μ (a.put o.dst (.map (some w.heap.size))) (w.alloc (.map es clock)) (hs.putS hd (.mp ..)) hst' b cs hbf hk hro
    cases ex with
    | ret =>
      obtain ⟨fn', v, r, H', ρ', μ', q0, q1, q2, q3, q4⟩ := hfin2
      exact ⟨.ret, a2, w2, fr2, ⟨fn', v, r, H', ρ', μ', q0, q1, q2, q3, hst1.rebase hst1.keep.hl q4⟩, hd2.trans (put_defers a _ _), .head henter (Steps.trans hcomes (Steps.trans (.one hback) hc)), hx⟩
    | leave j => exact hfin2.elim
    | panic v => exact hfin2.elim
    | at_ todo0 => exact hfin2.elim

/-- What a look-up of a number among numbers comes to. -/
def seek (c : Int) : List (Int × Value) → Option Value
  | [] => none
  | p :: r => if c = p.1 then some p.2 else seek c r
theorem seek_mem {c : Int} : ∀ {ps : List (Int × Value)} {v : Value}, seek c ps = some v → ∃ p ∈ ps, p.2 = v
  | [], _, h => by simp [seek] at h
  | p :: ps, v, h => by
    rw [seek] at h
    split at h
    · exact ⟨p, by simp, by simpa using h⟩
    · obtain ⟨q, hq, h2⟩ := seek_mem h
      exact ⟨q, by simp [hq], h2⟩
theorem findNow_seek (kk : IntKind) (c : Int) : ∀ (es : List MapEntry) (ps : List (Int × Value)) (i : Nat), es.map (fun e => (e.key, e.val)) = ps.map (fun p => (Value.int kk p.1, p.2)) →
    ∃ j, Instr.findNow (.int kk) (.int kk c) es i = some ((seek c ps).map fun v => (j, v))
  | [], [], i, _ => ⟨0, rfl⟩
  | [], _ :: _, _, h => by simp at h
  | _ :: _, [], _, h => by simp at h
  | e :: es, p :: ps, i, h => by
    simp only [List.map_cons, List.cons.injEq, Prod.mk.injEq] at h
    obtain ⟨⟨h1, h2⟩, h3⟩ := h
    simp only [Instr.findNow, h1, Instr.sameNow, if_true, seek, h2]
    by_cases hc : c = p.1
    · subst hc
      exact ⟨i, by simp⟩
    · have : (c == p.1) = false := by simpa using hc
      rw [this, if_neg hc]
      exact findNow_seek kk c es ps (i + 1) h3

/-- A look-up by a number in such a map, with 'ok'. -/
theorem V.lookup {ops : Array Oper} {i : Nat} {rest : List Nat} {o : Oper} (ho : ops[i]? = some o) (hw : awant ops s o.guard = .yes) (hd : dstOk N o.dst = true)
    {t : TypeId} {x y : Operand} (hop : o.op = .lookup t x y true) {b : Nat} (hx : aeval s x = .mp b) {kk : IntKind} {c : Int} (hy : aeval s y = .int kk c) {es : Array MapEntry} {clock : Nat} (hm : HasMap C b es clock)
    {kt et : TypeId} (hu : P.underlying t = some (.map kt et)) (hk : P.underlying kt = some (.int kk)) {z : Value} {az : AV} (hz : ∀ w, (zeroValue et).run P w = .ok z w) (haz : RelV rho0 mu0 az z)
    (ps : List (Int × Value)) (hps : es.toList.map (fun e => (e.key, e.val)) = ps.map (fun p => (Value.int kk p.1, p.2))) (av : Value → AV) (hav : ∀ p ∈ ps, RelV rho0 mu0 (av p.2) p.2)
    (yes : ∀ v, seek c ps = some v → V P f N C (.norm Q) (.inRegion ops rest :: k) (putS s o.dst (.tup [av v, .bool true])) H)
    (no : seek c ps = none → V P f N C (.norm Q) (.inRegion ops rest :: k) (putS s o.dst (.tup [az, .bool false])) H) :
    V P f N C (.norm Q) (.inRegion ops (i :: rest) :: k) s H := by
  have tup2 : ∀ {ρ : Rho} {μ : Mu} {p q : AV} {u v : Value}, RelV ρ μ p u → RelV ρ μ q v → RelV ρ μ (.tup [p, q]) (.tuple #[u, v]) := fun h1 h2 => .tup _ _ _ _ rfl (fun j hj => by
    match j, hj with
    | 0, _ => exact h1
    | 1, _ => exact h2)
  have run : ∀ ρ μ a w, RelS ρ μ N s a → St C ρ μ H w → (execOp a.eval o).run P w = .ok (.value (.tuple #[(seek c ps).getD z, .bool (seek c ps).isSome])) w := by
    intro ρ μ a w hs hst
    have r1 := aeval_rel hs x
    rw [hx] at r1
    have r2 := (hy ▸ aeval_rel hs y : RelV ρ μ (.int kk c) (a.eval y)).int_inv
    generalize hv : a.eval x = v at r1
    cases r1
    have hb := hm.now hst
    obtain ⟨j, hj⟩ := findNow_seek kk c es.toList ps 0 hps
    have g1 := Go.MapKept.run_getObj_map (P := P) hb
    have g2 := Go.MapKept.run_checkKey (P := P) (w := w) (k := .int kk c) hk (by simp [Go.MapKept.IsKey]) es.isEmpty 9999
    have g3 := Go.MapKept.run_findKey (P := P) (w := w) (k := .int kk c) hk hj
    have main : (Instr.lookup t (.map (some b)) (.int kk c) true).run P w = .ok (.tuple #[(seek c ps).getD z, .bool (seek c ps).isSome]) w := by
      unfold Instr.lookup
      simp only [Sem.run_bind, run_underlying hu, Result.andThen, g1, Sem.run_pure, g2, g3]
      cases seek c ps with
      | none => simp [hz]
      | some v => simp
    simp [execOp, hop, hv, r2, main]
  have go : ∀ (r : AV) (q : Value), RelV rho0 mu0 r q → .tuple #[(seek c ps).getD z, .bool (seek c ps).isSome] = q → V P f N C (.norm Q) (.inRegion ops rest :: k) (putS s o.dst r) H → V P f N C (.norm Q) (.inRegion ops (i :: rest) :: k) s H := by
    intro r q hr hq h
    refine V.steps h fun ρ μ a w hs hst => ?_
    have hrun := run ρ μ a w hs hst
    rw [hq] at hrun
    refine ⟨ρ, μ, a.put o.dst q, w, hs.putS hd (hr.mono (rho0_le _) (mu0_le _)), hst, put_defers a _ _, fun b cs _ _ => ?_⟩
    have hwt := (awant_sound hs ops o).1 hw
    have hg := stepGR_op (P := P) (b := b) (k := k) (cs := cs) (w := w) (rest := rest) ho hwt
    have hfin : ∀ v, (b.atR a (.inRegion ops (i :: rest) :: k)).finish v = b.atR (a.put o.dst v) (.inRegion ops rest :: k) := by
      intro v; rw [Frame.finish_atR, ho]; rfl
    rw [semAt_of b.roundOf hrun (fun _ h => by cases h)] at hg
    refine .one (step_lone_go ?_)
    rw [hg, ← hfin]; simp [stepG.apply, hrun]
  cases hsk : seek c ps with
  | some v =>
    obtain ⟨p, hp, rfl⟩ := seek_mem hsk
    exact go _ _ (tup2 (hav p hp) (.bool _ _ true)) (by rw [hsk]; rfl) (yes _ hsk)
  | none =>
    exact go _ _ (tup2 haz (.bool _ _ false)) (by rw [hsk]; rfl) (no hsk)
end
end Vx

namespace Vx
open Go

/-! ## A nil slice in an object -/
section
variable {P : Program} {N : Nat} {f : FuncId} {C : Ctx} {Q : Md} {todo : List Item} {s : Slots} {H : Hp}
theorem St.weakRow {ρ : Rho} {μ : Mu} {w : World} (h : St C ρ μ H w) {o e sz : Nat} {row row' : List AV} (ho : H[o]? = some (some ⟨e, sz, .lit [row]⟩)) (hl : row'.length = row.length)
    (hr : ∀ (j : Nat) (v : Value), RelV ρ μ (row.getD j .top) v → RelV ρ μ (row'.getD j .top) v) : St C ρ μ (H.set o (some ⟨e, sz, .lit [row']⟩)) w := by
  rcases h.rep.obj o _ ho with ⟨L, cs, hat⟩ | ⟨hn, hz⟩
  · refine h.write ho hat w cs _ rfl rfl rfl rfl (fun _ _ => rfl) hat.heap rfl rfl rfl hat.n (fun i hi => ?_) (fun i j hi hj => ?_) hat.one
    · obtain rfl : i = 0 := by simp only [Cont.n, List.length_cons, List.length_nil] at hi; omega
      have := hat.len 0 (by simp [Cont.n])
      simp only [Cont.f, List.getD_cons_zero] at this ⊢
      rw [hl]; exact this
    · obtain rfl : i = 0 := by simp only [Cont.n, List.length_cons, List.length_nil] at hi; omega
      have := hat.rel 0 j (by simp [Cont.n]) hj
      simp only [Cont.f, Cont.rho, List.getD_cons_zero] at this ⊢
      exact hr _ _ this
  · simp [Cont.n] at hz

theorem V.weakRow (o : Nat) {e sz : Nat} {row : List AV} (row' : List AV) (ho : hget H o = some ⟨e, sz, .lit [row]⟩) (hl : row'.length = row.length)
    (hr : ∀ ρ μ (j : Nat) (v : Value), RelV ρ μ (row.getD j .top) v → RelV ρ μ (row'.getD j .top) v) (k : V P f N C Q todo s (setO H o (some ⟨e, sz, .lit [row']⟩))) : V P f N C Q todo s H :=
  V.steps k fun ρ μ a w hs hst => ⟨ρ, μ, a, w, hs, by rw [setO_eq]; exact hst.weakRow (hget_some ho) hl (hr ρ μ), rfl, fun _ _ _ _ => .refl _ _⟩

/-- An object without memory is there. -/
theorem V.newEmpty (e sz : Nat) (g : Nat → List AV) (k : V P f N C Q todo s (app H (some ⟨e, sz, .arr 0 g⟩))) : V P f N C Q todo s H :=
  V.steps k fun ρ μ a w hs hst => ⟨ρ, μ, a, w, hs, by rw [app_eq]; exact hst.phantom _ rfl, rfl, fun _ _ _ _ => .refl _ _⟩

theorem setRel {row : List AV} {j o : Nat} (hj : row.getD j .top = .nil .slice) : ∀ ρ μ (i : Nat) (v : Value), RelV ρ μ (row.getD i .top) v → RelV ρ μ ((row.set j (.sl o 0 0)).getD i .top) v := by
  intro ρ μ i v h
  by_cases he : j = i
  · subst he
    rw [hj] at h
    cases h
    rw [List.getD_eq_getElem?_getD, List.getElem?_set]
    simp only [if_true]
    split
    · exact .slNil ..
    · exact .top ..
  · rw [List.getD_eq_getElem?_getD, List.getElem?_set, if_neg he, ← List.getD_eq_getElem?_getD]
    exact h

/-- A nil slice in an object is a slice of an object without memory. -/
theorem V.phantomOb (o j e sz : Nat) (g : Nat → List AV) {e0 sz0 : Nat} {row : List AV} (ho : hget H o = some ⟨e0, sz0, .lit [row]⟩) (hj : row.getD j .top = .nil .slice)
    (k : V P f N C Q todo s (app (setO H o (some ⟨e0, sz0, .lit [row.set j (.sl H.length 0 0)]⟩)) (some ⟨e, sz, .arr 0 g⟩))) : V P f N C Q todo s H :=
  V.weakRow o _ ho (by simp) (setRel hj) (V.newEmpty e sz g k)
/-- Objects in new places, behind those that were handed in. -/
theorem V.mv {n0 : Nat} (hn0 : C.n0 = n0) (m : List Nat) (hn : m.Nodup) {s' : Slots} {H' : Hp} (hH : mvH n0 H m = H') (hs : renS (mvG n0 m) s = s') (k : V P f N C Q todo s' H') : V P f N C Q todo s H := by
  subst hH hs
  refine V.steps k fun ρ μ a w hs hst => ⟨mvR n0 ρ m, μ, a, w, ⟨hs.size, hs.defers, fun t => ?_⟩, hst.mv hn0 m hn, rfl, fun _ _ _ _ => .refl _ _⟩
  rw [look_renS]
  exact (hs.v t).ren mvG_ok
end
end Vx

namespace Vx
open Go

/-! ## Slices that are handed back as values; a region cut from what follows -/
theorem FSpec.freeze {P : Program} {g : FuncId} {args : List AV} {e sz n : Nat} {f : Nat → List AV} (hp : 0 < sz) (h : FSpec P g args [] (fun r H' => r = .sl 0 0 n ∧ H' = [some ⟨e, sz, .arr n f⟩])) : FSpec P g args [] (fun r H' => r = .rows sz n f ∧ H' = []) := by
  intro ρ μ w vs h1 h2 h3
  refine (h ρ μ w vs h1 h2 h3).mono ?_
  rintro ex w' ⟨v, r, H', ρ', μ', rfl, ⟨rfl, rfl⟩, hr, hst⟩
  have ho' : ([some ⟨e, sz, .arr n f⟩] : Hp)[0]? = some (some ⟨e, sz, .arr n f⟩) := rfl
  have fin : ∀ μ'', St ⟨w, ρ, μ, [], 0⟩ ρ' μ'' [none] w' → RelV ρ' μ'' (.rows sz n f) v → Post ⟨w, ρ, μ, [], 0⟩ (fun r H' => r = .rows sz n f ∧ H' = []) (.returned v) w' := fun μ'' hst' hr' =>
    ⟨v, _, [], _, μ'', rfl, ⟨rfl, rfl⟩, hr'.to (N := 0) rfl (fun o ho => by omega), hst'.cov (H' := []) trivial (Nat.le_refl _)⟩
  cases hr with
  | sl _ _ _ _ _ c xo L hL hc hn' hxo =>
    obtain ⟨L', cs, hat⟩ := hst.rep.at_ ho' hL
    obtain rfl : L' = L := Option.some.inj (hat.loc.symm.trans hL)
    obtain ⟨hst', hm⟩ := hst.freeze ho' hat
    have es : L'.sz = sz := hat.sz.symm
    refine fin _ hst' ?_
    refine .rows _ _ _ _ _ _ _ L'.b xo (fun p q => cs.getD (p * L'.sz + q) undef) (fun p hp => by rw [← es]; exact hat.len _ hp) hp (fun p q hp hq => by
      rw [← es] at hq
      exact (hat.imm (fun rows hr => by cases hr) hp hq).mono (RhoLe.refl _) hm) (fun p q hp hq => ?_) hn' (by have := hat.max; omega)
    have hx : xo = 0 := by rcases hxo with h | h <;> omega
    rw [← es] at hq ⊢
    refine ⟨rfl, ?_⟩
    have hlt : p * L'.sz + q < cs.size := hat.lt (by have := hat.n; simp only [Cont.n] at this; omega) hq
    have e1 : xo + p * L'.sz + q = p * L'.sz + q := by omega
    rw [e1]
    simp only [frz]
    rw [if_pos ⟨trivial, hlt⟩]
    simp [hlt]
  | slNil =>
    exact fin μ' (hst.kill 0) (.rows _ _ _ _ none 0 _ 0 0 (fun _ _ => undef) (fun p hp => by omega) hp (fun p q hp => by omega) (fun p q hp => by omega) (Nat.le_refl _) (by simp))
section
variable {P : Program} {T : Tab} {N : Nat} {f : FuncId} {C : Ctx} {Q : Md} {s : Slots} {H : Hp} {k : List Item} {ops : Array Oper}
theorem AnyT.mono {K K' : Slots → Hp → Prop} (hK : ∀ s H, K s H → K' s H) : ∀ (t : Tr) (s : Slots) (H : Hp), AnyT P T N ops K t s H → AnyT P T N ops K' t s H := by
  intro t
  induction t with
  | done => exact fun s H h => hK s H h
  | none => exact fun s H h => trivial
  | one i e t ih => exact fun s H ⟨h1, R, h2, h3⟩ => ⟨h1, R, h2, fun r H' hR => ih _ _ (h3 r H' hR)⟩
  | alt i t rest iht ihr => exact fun s H ⟨⟨R, h2, h3⟩, h4⟩ => ⟨⟨R, h2, fun r H' hR => iht _ _ (h3 r H' hR)⟩, ihr _ _ h4⟩
/-- What follows a region that draws its order is shown once, whatever the order. -/
theorem V.drawnK (hT : TabOk P T) (hm : P.follows .mixedOrders = true) {id : Nat} (t : Tr) (K : Slots → Hp → Prop) (ho : ordOk T ops t = true) (h1 : AnyT P T N ops K t s H) (h2 : ∀ s H, K s H → V P f N C Q k s H) : V P f N C Q (.code (.region id ops true) :: k) s H :=
  V.drawn hT hm ho (AnyT.mono h2 _ _ _ h1)
theorem AnyT.goK (hT : TabOk P T) {O : Ops} (hO : O = std) {K : Slots → Hp → Prop} {l : Tr} (h : ∀ (KK : Slots → Hp → Prop) (VA : Tr → Slots → Hp → Prop), KK = K → VA = AnyT P T N ops K → ax T O N VA ops KK l s H) : AnyT P T N ops K l s H := by
  subst hO
  exact ax_sound (fun _ _ h => h) (fun _ _ _ h => h) _ _ _ (h _ _ rfl rfl)
end
end Vx

namespace Vx
open Go

/-! ## From a contract to what a law's frame asks for -/
/-- The memory as it is: no object is written. -/
def muOf (w : World) : Mu := fun b x => match w.cell? ⟨b, x, none⟩ with
  | some v => if v.oneCell' = true then some v else none
  | none => none
theorem muOf_some {w : World} {b x : Nat} {v : Value} (h : w.cell? ⟨b, x, none⟩ = some v) (hv : v.oneCell' = true) : muOf w b x = some v := by
  simp [muOf, h, hv]
theorem rep0 (w : World) : Rep rho0 (muOf w) [] w := by
  refine ⟨fun o _ => rfl, fun o ob h => by simp at h, fun o o' L L' h => ?_, fun b x v h => ?_, fun o L x h => ?_⟩
  · obtain ⟨_, h⟩ := h; simp at h
  · simp only [muOf] at h
    cases hc : w.cell? ⟨b, x, none⟩ with
    | none => rw [hc] at h; cases h
    | some u =>
      rw [hc] at h
      simp only at h
      split at h
      · rename_i hu
        injection h with h
        subst h
        exact ⟨rfl, hu⟩
      · cases h
  · obtain ⟨_, h⟩ := h; simp at h

theorem FSpec.run {P : Program} {g : FuncId} {args : List AV} {Q : AV → Hp → Prop} (h : FSpec P g args [] Q) (w : World) (vs : Array Value) (hl : vs.size = args.length)
    (ha : ∀ j, j < args.length → RelV rho0 (muOf w) (args.getD j .top) (vs.getD j undef)) : Calls P g vs w fun e w' => ∃ v r H' ρ μ, e = .returned v ∧ Q r H' ∧ RelV ρ μ r v ∧ Go.RowKit.Below w.heap.size w w' := by
  refine (h rho0 (muOf w) w vs hl ha (rep0 w)).mono ?_
  rintro e w' ⟨v, r, H', ρ', μ', e1, e2, e3, e4⟩
  refine ⟨v, r, H', ρ', μ', e1, e2, e3, ⟨e4.keep.os, e4.keep.tape, e4.keep.output, e4.keep.size, fun k hk => e4.keep.block k ?_⟩⟩
  rintro (h1 | ⟨o, L, ⟨_, h1⟩, _⟩)
  · simp only at h1; omega
  · simp at h1

theorem FSpec.law {P : Program} {g : FuncId} {args : List AV} (h : FSpec P g args [] (fun r H' => r = .bool true ∧ H' = [])) (w : World) (vs : Array Value) (hl : vs.size = args.length)
    (ha : ∀ j, j < args.length → RelV rho0 (muOf w) (args.getD j .top) (vs.getD j undef)) : Calls P g vs w fun e w' => e = .returned (.bool true) ∧ Go.RowKit.Below w.heap.size w w' := by
  refine (h.run w vs hl ha).mono ?_
  rintro e w' ⟨v, r, H', ρ, μ, rfl, ⟨rfl, _⟩, hr, hb⟩
  exact ⟨by rw [hr.bool_inv], hb⟩

/-- A slice of integers that came in. -/
theorem rows_in {k : IntKind} {w : World} {a : Option Addr} {len cap : Nat} {zs : List Int} (h : (a = none ∧ len = 0 ∧ cap = 0 ∧ zs = []) ∨
    ∃ x : Addr, a = some x ∧ len ≤ cap ∧ cap ≤ maxLen ∧ zs.length = cap ∧ (∀ i, i < zs.length → w.cell? (x.add i) = some (.int k (zs.getD i 0))) ∧ ∀ n ∈ zs, (Lit.int k n).wf = true) :
    RelV rho0 (muOf w) (.rows 1 len (icol k fun i => zs.getD i 0)) (.slice a len cap) := by
  rcases h with ⟨rfl, rfl, rfl, rfl⟩ | ⟨x, rfl, h1, h2, h3, h4, _⟩
  · exact .rows _ _ _ _ _ _ _ 0 0 (fun _ _ => undef) (fun _ _ => rfl) (by decide) (fun i j hi => absurd hi (Nat.not_lt_zero _)) (fun i j hi => absurd hi (Nat.not_lt_zero _)) (Nat.le_refl _) (Nat.zero_le _)
  · refine .rows _ _ _ _ _ _ _ x.block x.off (fun i _ => .int k (zs.getD i 0)) (fun _ _ => rfl) (by decide) (fun i j hi hj => ?_) (fun i j hi hj => ?_) h1 h2
    · obtain rfl : j = 0 := by omega
      exact .int ..
    · obtain rfl : j = 0 := by omega
      have hc := h4 i (by omega)
      obtain ⟨b, o, sp⟩ := x
      have hadd : (⟨b, o, sp⟩ : Addr).add i = ⟨b, o + i, sp⟩ ∨ (⟨b, o, sp⟩ : Addr).add i = ⟨b, o + i, none⟩ := by
        unfold Addr.add
        split
        · rename_i h0; subst h0; exact .inl rfl
        · exact .inr rfl
      have h0 := h4 0 (by omega)
      have hz : (⟨b, o, sp⟩ : Addr).add 0 = ⟨b, o, sp⟩ := by simp [Addr.add]
      rw [hz] at h0
      obtain rfl : sp = none := by
        cases sp with
        | none => rfl
        | some y =>
          simp only [World.cell?, Option.isSome_some, if_true] at h0
          split at h0 <;> cases h0
      refine ⟨rfl, muOf_some ?_ rfl⟩
      rcases hadd with e | e <;> rw [e] at hc <;> simpa using hc
theorem int_in {ρ : Rho} {μ : Mu} (k : IntKind) (n : Int) : RelV ρ μ (.int k n) (.int k n) := .int ..
end Vx

namespace Vx
open Go

/-! ## Panics, and closures that are called behind a function -/
def PostP (C : Ctx) (Q R : AV → Hp → Prop) (e : Ending) (w' : World) : Prop :=
  (∃ v r H' ρ' μ', e = .returned v ∧ Q r H' ∧ RelV ρ' μ' r v ∧ St C ρ' μ' H' w') ∨
  (∃ v r H' ρ' μ', e = .panicked [{ v, recovered := false }] ∧ R r H' ∧ RelV ρ' μ' r v ∧ St C ρ' μ' H' w')
/-- The contract of a function that may panic. -/
def FSpecP (P : Program) (g : FuncId) (args : List AV) (H : Hp) (Q R : AV → Hp → Prop) : Prop :=
  ∀ ρ μ w (vs : Array Value), vs.size = args.length → (∀ j, j < args.length → RelV ρ μ (args.getD j .top) (vs.getD j undef)) → Rep ρ μ H w →
    Calls P g vs w (PostP ⟨w, ρ, μ, H, H.length⟩ Q R)
theorem FSpec.may {P : Program} {g : FuncId} {args : List AV} {H : Hp} {Q : AV → Hp → Prop} (R : AV → Hp → Prop) (h : FSpec P g args H Q) : FSpecP P g args H Q R :=
  fun ρ μ w vs h1 h2 h3 => (h ρ μ w vs h1 h2 h3).mono fun _ _ h => .inl h
theorem FSpecP.mono {P : Program} {g : FuncId} {args : List AV} {H : Hp} {Q R Q' R' : AV → Hp → Prop} (h : FSpecP P g args H Q R) (hq : ∀ r H', Q r H' → Q' r H') (hr : ∀ r H', R r H' → R' r H') : FSpecP P g args H Q' R' :=
  fun ρ μ w vs h1 h2 h3 => (h ρ μ w vs h1 h2 h3).mono fun _ _ h => h.imp (fun ⟨v, r, H', ρ', μ', e1, e2, e3, e4⟩ => ⟨v, r, H', ρ', μ', e1, hq _ _ e2, e3, e4⟩) (fun ⟨v, r, H', ρ', μ', e1, e2, e3, e4⟩ => ⟨v, r, H', ρ', μ', e1, hr _ _ e2, e3, e4⟩)
theorem FSpecP.sure {P : Program} {g : FuncId} {args : List AV} {H : Hp} {Q R : AV → Hp → Prop} (h : FSpecP P g args H Q R) (hr : ∀ r H', ¬ R r H') : FSpec P g args H Q :=
  fun ρ μ w vs h1 h2 h3 => (h ρ μ w vs h1 h2 h3).mono fun _ _ h => h.elim id (fun ⟨_, _, _, _, _, _, e2, _, _⟩ => absurd e2 (hr _ _))

/-- What is asked where a frame raises a panic. -/
def Md.raises : Md → AV → Slots → Hp → Prop
  | .may _ R, r, _, H => R r H
  | .state _ R, r, s, H => R r s H
  | _, _, _, _ => False
section
variable {P : Program} {f : FuncId} {N : Nat} {C : Ctx} {Q : Md} {s : Slots} {H : Hp} {k : List Item}
theorem Md.raises_fin {r : AV} (h : Q.raises r s H) {ρ : Rho} {μ : Mu} {a : Act} {w : World} {v : Value} (hr : RelV ρ μ r v) (hs : RelS ρ μ N s a) (hst : St C ρ μ H w) : Q.rnd = none ∧ Q.knd = .normal ∧ Fin P f N C Q (.panic v) a w := by
  cases Q with
  | may Q R => exact ⟨rfl, rfl, r, H, ρ, μ, h, hr, hst⟩
  | state E R => exact ⟨rfl, rfl, r, s, H, ρ, μ, h, hr, hs, hst⟩
  | _ => exact h.elim
theorem raise_ex {b : Frame} {a : Act} {todo : List Item} {v : Value} (hb : b.fn = f) (hk : b.kind = Q.knd) : ExFr f Q.rnd Q.knd (.panic v) a ({ b.atR a todo with mode := .panicking [{ v, recovered := false }] } : Frame) :=
  ⟨hb, rfl, rfl, rfl, hk⟩
/-- A panic. -/
theorem V.panicOp {ops : Array Oper} {i : Nat} {rest : List Nat} {o : Oper} (ho : ops[i]? = some o) (hw : awant ops s o.guard = .yes) {x : Operand} (hop : o.op = .panic x) {t : Nat} {y : AV} (hx : aeval s x = .ifc t y) (h : Q.raises (.ifc t y) s H) :
    V P f N C Q (.inRegion ops (i :: rest) :: k) s H := by
  intro ρ μ a w hs hst b cs hb hk hro
  have hv := aeval_rel hs x
  rw [hx] at hv
  obtain ⟨u, hu⟩ : ∃ u, a.eval x = .iface t u := by
    generalize a.eval x = v at hv
    cases hv with
    | ifc _ _ _ _ u _ => exact ⟨u, rfl⟩
  have hr : (execOp a.eval o).run P w = .halt (.panic (a.eval x)) w := by simp [execOp, hop, Instr.panic, hu, goPanic]
  have hwt := (awant_sound hs ops o).1 hw
  have hg := stepGR_op (P := P) (b := b) (k := k) (cs := cs) (w := w) (rest := rest) ho hwt
  rw [Oper.semAt_eq b.roundOf a.eval o (fun c hc => by rw [hop] at hc; cases hc)] at hg
  obtain ⟨_, _, hfin⟩ := Md.raises_fin (P := P) (f := f) h hv hs hst
  refine ⟨.panic (a.eval x), a, w, { b.atR a (.inRegion ops (i :: rest) :: k) with mode := .panicking [{ v := a.eval x, recovered := false }] }, hfin, rfl, .one (step_lone_go ?_), raise_ex hb hk⟩
  rw [hg, ← Frame.raise_atR]
  simp [stepG.apply, hr]
/-- A call of a Go function that may panic. -/
theorem V.callOpP {ops : Array Oper} {i : Nat} {rest : List Nat} {o : Oper} {g : FuncId} (ho : ops[i]? = some o) (hw : awant ops s o.guard = .yes) (hd : dstOk N o.dst = true)
    (hrun : ∀ ρ μ a w, RelS ρ μ N s a → St C ρ μ H w → ∃ vs, (execOp a.eval o).run P w = .ok (.enter g vs) w ∧
      Calls P g vs w fun e w' => (∃ v r s' H' ρ' μ', e = .returned v ∧ RelV ρ' μ' r v ∧ RelS ρ' μ' N s' a ∧ St C ρ' μ' H' w' ∧ V P f N C Q (.inRegion ops rest :: k) (putS s' o.dst r) H') ∨
        (∃ v r s' H' ρ' μ', e = .panicked [{ v, recovered := false }] ∧ RelV ρ' μ' r v ∧ RelS ρ' μ' N s' a ∧ St C ρ' μ' H' w' ∧ Q.raises r s' H')) : V P f N C Q (.inRegion ops (i :: rest) :: k) s H := by
  intro ρ μ a w hs hst b cs hb hk hro
  obtain ⟨vs, hr, hcalls⟩ := hrun ρ μ a w hs hst
  have hwt := (awant_sound hs ops o).1 hw
  have hg := stepGR_op (P := P) (b := b) (k := k) (cs := cs) (w := w) (rest := rest) ho hwt
  rw [semAt_of b.roundOf hr (fun _ h => by cases h)] at hg
  have hfin : ∀ v, (b.atR a (.inRegion ops (i :: rest) :: k)).finish v = b.atR (a.put o.dst v) (.inRegion ops rest :: k) := by
    intro v; rw [Frame.finish_atR, ho]; rfl
  have henter : step P (lone (b.atR a (.inRegion ops (i :: rest) :: k)) cs w) = .next (lone (Frame.enter P g vs .normal) (b.atR a (.inRegion ops (i :: rest) :: k) :: cs) w) :=
    step_lone_go (by rw [hg]; simp [stepG.apply, hr, Frame.atR])
  obtain ⟨e, w', fr, hE, hcomes, _, hleave⟩ := hcalls (b.atR a (.inRegion ops (i :: rest) :: k) :: cs)
  rcases hE with ⟨v, r, s', H', ρ', μ', rfl, hv, hs', hst', hV⟩ | ⟨v, r, s', H', ρ', μ', rfl, hv, hs', hst', hR⟩
  · have hback := step_leave_returned (c := b.atR a (.inRegion ops (i :: rest) :: k)) (cs := cs) hleave
    rw [hfin] at hback
    obtain ⟨ex, a2, w2, fr2, hp, hd2, hc, h1⟩ := hV ρ' μ' (a.put o.dst v) w' (hs'.putS hd hv) hst' b cs hb hk hro
    exact ⟨ex, a2, w2, fr2, hp, hd2.trans (put_defers a _ v), .head henter (Steps.trans hcomes (Steps.trans (.one hback) hc)), h1⟩
  · have hback := step_leave_panicked (c := b.atR a (.inRegion ops (i :: rest) :: k)) (cs := cs) hleave
    rw [Frame.raise_atR] at hback
    obtain ⟨_, _, hfin2⟩ := Md.raises_fin (P := P) (f := f) hR hv hs' hst'
    exact ⟨.panic v, a, w', _, hfin2, rfl, .head henter (Steps.trans hcomes (.one hback)), raise_ex hb hk⟩
/-- The same by a contract. -/
theorem V.callP {ops : Array Oper} {i : Nat} {rest : List Nat} {o : Oper} (ho : ops[i]? = some o) (hw : awant ops s o.guard = .yes) (hd : dstOk N o.dst = true)
    {fo : Operand} {args : Array Operand} {ts : Array TypeId} (hop : o.op = .call ⟨.value fo, args, ts⟩) {g : FuncId} {first cap : List AV} (hf : aeval s fo = .fn (.func g) first cap)
    {fn : Func} (hg : P.funcs[g]? = some fn) (hb : fn.body.isNone = false) (hnm : (fn.name == "runtime.NumGoroutine") = false) (m : List Nat) (hn : m.Nodup) (hm : ∀ o ∈ m, o < H.length)
    {xs : List AV} (hxs : xs = (first ++ args.toList.map (aeval s) ++ cap).map (AV.ren (inv m))) {Hc : Hp} (hHc : Hc = callHeap H m)
    {Qc Rc : AV → Hp → Prop} (spec : FSpecP P g xs Hc Qc Rc)
    (cont : ∀ r Hc', Qc r Hc' → V P f N C Q (.inRegion ops rest :: k) (putS s o.dst (r.ren fun k => some (outN H.length m k))) (merge H m Hc'))
    (bad : ∀ r Hc', Rc r Hc' → Q.raises (r.ren fun k => some (outN H.length m k)) s (merge H m Hc')) :
    V P f N C Q (.inRegion ops (i :: rest) :: k) s H := by
  subst hxs hHc
  refine V.callOpP (g := g) ho hw hd fun ρ μ a w hs hst => ?_
  have h2 := aeval_rel hs fo
  rw [hf] at h2
  generalize hv : a.eval fo = v at h2
  cases h2 with
  | fn _ _ _ _ _ us vs hl hl' hr hr' =>
    have hargs := amap_rel hs args.toList
    refine ⟨us ++ args.map a.eval ++ vs, ?_, ?_⟩
    · have hnm' : ¬ fn.name = "runtime.NumGoroutine" := by simpa using hnm
      have hb' : ¬ fn.body = none := by intro e; rw [e] at hb; cases hb
      simp [execOp, hop, resolve, hv, Deferred.ofValue, invoke, callFunc, hg, hb', hnm']
    · refine (spec (rhoC ρ m) μ w _ (by simp [hl, hl']) (fun j hj => ?_) (hst.rep.callee m hn)).mono ?_
      · have hj' : j < first.length + args.size + cap.length := by simpa [Nat.add_assoc] using hj
        have key : ∃ y u, ((first ++ args.toList.map (aeval s) ++ cap).map (AV.ren (inv m))).getD j .top = y.ren (inv m) ∧ (us ++ args.map a.eval ++ vs).getD j undef = u ∧ RelV ρ μ y u := by
          have e0 : ∀ q : List AV, (q.map (AV.ren (inv m))).getD j .top = (q.getD j .top).ren (inv m) := fun q => by
            simp only [List.getD_eq_getElem?_getD, List.getElem?_map]
            cases q[j]? <;> simp [AV.ren]
          refine ⟨_, _, e0 _, rfl, ?_⟩
          simp only [List.getD_eq_getElem?_getD, Array.getD_eq_getD_getElem?, List.append_assoc, Array.append_assoc]
          by_cases h1 : j < first.length
          · rw [List.getElem?_append_left h1, Array.getElem?_append_left (by omega)]
            simpa [List.getD_eq_getElem?_getD] using hr j h1
          · rw [List.getElem?_append_right (by omega), Array.getElem?_append_right (by omega), hl]
            by_cases h3 : j - first.length < args.size
            · rw [List.getElem?_append_left (by simpa using h3), Array.getElem?_append_left (by simpa using h3)]
              have := hargs (j - first.length) (by simpa using h3)
              simpa [List.getD_eq_getElem?_getD] using this
            · rw [List.getElem?_append_right (by simp; omega), Array.getElem?_append_right (by simp; omega)]
              have := hr' (j - first.length - args.size) (by omega)
              simpa [List.getD_eq_getElem?_getD] using this
        obtain ⟨y, u, e1, e2, e3⟩ := key
        rw [e1, e2]
        exact e3.ren fun o o' L hg hL => by simp [rhoC, inv_some hg, hL]
      · rintro e w' (⟨v, r, Hc', ρc, μ', rfl, hq, hrel, hstc⟩ | ⟨v, r, Hc', ρc, μ', rfl, hq, hrel, hstc⟩)
        · obtain ⟨ρ', g1, g2, g3, g4⟩ := hst.merge m hn hm hstc
          exact .inl ⟨v, _, s, _, ρ', μ', rfl, hrel.ren (fun o o' L hg hL => by injection hg with hg; subst hg; exact g2 o L hL), hs.mono g1 g3, g4, cont r Hc' hq⟩
        · obtain ⟨ρ', g1, g2, g3, g4⟩ := hst.merge m hn hm hstc
          exact .inr ⟨v, _, s, _, ρ', μ', rfl, hrel.ren (fun o o' L hg hL => by injection hg with hg; subst hg; exact g2 o L hL), hs.mono g1 g3, g4, bad r Hc' hq⟩

/-- How the contract of a function that may panic is proved. -/
theorem FSpecP.of {fn : Func} {c : Code} (hf : P.funcs[f]? = some fn) (hb : fn.body = some c) {args : List AV} (hn : fn.ntmps = N) (hl : args.length ≤ N) {H : Hp} {Qn R : AV → Hp → Prop}
    (h : ∀ C, C.n0 = H.length → V P f N C (.may Qn R) [.code c] (argSlots 0 args) H) : FSpecP P f args H Qn R := by
  intro ρ μ w vs hsz hrel hrep cs
  rw [enter_frame hf hb]
  obtain ⟨ex, a', w', fr, hfin, hd, hs, hx⟩ := h ⟨w, ρ, μ, H, H.length⟩ rfl ρ μ _ w (enter_rel hn hl hsz hrel) (.start hrep) (frame0 f) cs rfl rfl rfl
  cases ex with
  | ret =>
    obtain ⟨fn', v, r, H', ρ', μ', hf', hr, hq, hv, hst⟩ := hfin
    obtain ⟨_, e1, e2, e3, e4, e5⟩ := hx
    refine ⟨.returned v, w', fr, .inl ⟨v, r, H', ρ', μ', rfl, hq, hv, hst⟩, hs, e1, e4, by rw [e3, hd], e5, fn', by rw [e1]; exact hf', by rw [e2]; exact hr⟩
  | panic v =>
    obtain ⟨r, H', ρ', μ', hq, hv, hst⟩ := hfin
    obtain ⟨e1, e2, e3, e4, e5⟩ := hx
    exact ⟨.panicked _, w', fr, .inr ⟨v, r, H', ρ', μ', rfl, hq, hv, hst⟩, hs, e1, e4, by rw [e3, hd], fn, by rw [e1]; exact hf⟩
  | leave j => exact hfin.elim
  | at_ todo => exact hfin.elim

/-! ### A closure that is called behind a function -/
/-- How a frame leaves that has still closures to call: it returns, or with a panic. -/
def Mode (pn : Option AV) (ρ : Rho) (μ : Mu) (u : FrameMode) : Prop :=
  match pn with
  | none => u = .returning
  | some r => ∃ v, u = .panicking [{ v, recovered := false }] ∧ RelV ρ μ r v
/-- The contract of such a closure: behind it the function returns. -/
def DSpec (P : Program) (g : FuncId) (args : List AV) (H : Hp) (pn : Option AV) (Q : Hp → Prop) : Prop :=
  ∀ ρ μ w (vs : Array Value), vs.size = args.length → (∀ j, j < args.length → RelV ρ μ (args.getD j .top) (vs.getD j undef)) → Rep ρ μ H w → ∀ u, Mode pn ρ μ u →
    CallsD P g vs u w fun e u' w' => (∃ v, e = .returned v) ∧ settle u' = .returning ∧ ∃ H' ρ' μ', Q H' ∧ St ⟨w, ρ, μ, H, H.length⟩ ρ' μ' H' w'
theorem Rep.le {ρ ρ' : Rho} {μ μ' : Mu} {H H' : Hp} {w w' : World} (h : Rep ρ μ H w) (h' : St ⟨w, ρ, μ, H, H.length⟩ ρ' μ' H' w') : RhoLe ρ ρ' ∧ MuLe μ μ' := by
  refine ⟨fun o L ho => ?_, h'.keep.mu⟩
  have hlt : o < H.length := by
    rcases Nat.lt_or_ge o H.length with h1 | h1
    · exact h1
    · rw [h.dom o h1] at ho; cases ho
  rw [h'.keep.rho o hlt]
  exact ho
theorem FSpec.defers {T : Tab} (hT : TabOk P T) {fn : Func} {c : Code} (hf : P.funcs[f]? = some fn) (hb : fn.body = some c) {args : List AV} (hn : fn.ntmps = N) (hl : args.length ≤ N) {H : Hp} {Q : AV → Hp → Prop}
    {ops : Array Oper} {i : Nat} {rest : List Nat} {k : List Item} {E : Slots → Hp → Prop} (pre : ∀ C, C.n0 = H.length → V P f N C (.upto .normal (.inRegion ops (i :: rest) :: k) E) [.code c] (argSlots 0 args) H)
    {o : Oper} (ho : ops[i]? = some o) (hgd : o.guard = none) (hd : dstOk N o.dst = true) {fo : Operand} {ts : Array TypeId} (hop : o.op = .defer ⟨.value fo, #[], ts⟩)
    {g : FuncId} {fn2 : Func} (hg : P.funcs[g]? = some fn2) (hb2 : fn2.body.isNone = false) (hnm : (fn2.name == "runtime.NumGoroutine") = false)
    (main : ∀ s H1, E s H1 → ∃ cap, aeval s fo = .fn (.func g) [] cap ∧ AV.bnd.bndL H1.length cap = true ∧ ∃ E2 R2,
      (∀ C, C.n0 = H1.length → V P f N C (.state E2 R2) (.inRegion ops rest :: k) (putS s o.dst (.tup [])) H1) ∧
      (∀ s2 H2, E2 s2 H2 → DSpec P g cap H2 none fun H3 => (aend T std s2 H3 fn.results.toList).sat Q) ∧
      (∀ r s2 H2, R2 r s2 H2 → DSpec P g cap H2 (some r) fun H3 => (aend T std s2 H3 fn.results.toList).sat Q)) : FSpec P f args H Q := by
  intro ρ μ w vs hsz hrel hrep cs
  rw [enter_frame hf hb]
  obtain ⟨ex, a1, w1, fr1, hfin, hd1, hs1, hx1⟩ := pre ⟨w, ρ, μ, H, H.length⟩ rfl ρ μ _ w (enter_rel hn hl hsz hrel) (.start hrep) (frame0 f) cs rfl rfl rfl
  cases ex with
  | ret => exact hfin.elim
  | leave j => exact hfin.elim
  | panic v => exact hfin.elim
  | at_ todo =>
    obtain ⟨rfl, s, H1, ρ1, μ1, hE, hrs, hst⟩ := hfin
    obtain ⟨b, rfl, hbf, hbr, hbk⟩ := hx1
    obtain ⟨cap, hcap, hbnd, E2, R2, hmain, hE2, hR2⟩ := main s H1 hE
    have h2 := aeval_rel hrs fo
    rw [hcap] at h2
    generalize hv : a1.eval fo = v at h2
    cases h2 with
    | fn _ _ _ _ _ us cs0 hul hcl hur hcr =>
    have hus : us = #[] := Array.eq_empty_of_size_eq_zero (by simpa using hul)
    subst hus
    have hr : (execOp a1.eval o).run P w1 = .ok (.defer { target := .fn (.func g) cs0, args := #[] }) w1 := by simp [execOp, hop, resolve, hv, Deferred.ofValue]
    have hwt := (awant_sound hrs ops o).1 (by rw [hgd]; rfl)
    have hgo := stepGR_op (P := P) (b := b) (a := a1) (k := k) (cs := cs) (w := w1) (rest := rest) ho hwt
    rw [hbr] at hgo
    change _ = stepG.apply P true _ cs none (Oper.semAt none a1.eval o) w1 at hgo
    rw [Oper.semAt_none] at hgo
    have hstep : step P (lone (b.atR a1 (.inRegion ops (i :: rest) :: k)) cs w1) = .next (lone (b.atR ({ a1 with defers := { target := .fn (.func g) cs0, args := #[] } :: a1.defers }.put o.dst undef) (.inRegion ops rest :: k)) cs w1) := by
      refine step_lone_go ?_
      have := Frame.finish_atR b { a1 with defers := { target := .fn (.func g) cs0, args := #[] } :: a1.defers } ops i rest k undef
      rw [ho] at this
      rw [hgo]; simp only [stepG.apply, Sem.runT_eq, hr, GStep.bare_after]
      exact congrArg (fun fr => GStep.go { frame := fr, callers := cs, status := .running, dying := none } w1) this
    have hrs' : RelS ρ1 μ1 N (putS s o.dst (.tup [])) ({ a1 with defers := { target := .fn (.func g) cs0, args := #[] } :: a1.defers }.put o.dst undef) :=
      RelS.putS (s := s) (a := { a1 with defers := { target := .fn (.func g) cs0, args := #[] } :: a1.defers }) ⟨hrs.size, trivial, hrs.v⟩ hd (.tup _ _ [] #[] rfl (fun j hj => by simp at hj))
    have hst1 : St ⟨w1, ρ1, μ1, H1, H1.length⟩ ρ1 μ1 H1 w1 := .start hst.rep
    obtain ⟨ex2, a2, w2, fr2, hfin2, hd2, hs2, hx2⟩ := hmain ⟨w1, ρ1, μ1, H1, H1.length⟩ rfl ρ1 μ1 _ w1 hrs' hst1 b cs hbf hbk hbr
    have hdef : a2.defers = [{ target := .fn (.func g) cs0, args := #[] }] := by rw [hd2, put_defers]; simp only; rw [hd1]
    have hinv : ∀ w : World, (invoke (.fn (.func g) cs0) #[]).run P w = .ok (.enter g cs0) w := fun w => by
      have hnm' : ¬ fn2.name = "runtime.NumGoroutine" := by simpa using hnm
      have hb' : ¬ fn2.body = none := by intro e; rw [e] at hb2; cases hb2
      simp [invoke, callFunc, hg, hb', hnm']
    -- behind the body
    have tail : ∀ (s2 : Slots) (H2 : Hp) (ρ2 : Rho) (μ2 : Mu) (pn : Option AV) (u : FrameMode), RelS ρ2 μ2 N s2 a2 → St ⟨w1, ρ1, μ1, H1, H1.length⟩ ρ2 μ2 H2 w2 → Mode pn ρ2 μ2 u → u ≠ .run →
        DSpec P g cap H2 pn (fun H3 => (aend T std s2 H3 fn.results.toList).sat Q) → fr2.mode = u → fr2.defers = a2.defers → fr2.tmps = a2.tmps → fr2.fn = f → fr2.kind = .normal →
        ∃ e w' fr, Post ⟨w, ρ, μ, H, H.length⟩ Q e w' ∧ Comes P (lone fr2 cs w2) (lone fr cs w') e ∧ fr.fn = f ∧ fr.leaving P w' e := by
      intro s2 H2 ρ2 μ2 pn u hrs2 hst2 hmode hrun hD hu hfd hft hff hfk
      have hcs : ∀ j, j < cap.length → RelV ρ2 μ2 (cap.getD j .top) (cs0.getD j undef) := fun j hj =>
        ((hcr j hj).to (bndL_get hbnd hj) (fun o ho => hst2.keep.rho o ho)).mono (RhoLe.refl _) hst2.keep.mu
      have hleaves : Leaves P fn a2.tmps (Post ⟨w, ρ, μ, H, H.length⟩ Q) [{ target := .fn (.func g) cs0, args := #[] }] u w2 := by
        refine leaves_cons hrun (hinv w2) ((hD ρ2 μ2 w2 cs0 hcl hcs hst2.rep u hmode).mono ?_)
        rintro e u' w' ⟨⟨v, rfl⟩, hset, H3, ρ3, μ3, hq, hst3⟩
        simp only
        rw [hset]
        obtain ⟨r, H4, hq, hr4⟩ := Out.sat_one hq
        have hle := hst2.rep.le hst3
        obtain ⟨v4, ρ4, μ4, hres, hv4, hst4⟩ := end_rel hT (hrs2.mono hle.1 hle.2) hst3 fn hr4
        exact ⟨v4, hres, v4, r, H4, ρ4, μ4, rfl, hq, hv4, hst.rebase hst.keep.hl (hst2.rebase hst2.keep.hl hst4)⟩
      obtain ⟨e', w'', fr', hR, hsx, hfn, hlv⟩ := leaves_steps _ u w2 fr2 cs hu (hfd.trans hdef) hft (by rw [hff]; exact hf) hfk hleaves
      exact ⟨e', w'', fr', hR, hsx, hfn.trans hff, hlv⟩
    have fin : ∀ {e w' fr}, Comes P (lone fr2 cs w2) (lone fr cs w') e → Comes P (lone ((frame0 f).atR { tmps := vs ++ Array.replicate (fn.ntmps - vs.size) undef, defers := [] } [.code c]) cs w) (lone fr cs w') e := fun h =>
      Comes.of_steps (Steps.trans hs1 (.head hstep hs2)) h
    cases ex2 with
    | leave j => exact hfin2.elim
    | at_ todo => exact hfin2.elim
    | ret =>
      obtain ⟨s2, H2, ρ2, μ2, hE', hrs2, hst2⟩ := hfin2
      obtain ⟨_, e1, e2, e3, e4, e5⟩ := hx2
      obtain ⟨e, w', fr, q1, q2, q3, q4⟩ := tail s2 H2 ρ2 μ2 none _ hrs2 hst2 rfl (by simp) (hE2 s2 H2 hE') e4 e3 e2 e1 e5
      exact ⟨e, w', fr, q1, fin q2, q3, q4⟩
    | panic v =>
      obtain ⟨r, s2, H2, ρ2, μ2, hR', hv2, hrs2, hst2⟩ := hfin2
      obtain ⟨e1, e2, e3, e4, e5⟩ := hx2
      obtain ⟨e, w', fr, q1, q2, q3, q4⟩ := tail s2 H2 ρ2 μ2 (some r) _ hrs2 hst2 ⟨v, rfl, hv2⟩ (by simp) (hR2 r s2 H2 hR') e4 e3 e2 e1 e5
      exact ⟨e, w', fr, q1, fin q2, q3, q4⟩

/-- Such a closure, if it asks for the panic ahead of all else. -/
theorem DSpec.of {fn : Func} {c : Code} (hf : P.funcs[f]? = some fn) (hb : fn.body = some c) {args : List AV} (hn : fn.ntmps = N) (hl : args.length ≤ N) {H : Hp} {pn : Option AV} {Q : Hp → Prop} (hp : ∀ r, pn = some r → r.bnd 0 = true)
    {ops : Array Oper} {i : Nat} {rest : List Nat} {k : List Item} {E : Slots → Hp → Prop} (pre : ∀ C, C.n0 = H.length → V P f N C (.upto .deferred (.inRegion ops (i :: rest) :: k) E) [.code c] (argSlots 0 args) H)
    {o : Oper} (ho : ops[i]? = some o) (hgd : o.guard = none) (hd : dstOk N o.dst = true) {ts : Array TypeId} (hop : o.op = .call ⟨.builtin .recover, #[], ts⟩)
    (post : ∀ s H1, E s H1 → ∀ C, C.n0 = H.length → V P f N C (.done Q) (.inRegion ops rest :: k) (putS s o.dst (pn.getD (.nil .iface))) H1) : DSpec P f args H pn Q := by
  intro ρ μ w vs hsz hrel hrep u hmode c0 cs hu
  have henter : Frame.enter P f vs .deferred = ({ (default : Frame) with fn := f, kind := .deferred, roundOf := none } : Frame).atR { tmps := vs ++ Array.replicate (fn.ntmps - vs.size) undef, defers := [] } [.code c] := by
    simp [Frame.enter, Frame.atR, hf, hb]
  rw [henter]
  obtain ⟨ex, a1, w1, fr1, hfin, hd1, hs1, hx1⟩ := pre ⟨w, ρ, μ, H, H.length⟩ rfl ρ μ _ w (enter_rel hn hl hsz hrel) (.start hrep) ({ (default : Frame) with fn := f, kind := .deferred, roundOf := none } : Frame) (c0 :: cs) rfl rfl rfl
  cases ex with
  | ret => exact hfin.elim
  | leave j => exact hfin.elim
  | panic v => exact hfin.elim
  | at_ todo =>
    obtain ⟨rfl, s, H1, ρ1, μ1, hE, hrs, hst⟩ := hfin
    obtain ⟨b, rfl, hbf, hbr, hbk⟩ := hx1
    have hr : (execOp a1.eval o).run P w1 = .ok .recover w1 := by simp [execOp, hop, resolve, invoke, Go.builtin]
    have hwt := (awant_sound hrs ops o).1 (by rw [hgd]; rfl)
    have hgo := stepGR_op (P := P) (b := b) (a := a1) (k := k) (cs := c0 :: cs) (w := w1) (rest := rest) ho hwt
    rw [Oper.semAt_eq b.roundOf a1.eval o (fun c hc => by rw [hop] at hc; cases hc)] at hgo
    have htr := tryRecover_deferred (fr := b.atR a1 (.inRegion ops (i :: rest) :: k)) hbk (c0 :: cs)
    -- the step
    have key : ∃ v u', settle u' = .returning ∧ RelV ρ1 μ1 (pn.getD (.nil .iface)) v ∧
        step P (lone (b.atR a1 (.inRegion ops (i :: rest) :: k)) (c0 :: cs) w1) = .next (lone (b.atR (a1.put o.dst v) (.inRegion ops rest :: k)) ({ c0 with mode := u' } :: cs) w1) := by
      have hfin : ∀ v, (b.atR a1 (.inRegion ops (i :: rest) :: k)).finish v = b.atR (a1.put o.dst v) (.inRegion ops rest :: k) := by
        intro v; rw [Frame.finish_atR, ho]; rfl
      have hbr' : (b.atR a1 (.inRegion ops (i :: rest) :: k)).roundOf = none := hbr
      cases pn with
      | none =>
        simp only [Mode] at hmode
        refine ⟨.nilIface, u, by rw [hmode]; rfl, .nilIface .., ?_⟩
        have hrec : recoverD (c0 :: cs) = none := by simp [recoverD, hu, hmode]
        refine step_lone_go ?_
        rw [hgo, ← hfin]
        have : ({ c0 with mode := u } : Frame) = c0 := by rw [← hu]
        rw [this]
        simp only [stepG.apply, Sem.runT_eq, hr, GStep.bare_after, htr, hbr', hrec]
        rfl
      | some r =>
        obtain ⟨v, hu2, hrv⟩ := hmode
        refine ⟨v, .panicking [{ v, recovered := true }], rfl, (hrv.to (hp r rfl) (fun o ho => by omega)).mono (RhoLe.refl _) hst.keep.mu, ?_⟩
        have hrec : recoverD (c0 :: cs) = some (v, { c0 with mode := .panicking [{ v, recovered := true }] } :: cs) := by simp [recoverD, hu, hu2]
        refine step_lone_go ?_
        rw [hgo, ← hfin]
        simp only [stepG.apply, Sem.runT_eq, hr, GStep.bare_after, htr, hbr', hrec]
        rfl
    obtain ⟨v, u', hset, hrv, hstep⟩ := key
    obtain ⟨ex2, a2, w2, fr2, hfin2, hd2, hs2, hx2⟩ := post s H1 hE ⟨w, ρ, μ, H, H.length⟩ rfl ρ1 μ1 (a1.put o.dst v) w1 (hrs.putS hd hrv) hst b ({ c0 with mode := u' } :: cs) hbf hbk hbr
    cases ex2 with
    | leave j => exact hfin2.elim
    | at_ todo => exact hfin2.elim
    | panic v => exact hfin2.elim
    | ret =>
      obtain ⟨⟨fn', vr, hf', hres⟩, H2, ρ2, μ2, hQ, hst2⟩ := hfin2
      obtain ⟨_, e1, e2, e3, e4, e5⟩ := hx2
      exact ⟨.returned vr, u', w2, fr2, ⟨⟨vr, rfl⟩, hset, H2, ρ2, μ2, hQ, hst2⟩, Steps.trans hs1 (.head hstep hs2), e5, e4, by rw [e3, hd2, put_defers, hd1], fn', by rw [e1]; exact hf', by rw [e2]; exact hres⟩

/-! ### Values of interface types -/
theorem V.opOk {ops : Array Oper} {i : Nat} {rest : List Nat} {o : Oper} (ho : ops[i]? = some o) (hw : awant ops s o.guard = .yes) (hd : dstOk N o.dst = true) {r : AV} (hop : OpOk P N o s H r H)
    (h : V P f N C Q (.inRegion ops rest :: k) (putS s o.dst r) H) : V P f N C Q (.inRegion ops (i :: rest) :: k) s H := V.op ho hw hd hop h
theorem op_ifcNil {T : Tab} (hT : TabOk P T) {o : Oper} {op : BinOp} {t t' : Nat} {x y : Operand} (ho : o.op = .binOp op t x y t') (ht : tdOf T t = some .iface) (hy : y = .const .nilIface) {b c : Bool}
    (hx : (aeval s x = .nil .iface ∧ c = true) ∨ (∃ t v, aeval s x = .ifc t v) ∧ c = false) (hop : (op = .eql ∧ b = c) ∨ (op = .neq ∧ b = !c)) : OpOk P N o s H (.bool b) H := by
  refine OpOk.pure fun ρ μ a w hs _ => ⟨.bool b, ?_, .bool ..⟩
  have hv := aeval_rel hs x
  obtain ⟨ms, hms⟩ : ∃ ms, P.underlying t = some (.interface ms) := by
    have := Tok.td hT ht
    simpa only [DescOk] using this
  have hye : a.eval y = .nilIface := by rw [hy]; rfl
  have run : (eqGuard op t x y (a.eval x) (a.eval y)).run P w = .ok () w ∧ (Op.equal t (a.eval x) (a.eval y)).run P w = .ok c w ∧ (∀ k n, a.eval x ≠ .int k n) ∧ (∀ k n, a.eval x ≠ .float k n) := by
    rw [hye]
    rcases hx with ⟨hx, rfl⟩ | ⟨⟨t0, v0, hx⟩, rfl⟩
    · rw [hx] at hv
      generalize a.eval x = v at hv
      cases hv
      refine ⟨?_, ?_, by simp, by simp⟩
      · subst hy; cases op <;> simp [eqGuard]
      · have : ∀ d, (Op.equalIn (d + 1) t .nilIface .nilIface).run P w = .ok true w := fun d => by simp [Op.equalIn, run_underlying hms]
        exact this 9999
    · rw [hx] at hv
      generalize a.eval x = v at hv
      cases hv with
      | ifc _ _ _ _ u _ =>
      refine ⟨?_, ?_, by simp, by simp⟩
      · cases op <;> simp [eqGuard]
      · have : ∀ d, (Op.equalIn (d + 1) t (.iface t0 u) .nilIface).run P w = .ok false w := fun d => by simp [Op.equalIn, run_underlying hms]
        exact this 9999
  obtain ⟨r1, r2, r3, r4⟩ := run
  rw [hye] at r1 r2
  rcases hop with ⟨rfl, rfl⟩ | ⟨rfl, rfl⟩
  · simp only [execOp, ho, Sem.run_bind, hye, r1, Result.andThen]
    simp [binOp, r2]
  · simp only [execOp, ho, Sem.run_bind, hye, r1, Result.andThen]
    simp [binOp, r2]
end
end Vx
