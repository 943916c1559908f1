/- Contracts of functions by an evaluator of the model: its part V1. -/
import Derived.WalkKit
import Derived.Laws.Append
import Derived.Laws.AppendOwn
import Derived.Laws.Rows
import Derived.Deep.MidRow
import Derived.AtR
import Derived.Laws.IdiomStrings
import Derived.Laws.BytesArg
set_option linter.all false
namespace Vx
open Go

/-! ## Abstract values, the heap of what is written, and how they lie in the world -/

inductive NilK where
  | ptr | slice | map | func | iface

inductive AV where
  | int (k : IntKind) (n : Int)
  | bool (b : Bool)
  | flt (k : FloatKind) (bits : Nat)
  | str (s : ByteArray)
  | nil (k : NilK)
  | rows (sz n : Nat) (f : Nat → List AV)
  | ref (cs : List AV)
  | sl (o i n : Nat)
  | ptr (o i off : Nat)
  | agg (cs : List AV)
  | tup (cs : List AV)
  | fn (f : Fn) (first cap : List AV)
  | mp (b : Nat)
  | ifc (t : Nat) (v : AV)
  | top
instance : Inhabited AV := ⟨.top⟩

structure Loc where
  b : Nat
  e : Nat
  sz : Nat
  tot : Nat

inductive Cont where
  | lit (rows : List (List AV))
  | arr (n : Nat) (f : Nat → List AV)

structure Ob where
  e : Nat
  sz : Nat
  c : Cont

def Cont.n : Cont → Nat
  | .lit r => r.length
  | .arr n _ => n
def Cont.f : Cont → Nat → List AV
  | .lit r => fun i => r.getD i []
  | .arr _ f => f

abbrev Hp := List (Option Ob)
abbrev Rho := Nat → Option Loc
abbrev Mu := Nat → Nat → Option Value
def rho0 : Rho := fun _ => none

def Cont.rho : Cont → Rho → Rho
  | .lit _, ρ => ρ
  | .arr _ _, _ => rho0

inductive RelV : Rho → Mu → AV → Value → Prop where
  | int (ρ : Rho) (μ : Mu) (k : IntKind) (n : Int) : RelV ρ μ (.int k n) (.int k n)
  | bool (ρ : Rho) (μ : Mu) (b : Bool) : RelV ρ μ (.bool b) (.bool b)
  | flt (ρ : Rho) (μ : Mu) (k : FloatKind) (n : Nat) : RelV ρ μ (.flt k n) (.float k n)
  | str (ρ : Rho) (μ : Mu) (s : ByteArray) : RelV ρ μ (.str s) (.string s)
  | nilPtr (ρ : Rho) (μ : Mu) : RelV ρ μ (.nil .ptr) (.pointer none)
  | nilSlice (ρ : Rho) (μ : Mu) : RelV ρ μ (.nil .slice) (.slice none 0 0)
  | nilMap (ρ : Rho) (μ : Mu) : RelV ρ μ (.nil .map) (.map none)
  | mp (ρ : Rho) (μ : Mu) (b : Nat) : RelV ρ μ (.mp b) (.map (some b))
  | nilFunc (ρ : Rho) (μ : Mu) : RelV ρ μ (.nil .func) .nilFunc
  | nilIface (ρ : Rho) (μ : Mu) : RelV ρ μ (.nil .iface) .nilIface
  | rows (ρ : Rho) (μ : Mu) (n : Nat) (f : Nat → List AV) (a : Option Addr) (c sz b o : Nat) (ws : Nat → Nat → Value)
      (hlen : ∀ i, i < n → (f i).length = sz) (hsz : 0 < sz)
      (hrel : ∀ i j, i < n → j < sz → RelV rho0 μ ((f i).getD j .top) (ws i j))
      (hmem : ∀ i j, i < n → j < sz → a = some ⟨b, o, none⟩ ∧ μ b (o + i * sz + j) = some (ws i j))
      (hc : n ≤ c) (hm : c ≤ maxLen) : RelV ρ μ (.rows sz n f) (.slice a n c)
  | ref (ρ : Rho) (μ : Mu) (cs : List AV) (b o : Nat) (ws : Nat → Value)
      (hrel : ∀ j, j < cs.length → RelV rho0 μ (cs.getD j .top) (ws j))
      (hmem : ∀ j, j < cs.length → μ b (o + j) = some (ws j)) : RelV ρ μ (.ref cs) (.pointer (some ⟨b, o, none⟩))
  | sl (ρ : Rho) (μ : Mu) (o i n c x : Nat) (L : Loc) (h : ρ o = some L) (hc : i + c = L.tot) (hn : n ≤ c) (hx : c = 0 ∨ x = i * L.sz) :
      RelV ρ μ (.sl o i n) (.slice (some ⟨L.b, x, none⟩) n c)
  | slNil (ρ : Rho) (μ : Mu) (o i : Nat) : RelV ρ μ (.sl o i 0) (.slice none 0 0)
  | ptr (ρ : Rho) (μ : Mu) (o i off : Nat) (L : Loc) (h : ρ o = some L) :
      RelV ρ μ (.ptr o i off) (.pointer (some ⟨L.b, i * L.sz + off, none⟩))
  | agg (ρ : Rho) (μ : Mu) (cs : List AV) (vs : Array Value) (hl : vs.size = cs.length)
      (h : ∀ j, j < cs.length → RelV ρ μ (cs.getD j .top) (vs.getD j undef)) : RelV ρ μ (.agg cs) (.agg vs)
  | tup (ρ : Rho) (μ : Mu) (cs : List AV) (vs : Array Value) (hl : vs.size = cs.length)
      (h : ∀ j, j < cs.length → RelV ρ μ (cs.getD j .top) (vs.getD j undef)) : RelV ρ μ (.tup cs) (.tuple vs)
  | fn (ρ : Rho) (μ : Mu) (f : Fn) (xs ys : List AV) (us vs : Array Value) (hl : us.size = xs.length) (hl' : vs.size = ys.length)
      (h : ∀ j, j < xs.length → RelV ρ μ (xs.getD j .top) (us.getD j undef))
      (h' : ∀ j, j < ys.length → RelV ρ μ (ys.getD j .top) (vs.getD j undef)) : RelV ρ μ (.fn f xs ys) (.func f us vs)
  | ifc (ρ : Rho) (μ : Mu) (t : Nat) (x : AV) (v : Value) (h : RelV ρ μ x v) : RelV ρ μ (.ifc t x) (.iface t v)
  | top (ρ : Rho) (μ : Mu) (v : Value) : RelV ρ μ .top v

def RhoLe (ρ ρ' : Rho) : Prop := ∀ o L, ρ o = some L → ρ' o = some L
def MuLe (μ μ' : Mu) : Prop := ∀ b x v, μ b x = some v → μ' b x = some v
theorem RhoLe.refl (ρ : Rho) : RhoLe ρ ρ := fun _ _ h => h
theorem MuLe.refl (μ : Mu) : MuLe μ μ := fun _ _ _ h => h
theorem RhoLe.trans {a b c : Rho} (h : RhoLe a b) (k : RhoLe b c) : RhoLe a c := fun o L e => k o L (h o L e)
theorem MuLe.trans {a b c : Mu} (h : MuLe a b) (k : MuLe b c) : MuLe a c := fun o L v e => k o L v (h o L v e)

theorem RelV.mono {ρ : Rho} {μ : Mu} {x : AV} {v : Value} (h : RelV ρ μ x v) : ∀ {ρ' : Rho} {μ' : Mu}, RhoLe ρ ρ' → MuLe μ μ' → RelV ρ' μ' x v := by
  induction h with
  | int => intros; exact .int ..
  | bool => intros; exact .bool ..
  | flt => intros; exact .flt ..
  | str => intros; exact .str ..
  | nilPtr => intros; exact .nilPtr ..
  | nilSlice => intros; exact .nilSlice ..
  | nilMap => intros; exact .nilMap ..
  | mp => intros; exact .mp ..
  | nilFunc => intros; exact .nilFunc ..
  | nilIface => intros; exact .nilIface ..
  | rows ρ μ n f a c sz b o ws hlen hsz hrel hmem hc hm ih =>
    intro ρ' μ' h1 h2
    exact .rows _ _ n f a c sz b o ws hlen hsz (fun i j hi hj => ih i j hi hj (RhoLe.refl _) h2) (fun i j hi hj => ⟨(hmem i j hi hj).1, h2 _ _ _ (hmem i j hi hj).2⟩) hc hm
  | ref ρ μ cs b o ws hrel hmem ih =>
    intro ρ' μ' h1 h2
    exact .ref _ _ cs b o ws (fun j hj => ih j hj (RhoLe.refl _) h2) (fun j hj => h2 _ _ _ (hmem j hj))
  | sl ρ μ o i n c x L h hc hn hx => intro ρ' μ' h1 h2; exact .sl _ _ o i n c x L (h1 _ _ h) hc hn hx
  | slNil => intros; exact .slNil ..
  | ptr ρ μ o i off L h => intro ρ' μ' h1 h2; exact .ptr _ _ o i off L (h1 _ _ h)
  | agg ρ μ cs vs hl h ih => intro ρ' μ' h1 h2; exact .agg _ _ cs vs hl (fun j hj => ih j hj h1 h2)
  | tup ρ μ cs vs hl h ih => intro ρ' μ' h1 h2; exact .tup _ _ cs vs hl (fun j hj => ih j hj h1 h2)
  | fn ρ μ f xs ys us vs hl hl' h h' ih ih' => intro ρ' μ' h1 h2; exact .fn _ _ f xs ys us vs hl hl' (fun j hj => ih j hj h1 h2) (fun j hj => ih' j hj h1 h2)
  | ifc ρ μ t x v h ih => intro ρ' μ' h1 h2; exact .ifc _ _ t x v (ih h1 h2)
  | top => intros; exact .top ..

/-- A value that takes one cell. -/
def AV.leaf : AV → Bool
  | .agg _ | .tup _ | .top => false
  | _ => true
theorem RelV.leaf {ρ : Rho} {μ : Mu} {x : AV} {v : Value} (h : RelV ρ μ x v) (hx : x.leaf = true) : v.oneCell' = true := by
  cases h <;> first | rfl | simp [AV.leaf] at hx

/-- Which objects are named. -/
def AV.bnd (N : Nat) : AV → Bool
  | .sl o _ _ => Nat.blt o N
  | .ptr o _ _ => Nat.blt o N
  | .agg cs => bndL N cs
  | .tup cs => bndL N cs
  | .fn _ xs ys => bndL N xs && bndL N ys
  | .ifc _ v => v.bnd N
  | _ => true
where
  bndL (N : Nat) : List AV → Bool
    | [] => true
    | x :: r => x.bnd N && bndL N r

theorem bndL_get {N : Nat} : ∀ {cs : List AV} {j : Nat}, AV.bnd.bndL N cs = true → j < cs.length → (cs.getD j .top).bnd N = true
  | [], j, _, h => by simp at h
  | x :: r, 0, h, _ => by simp only [AV.bnd.bndL, Bool.and_eq_true] at h; simpa using h.1
  | x :: r, j + 1, h, hj => by
    simp only [AV.bnd.bndL, Bool.and_eq_true] at h
    have := bndL_get (cs := r) (j := j) h.2 (by simpa using hj)
    simpa using this

def rcut (N : Nat) (ρ : Rho) : Rho := fun o => if o < N then ρ o else none

/-- Values that name only objects below N don't ask for more. -/
theorem RelV.to {ρ : Rho} {μ : Mu} {x : AV} {v : Value} (h : RelV ρ μ x v) : ∀ {ρ' : Rho} {N : Nat}, x.bnd N = true → (∀ o, o < N → ρ' o = ρ o) → RelV ρ' μ x v := by
  induction h with
  | int => intros; exact .int ..
  | bool => intros; exact .bool ..
  | flt => intros; exact .flt ..
  | str => intros; exact .str ..
  | nilPtr => intros; exact .nilPtr ..
  | nilSlice => intros; exact .nilSlice ..
  | nilMap => intros; exact .nilMap ..
  | mp => intros; exact .mp ..
  | nilFunc => intros; exact .nilFunc ..
  | nilIface => intros; exact .nilIface ..
  | rows ρ μ n f a c sz b o ws hlen hsz hrel hmem hc hm ih => intros; exact .rows _ _ n f a c sz b o ws hlen hsz hrel hmem hc hm
  | ref ρ μ cs b o ws hrel hmem ih => intros; exact .ref _ _ cs b o ws hrel hmem
  | sl ρ μ o i n c x L h hc hn hx => intro ρ' N hb he; exact .sl _ _ o i n c x L ((he o (by simpa [AV.bnd] using hb)).trans h) hc hn hx
  | slNil => intros; exact .slNil ..
  | ptr ρ μ o i off L h => intro ρ' N hb he; exact .ptr _ _ o i off L ((he o (by simpa [AV.bnd] using hb)).trans h)
  | agg ρ μ cs vs hl h ih => intro ρ' N hb he; exact .agg _ _ cs vs hl (fun j hj => ih j hj (bndL_get (by simpa [AV.bnd] using hb) hj) he)
  | tup ρ μ cs vs hl h ih => intro ρ' N hb he; exact .tup _ _ cs vs hl (fun j hj => ih j hj (bndL_get (by simpa [AV.bnd] using hb) hj) he)
  | fn ρ μ f xs ys us vs hl hl' h h' ih ih' =>
    intro ρ' N hb he
    simp only [AV.bnd, Bool.and_eq_true] at hb
    exact .fn _ _ f xs ys us vs hl hl' (fun j hj => ih j hj (bndL_get hb.1 hj) he) (fun j hj => ih' j hj (bndL_get hb.2 hj) he)
  | ifc ρ μ t x v h ih => intro ρ' N hb he; exact .ifc _ _ t x v (ih (by simpa [AV.bnd] using hb) he)
  | top => intros; exact .top ..

/-! ### The state -/
def Live (H : Hp) (o : Nat) : Prop := ∃ ob, H[o]? = some (some ob)

structure ObAt (ρ : Rho) (μ : Mu) (w : World) (o : Nat) (ob : Ob) (L : Loc) (cs : Array Value) : Prop where
  loc : ρ o = some L
  heap : w.heap[L.b]? = some (.cells cs L.e (0, 0))
  e : ob.e = L.e
  sz : ob.sz = L.sz
  pos : 0 < L.sz
  size : cs.size = L.tot * L.sz
  n : ob.c.n ≤ L.tot
  max : L.tot ≤ maxLen
  len : ∀ i, i < ob.c.n → (ob.c.f i).length = L.sz
  rel : ∀ i j, i < ob.c.n → j < L.sz → RelV (ob.c.rho ρ) μ ((ob.c.f i).getD j .top) (cs.getD (i * L.sz + j) undef)
  one : ∀ j, j < cs.size → (cs.getD j undef).oneCell' = true

structure Rep (ρ : Rho) (μ : Mu) (H : Hp) (w : World) : Prop where
  dom : ∀ o, H.length ≤ o → ρ o = none
  obj : ∀ o ob, H[o]? = some (some ob) → (∃ L cs, ObAt ρ μ w o ob L cs) ∨ (ρ o = none ∧ ob.c.n = 0)
  distinct : ∀ o o' L L', Live H o → Live H o' → ρ o = some L → ρ o' = some L' → L.b = L'.b → o = o'
  mem : ∀ b x v, μ b x = some v → w.cell? ⟨b, x, none⟩ = some v ∧ v.oneCell' = true
  sep : ∀ o L x, Live H o → ρ o = some L → μ L.b x = none

structure Ctx where
  w0 : World
  ρ0 : Rho
  μ0 : Mu
  H0 : Hp
  n0 : Nat

/-- A block that the call may write: one of an object that was handed in, or a new one. -/
def Ctx.own (C : Ctx) (b : Nat) : Prop := C.w0.heap.size ≤ b ∨ ∃ o L, Live C.H0 o ∧ C.ρ0 o = some L ∧ L.b = b

structure Keep (C : Ctx) (ρ : Rho) (μ : Mu) (H : Hp) (w : World) : Prop where
  hl : C.n0 ≤ H.length
  rho : ∀ o, o < C.n0 → ρ o = C.ρ0 o
  mu : MuLe C.μ0 μ
  size : C.w0.heap.size ≤ w.heap.size
  os : w.os = C.w0.os
  tape : w.tape = C.w0.tape
  output : w.output = C.w0.output
  block : ∀ b, ¬ C.own b → w.heap[b]? = C.w0.heap[b]?
  own : ∀ o L, Live H o → ρ o = some L → C.own L.b
  muo : ∀ b x, ¬ C.own b → μ b x = C.μ0 b x

structure St (C : Ctx) (ρ : Rho) (μ : Mu) (H : Hp) (w : World) : Prop where
  rep : Rep ρ μ H w
  keep : Keep C ρ μ H w

abbrev Slots := List (Nat × AV)
def look : Slots → Nat → AV
  | [], _ => .top
  | (k, v) :: r, t => match Nat.beq k t with | true => v | false => look r t

structure RelS (ρ : Rho) (μ : Mu) (N : Nat) (s : Slots) (a : Act) : Prop where
  size : a.tmps.size = N
  defers : True
  v : ∀ t, RelV ρ μ (look s t) (a.tmps.getD t undef)

theorem RelS.mono {ρ ρ' : Rho} {μ μ' : Mu} {N : Nat} {s : Slots} {a : Act} (h : RelS ρ μ N s a) (h1 : RhoLe ρ ρ') (h2 : MuLe μ μ') : RelS ρ' μ' N s a :=
  ⟨h.size, h.defers, fun t => (h.v t).mono h1 h2⟩

theorem RelS.put {ρ : Rho} {μ : Mu} {N : Nat} {s : Slots} {a : Act} (h : RelS ρ μ N s a) {d : Nat} (hd : d < N) {x : AV} {v : Value} (hv : RelV ρ μ x v) :
    RelS ρ μ N ((d, x) :: s) (a.put (some d) v) := by
  refine ⟨by simp [Act.put, h.size], h.defers, fun t => ?_⟩
  have hs := h.size
  simp only [look, Act.put]
  by_cases e : d = t
  · subst e
    have : Nat.beq d d = true := by simp
    rw [this]
    simp [Array.getD, hs, hd]
    exact hv
  · have : Nat.beq d t = false := by
      cases h : Nat.beq d t with
      | false => rfl
      | true => exact absurd (Nat.eq_of_beq_eq_true h) e
    rw [this]
    have := h.v t
    simp only [Array.getD_eq_getD_getElem?, Array.getElem?_setIfInBounds] at this ⊢
    rw [if_neg e]
    exact this

theorem RelS.putNone {ρ : Rho} {μ : Mu} {N : Nat} {s : Slots} {a : Act} (h : RelS ρ μ N s a) (v : Value) : RelS ρ μ N s (a.put none v) := h

end Vx

namespace Vx
open Go

def upd (ρ : Rho) (o : Nat) (L : Loc) : Rho := fun x => if x = o then some L else ρ x
theorem upd_same (ρ : Rho) (o : Nat) (L : Loc) : upd ρ o L o = some L := by simp [upd]
theorem upd_ne (ρ : Rho) {o x : Nat} (L : Loc) (h : x ≠ o) : upd ρ o L x = ρ x := by simp [upd, h]
theorem upd_le {ρ : Rho} {o : Nat} (L : Loc) (h : ρ o = none) : RhoLe ρ (upd ρ o L) := by
  intro x M hx
  by_cases e : x = o
  · subst e; rw [h] at hx; cases hx
  · rw [upd_ne ρ L e]; exact hx

theorem cell_lt {w : World} {b x : Nat} {v : Value} (h : w.cell? ⟨b, x, none⟩ = some v) : b < w.heap.size := by
  simp only [World.cell?] at h
  split at h
  · rename_i c e f hb
    exact (Array.getElem?_eq_some_iff.1 hb).1
  · cases h
theorem cell_alloc {w : World} {o : Obj} {b x : Nat} {v : Value} (h : w.cell? ⟨b, x, none⟩ = some v) : (w.alloc o).cell? ⟨b, x, none⟩ = some v := by
  have hb := cell_lt h
  rw [← h]
  exact World.cell?_of_block (a := ⟨b, x, none⟩) (heap_alloc_old w o hb)
theorem cell_row {w : World} {b x : Nat} {cs : Array Value} {e : Nat} {fr : Nat × Nat} (h : w.heap[b]? = some (.cells cs e fr)) : w.cell? ⟨b, x, none⟩ = cs[x]? := cell_of_row w b x cs e fr h

theorem live_lt {H : Hp} {o : Nat} (h : Live H o) : o < H.length := by
  obtain ⟨ob, h⟩ := h
  exact (List.getElem?_eq_some_iff.1 h).1
theorem live_push {H : Hp} {ob : Option Ob} {o : Nat} (h : Live (H ++ [ob]) o) : Live H o ∨ o = H.length := by
  obtain ⟨x, h⟩ := h
  rcases Nat.lt_or_ge o H.length with hl | hl
  · rw [List.getElem?_append_left hl] at h; exact .inl ⟨x, h⟩
  · right
    have := (List.getElem?_eq_some_iff.1 h).1
    simp at this
    omega
theorem live_set {H : Hp} {o o' : Nat} {x : Option Ob} (h : Live (H.set o x) o') : Live H o' ∨ (o' = o ∧ ∃ ob, x = some ob ∧ o < H.length) := by
  obtain ⟨y, h⟩ := h
  rw [List.getElem?_set] at h
  split at h
  · rename_i e
    split at h
    · rename_i hl
      right
      injection h with h
      exact ⟨e.symm, y, h, hl⟩
    · cases h
  · exact .inl ⟨y, h⟩
theorem live_kill {H : Hp} {o o' : Nat} (h : Live (H.set o none) o') : Live H o' ∧ o' ≠ o := by
  obtain ⟨y, h⟩ := h
  rw [List.getElem?_set] at h
  split at h
  · split at h
    · injection h with h; cases h
    · cases h
  · exact ⟨⟨y, h⟩, by intro e; subst e; contradiction⟩

section
variable {C : Ctx} {ρ : Rho} {μ : Mu} {H : Hp} {w : World}

theorem ObAt.cont {o : Nat} {ob : Ob} {L : Loc} {cs : Array Value} (h : ObAt ρ μ w o ob L cs) {ρ' : Rho} {μ' : Mu} {w' : World} (h1 : RhoLe ρ ρ') (h2 : MuLe μ μ') (hw : w'.heap[L.b]? = w.heap[L.b]?) : ObAt ρ' μ' w' o ob L cs := by
  refine ⟨h1 _ _ h.loc, hw.trans h.heap, h.e, h.sz, h.pos, h.size, h.n, h.max, h.len, fun i j hi hj => ?_, h.one⟩
  refine (h.rel i j hi hj).mono ?_ h2
  cases ob.c with
  | lit r => exact h1
  | arr n f => exact RhoLe.refl _

theorem Rep.blk (h : Rep ρ μ H w) {o : Nat} {L : Loc} (hl : Live H o) (hL : ρ o = some L) : L.b < w.heap.size := by
  obtain ⟨ob, ho⟩ := hl
  rcases h.obj o ob ho with ⟨L', cs, hat⟩ | ⟨hn, _⟩
  · rw [hat.loc] at hL
    injection hL with hL
    subst hL
    exact (Array.getElem?_eq_some_iff.1 hat.heap).1
  · rw [hn] at hL; cases hL

/-- An order is drawn: nothing else. -/
theorem St.drew (h : St C ρ μ H w) : St C ρ μ H w.drew :=
  ⟨⟨h.rep.dom, fun o ob ho => (h.rep.obj o ob ho).imp (fun ⟨L, cs, hat⟩ => ⟨L, cs, hat.cont (RhoLe.refl _) (MuLe.refl _) rfl⟩) id, h.rep.distinct, h.rep.mem, h.rep.sep⟩,
    ⟨h.keep.hl, h.keep.rho, h.keep.mu, h.keep.size, h.keep.os, h.keep.tape, h.keep.output, h.keep.block, h.keep.own, h.keep.muo⟩⟩

theorem Rep.new_none (h : Rep ρ μ H w) : ρ H.length = none := h.dom _ (Nat.le_refl _)

/-- A new object. -/
theorem St.alloc (h : St C ρ μ H w) (ob : Ob) (cs : Array Value) (e sz tot : Nat) (he : ob.e = e) (hsz : ob.sz = sz) (hp : 0 < sz) (hsize : cs.size = tot * sz) (hn : ob.c.n ≤ tot) (hm : tot ≤ maxLen)
    (hlen : ∀ i, i < ob.c.n → (ob.c.f i).length = sz)
    (hrel : ∀ i j, i < ob.c.n → j < sz → RelV (ob.c.rho ρ) μ ((ob.c.f i).getD j .top) (cs.getD (i * sz + j) undef)) (hone : ∀ j, j < cs.size → (cs.getD j undef).oneCell' = true) :
    St C (upd ρ H.length ⟨w.heap.size, e, sz, tot⟩) μ (H ++ [some ob]) (w.alloc (.cells cs e)) := by
  have hle := upd_le (ρ := ρ) (o := H.length) ⟨w.heap.size, e, sz, tot⟩ h.rep.new_none
  have hlt : ∀ {o : Nat} {L : Loc}, Live H o → ρ o = some L → L.b < w.heap.size := fun hl hL => h.rep.blk hl hL
  have old : ∀ {o : Nat} {L : Loc}, Live H o → upd ρ H.length ⟨w.heap.size, e, sz, tot⟩ o = some L → ρ o = some L := fun {o L} hl hL => by
    rwa [upd_ne ρ _ (Nat.ne_of_lt (live_lt hl))] at hL
  have hmu : ∀ b x v, μ b x = some v → b < w.heap.size := fun b x v hb => cell_lt (h.rep.mem b x v hb).1
  refine ⟨⟨?_, ?_, ?_, ?_, ?_⟩, ⟨?_, ?_, h.keep.mu, ?_, h.keep.os, h.keep.tape, h.keep.output, ?_, ?_, h.keep.muo⟩⟩
  · intro o ho
    simp only [List.length_append, List.length_cons, List.length_nil] at ho
    rw [upd_ne ρ _ (by omega)]
    exact h.rep.dom o (by omega)
  · intro o x ho
    rcases Nat.lt_or_ge o H.length with hl | hl
    · rw [List.getElem?_append_left hl] at ho
      rcases h.rep.obj o x ho with ⟨L, cs', hat⟩ | ⟨hn0, hn1⟩
      · exact .inl ⟨L, cs', hat.cont hle (MuLe.refl _) (heap_alloc_old w _ (hlt ⟨x, ho⟩ hat.loc))⟩
      · exact .inr ⟨by rw [upd_ne ρ _ (by omega)]; exact hn0, hn1⟩
    · have hlen' := (List.getElem?_eq_some_iff.1 ho).1
      simp at hlen'
      have : o = H.length := by omega
      subst this
      simp at ho
      subst ho
      refine .inl ⟨_, cs, upd_same _ _ _, heap_alloc_new w _, he, hsz, hp, hsize, hn, hm, hlen, fun i j hi hj => (hrel i j hi hj).mono ?_ (MuLe.refl _), hone⟩
      cases ob.c with
      | lit r => exact hle
      | arr n f => exact RhoLe.refl _
  · intro o o' L L' ho ho' hL hL' hb
    rcases live_push ho with ho | rfl <;> rcases live_push ho' with ho' | rfl
    · exact h.rep.distinct o o' L L' ho ho' (old ho hL) (old ho' hL') hb
    · rw [upd_same] at hL'; injection hL' with hL'; subst hL'
      have := hlt ho (old ho hL)
      simp only at hb; omega
    · rw [upd_same] at hL; injection hL with hL; subst hL
      have := hlt ho' (old ho' hL')
      simp only at hb; omega
    · rfl
  · exact fun b x v hb => ⟨cell_alloc (h.rep.mem b x v hb).1, (h.rep.mem b x v hb).2⟩
  · intro o L x ho hL
    rcases live_push ho with ho | rfl
    · exact h.rep.sep o L x ho (old ho hL)
    · rw [upd_same] at hL; injection hL with hL; subst hL
      cases hx : μ w.heap.size x with
      | none => rfl
      | some v => have := hmu _ _ _ hx; omega
  · simp only [List.length_append]; have := h.keep.hl; omega
  · intro o ho
    rw [upd_ne ρ _ (by have := h.keep.hl; omega)]
    exact h.keep.rho o ho
  · have := h.keep.size; simp; omega
  · intro b hb
    have hb' : b < C.w0.heap.size := by
      rcases Nat.lt_or_ge b C.w0.heap.size with h1 | h1
      · exact h1
      · exact absurd (Or.inl h1) hb
    have := h.keep.size
    rw [heap_alloc_old w _ (by omega)]
    exact h.keep.block b hb
  · intro o L ho hL
    rcases live_push ho with ho | rfl
    · exact h.keep.own o L ho (old ho hL)
    · rw [upd_same] at hL; injection hL with hL; subst hL
      exact .inl h.keep.size

/-- An object is no longer looked at. -/
theorem St.kill (h : St C ρ μ H w) (o : Nat) : St C ρ μ (H.set o none) w := by
  refine ⟨⟨fun x hx => h.rep.dom x (by simpa using hx), fun x ob hx => ?_, ?_, h.rep.mem, ?_⟩, ⟨by simpa using h.keep.hl, h.keep.rho, h.keep.mu, h.keep.size, h.keep.os, h.keep.tape, h.keep.output, h.keep.block, ?_, h.keep.muo⟩⟩
  · have hk := live_kill ⟨ob, hx⟩
    rw [List.getElem?_set_ne (Ne.symm hk.2)] at hx
    exact h.rep.obj x ob hx
  · exact fun a b L L' ha hb => h.rep.distinct a b L L' (live_kill ha).1 (live_kill hb).1
  · exact fun a L x ha => h.rep.sep a L x (live_kill ha).1
  · exact fun a L ha => h.keep.own a L (live_kill ha).1

/-- The last object is forgotten, if nothing names it any more. -/
theorem St.cut (h : St C ρ μ H w) (N : Nat) (hN : C.n0 ≤ N) (hNl : N ≤ H.length) (hb : ∀ o ob, o < N → H[o]? = some (some ob) → ∀ r, ob.c = .lit r → ∀ i, i < r.length → ∀ j, j < (r.getD i []).length → ((r.getD i []).getD j .top).bnd N = true) :
    St C (rcut N ρ) μ (H.take N) w := by
  have old : ∀ {o : Nat}, o < N → rcut N ρ o = ρ o := fun h => by simp [rcut, h]
  have oldL : ∀ {o : Nat} {L : Loc}, rcut N ρ o = some L → ρ o = some L := fun {o L} h => by
    simp only [rcut] at h
    split at h
    · exact h
    · cases h
  have lv : ∀ {o : Nat}, Live (H.take N) o → Live H o ∧ o < N := fun {o} ⟨ob, h⟩ => by
    rw [List.getElem?_take] at h
    split at h
    · exact ⟨⟨ob, h⟩, by assumption⟩
    · cases h
  have hlt : (H.take N).length = N := by simp; omega
  refine ⟨⟨fun o ho => ?_, fun o ob ho => ?_, ?_, h.rep.mem, ?_⟩, ⟨by omega, fun o ho => ?_, h.keep.mu, h.keep.size, h.keep.os, h.keep.tape, h.keep.output, h.keep.block, ?_, h.keep.muo⟩⟩
  · rw [hlt] at ho
    simp [rcut]; omega
  · have hl := lv ⟨ob, ho⟩
    rw [List.getElem?_take, if_pos hl.2] at ho
    rcases h.rep.obj o ob ho with ⟨L, cs, hat⟩ | ⟨hn0, hn1⟩
    case inr => exact .inr ⟨(old hl.2).trans hn0, hn1⟩
    refine .inl ⟨L, cs, (old hl.2).trans hat.loc, hat.heap, hat.e, hat.sz, hat.pos, hat.size, hat.n, hat.max, hat.len, fun i j hi hj => ?_, hat.one⟩
    have hr := hat.rel i j hi hj
    have hlen := hat.len i hi
    cases hc : ob.c with
    | arr n f => rw [hc] at hr; exact hr
    | lit r =>
      rw [hc] at hr hi hlen
      have hjl : j < (r.getD i []).length := by
        have : (r.getD i []).length = L.sz := hlen
        omega
      exact RelV.to hr (hb o ob hl.2 ho r hc i hi j hjl) (fun x hx => old hx)
  · exact fun a b L L' ha hb' hL hL' => h.rep.distinct a b L L' (lv ha).1 (lv hb').1 (oldL hL) (oldL hL')
  · exact fun a L x ha hL => h.rep.sep a L x (lv ha).1 (oldL hL)
  · rw [old (by omega)]; exact h.keep.rho o ho
  · exact fun a L ha hL => h.keep.own a L (lv ha).1 (oldL hL)

/-- The cells of an object are written. -/
theorem St.write (h : St C ρ μ H w) {o : Nat} {ob : Ob} {L : Loc} {cs : Array Value} (ho : H[o]? = some (some ob)) (hat : ObAt ρ μ w o ob L cs) (w' : World) (cs' : Array Value) (ob' : Ob)
    (hos : w'.os = w.os) (ht : w'.tape = w.tape) (hout : w'.output = w.output) (hsz : w'.heap.size = w.heap.size) (hb : ∀ b, b ≠ L.b → w'.heap[b]? = w.heap[b]?)
    (hh : w'.heap[L.b]? = some (.cells cs' L.e (0, 0))) (hcs : cs'.size = cs.size)
    (he : ob'.e = ob.e) (hs : ob'.sz = ob.sz) (hn : ob'.c.n ≤ L.tot) (hlen : ∀ i, i < ob'.c.n → (ob'.c.f i).length = L.sz)
    (hrel : ∀ i j, i < ob'.c.n → j < L.sz → RelV (ob'.c.rho ρ) μ ((ob'.c.f i).getD j .top) (cs'.getD (i * L.sz + j) undef)) (hone : ∀ j, j < cs'.size → (cs'.getD j undef).oneCell' = true) :
    St C ρ μ (H.set o (some ob')) w' := by
  have hlive : Live H o := ⟨ob, ho⟩
  have lv : ∀ {x : Nat}, Live (H.set o (some ob')) x → Live H x := fun {x} hx => by
    rcases live_set hx with h1 | ⟨rfl, _⟩
    · exact h1
    · exact hlive
  refine ⟨⟨fun x hx => h.rep.dom x (by simpa using hx), fun x obx hx => ?_, ?_, ?_, ?_⟩, ⟨by simpa using h.keep.hl, h.keep.rho, h.keep.mu, by rw [hsz]; exact h.keep.size, hos.trans h.keep.os, ht.trans h.keep.tape, hout.trans h.keep.output, ?_, ?_, h.keep.muo⟩⟩
  · rw [List.getElem?_set] at hx
    split at hx
    · rename_i e
      subst e
      split at hx
      · injection hx with hx
        injection hx with hx
        subst hx
        exact .inl ⟨L, cs', hat.loc, hh, he.trans hat.e, hs.trans hat.sz, hat.pos, hcs.trans hat.size, hn, hat.max, hlen, hrel, hone⟩
      · cases hx
    · rename_i e
      rcases h.rep.obj x obx hx with ⟨M, ds, hatx⟩ | hph
      case inr => exact .inr hph
      refine .inl ⟨M, ds, hatx.cont (RhoLe.refl _) (MuLe.refl _) (hb _ fun eq => e ?_)⟩
      exact (h.rep.distinct x o M L ⟨obx, hx⟩ hlive hatx.loc hat.loc eq).symm
  · exact fun a b M M' ha hb' => h.rep.distinct a b M M' (lv ha) (lv hb')
  · intro b x v hm
    have hne : b ≠ L.b := by
      intro e
      subst e
      rw [h.rep.sep o L x hlive hat.loc] at hm
      cases hm
    refine ⟨?_, (h.rep.mem b x v hm).2⟩
    rw [← (h.rep.mem b x v hm).1]
    exact World.cell?_of_block (a := ⟨b, x, none⟩) (hb b hne)
  · exact fun a M x ha => h.rep.sep a M x (lv ha)
  · intro b hnb
    rw [hb b (fun e => hnb (by subst e; exact h.keep.own o L hlive hat.loc))]
    exact h.keep.block b hnb
  · exact fun a M ha => h.keep.own a M (lv ha)

/-- An object takes a new name: the old one is void. -/
theorem St.move (h : St C ρ μ H w) {o : Nat} {ob : Ob} {L : Loc} {cs : Array Value} (ho : H[o]? = some (some ob)) (hat : ObAt ρ μ w o ob L cs) :
    St C (upd ρ H.length L) μ ((H.set o none) ++ [some ob]) w := by
  have hle := upd_le (ρ := ρ) (o := H.length) L h.rep.new_none
  have hlive : Live H o := ⟨ob, ho⟩
  have hlo := live_lt hlive
  have old : ∀ {x : Nat} {M : Loc}, Live H x → upd ρ H.length L x = some M → ρ x = some M := fun {x M} hl hL => by
    rwa [upd_ne ρ _ (Nat.ne_of_lt (live_lt hl))] at hL
  have lv : ∀ {x : Nat}, Live ((H.set o none) ++ [some ob]) x → (Live H x ∧ x ≠ o) ∨ x = H.length := fun {x} hx => by
    rcases live_push hx with h1 | h1
    · exact .inl (live_kill h1)
    · right; simpa using h1
  refine ⟨⟨?_, ?_, ?_, h.rep.mem, ?_⟩, ⟨?_, ?_, h.keep.mu, h.keep.size, h.keep.os, h.keep.tape, h.keep.output, h.keep.block, ?_, h.keep.muo⟩⟩
  · intro x hx
    simp at hx
    rw [upd_ne ρ _ (by omega)]
    exact h.rep.dom x (by omega)
  · intro x obx hx
    rcases Nat.lt_or_ge x H.length with hl | hl
    · rw [List.getElem?_append_left (by simpa using hl)] at hx
      have hk := live_kill ⟨obx, hx⟩
      rw [List.getElem?_set_ne (Ne.symm hk.2)] at hx
      rcases h.rep.obj x obx hx with ⟨M, ds, hatx⟩ | ⟨hn0, hn1⟩
      · exact .inl ⟨M, ds, hatx.cont hle (MuLe.refl _) rfl⟩
      · exact .inr ⟨by rw [upd_ne ρ _ (by omega)]; exact hn0, hn1⟩
    · have hlen' := (List.getElem?_eq_some_iff.1 hx).1
      simp at hlen'
      have : x = H.length := by omega
      subst this
      rw [List.getElem?_append_right (by simp)] at hx
      simp at hx
      subst hx
      exact .inl ⟨L, cs, upd_same _ _ _, hat.heap, hat.e, hat.sz, hat.pos, hat.size, hat.n, hat.max, hat.len, fun i j hi hj => (hat.rel i j hi hj).mono (by cases ob.c with | lit r => exact hle | arr n f => exact RhoLe.refl _) (MuLe.refl _), hat.one⟩
  · intro a b M M' ha hb hM hM' hbb
    rcases lv ha with ⟨ha, ha'⟩ | rfl <;> rcases lv hb with ⟨hb, hb'⟩ | rfl
    · exact h.rep.distinct a b M M' ha hb (old ha hM) (old hb hM') hbb
    · rw [upd_same] at hM'; injection hM' with hM'; subst hM'
      exact absurd (h.rep.distinct a o M L ha hlive (old ha hM) hat.loc hbb) ha'
    · rw [upd_same] at hM; injection hM with hM; subst hM
      exact absurd (h.rep.distinct b o M' L hb hlive (old hb hM') hat.loc hbb.symm) hb'
    · rfl
  · intro a M x ha hM
    rcases lv ha with ⟨ha, _⟩ | rfl
    · exact h.rep.sep a M x ha (old ha hM)
    · rw [upd_same] at hM; injection hM with hM; subst hM
      exact h.rep.sep o L x hlive hat.loc
  · simp; have := h.keep.hl; omega
  · intro x hx
    rw [upd_ne ρ _ (by have := h.keep.hl; omega)]
    exact h.keep.rho x hx
  · intro a M ha hM
    rcases lv ha with ⟨ha, _⟩ | rfl
    · exact h.keep.own a M ha (old ha hM)
    · rw [upd_same] at hM; injection hM with hM; subst hM
      exact h.keep.own o L hlive hat.loc

/-- An object without memory: of no element. -/
theorem St.phantom (h : St C ρ μ H w) (ob : Ob) (hn : ob.c.n = 0) : St C ρ μ (H ++ [some ob]) w := by
  have hnone : ρ H.length = none := h.rep.dom _ (Nat.le_refl _)
  have lv : ∀ {x : Nat} {M : Loc}, Live (H ++ [some ob]) x → ρ x = some M → Live H x := fun {x M} hl hM => by
    rcases live_push hl with h1 | rfl
    · exact h1
    · rw [hnone] at hM; cases hM
  refine ⟨⟨fun o ho => h.rep.dom o (by simp at ho; omega), fun o x ho => ?_, fun a b L L' ha hb hL hL' => h.rep.distinct a b L L' (lv ha hL) (lv hb hL') hL hL', h.rep.mem, fun a L x ha hL => h.rep.sep a L x (lv ha hL) hL⟩,
    ⟨by simp; have := h.keep.hl; omega, h.keep.rho, h.keep.mu, h.keep.size, h.keep.os, h.keep.tape, h.keep.output, h.keep.block, fun a L ha hL => h.keep.own a L (lv ha hL) hL, h.keep.muo⟩⟩
  rcases Nat.lt_or_ge o H.length with hl | hl
  · rw [List.getElem?_append_left hl] at ho
    exact h.rep.obj o x ho
  · have hlen' := (List.getElem?_eq_some_iff.1 ho).1
    simp at hlen'
    have : o = H.length := by omega
    subst this
    simp at ho
    subst ho
    exact .inr ⟨hnone, hn⟩

/-- What is no longer written may be shared. -/
def frz (μ : Mu) (L : Loc) (cs : Array Value) : Mu := fun b x => if b = L.b ∧ x < cs.size then cs[x]? else μ b x
theorem St.freeze (h : St C ρ μ H w) {o : Nat} {ob : Ob} {L : Loc} {cs : Array Value} (ho : H[o]? = some (some ob)) (hat : ObAt ρ μ w o ob L cs) :
    St C ρ (frz μ L cs) (H.set o none) w ∧ MuLe μ (frz μ L cs) := by
  have hlive : Live H o := ⟨ob, ho⟩
  have hle : MuLe μ (frz μ L cs) := by
    intro b x v hm
    have hne : b ≠ L.b := by
      intro e
      subst e
      rw [h.rep.sep o L x hlive hat.loc] at hm
      cases hm
    simp [frz, hne, hm]
  have hk := h.kill o
  refine ⟨⟨⟨hk.rep.dom, fun x obx hx => ?_, hk.rep.distinct, ?_, ?_⟩, ⟨hk.keep.hl, hk.keep.rho, hk.keep.mu.trans hle, hk.keep.size, hk.keep.os, hk.keep.tape, hk.keep.output, hk.keep.block, hk.keep.own, fun b x hb => ?_⟩⟩, hle⟩
  · exact (hk.rep.obj x obx hx).imp (fun ⟨M, ds, hatx⟩ => ⟨M, ds, hatx.cont (RhoLe.refl _) hle rfl⟩) id
  · intro b x v hm
    simp only [frz] at hm
    split at hm
    · rename_i hc
      have ho' := hat.one x hc.2
      rw [Array.getD_eq_getD_getElem?, hm] at ho'
      exact ⟨by rw [hc.1, cell_row hat.heap]; exact hm, ho'⟩
    · exact h.rep.mem b x v hm
  · intro a M x ha hM
    have hk' := live_kill ha
    have hne : M.b ≠ L.b := fun e => hk'.2 (h.rep.distinct a o M L hk'.1 hlive hM hat.loc e)
    simp only [frz]
    rw [if_neg (fun hc => hne hc.1)]
    exact h.rep.sep a M x hk'.1 hM
  · have hne : b ≠ L.b := fun e => hb (by subst e; exact h.keep.own o L hlive hat.loc)
    simp only [frz]
    rw [if_neg (fun hc => hne hc.1)]
    exact h.keep.muo b x hb

end
end Vx

namespace Vx
open Go

/-! ## What a call comes to, told from the middle of its body -/

def Post (C : Ctx) (Q : AV → Hp → Prop) (e : Ending) (w' : World) : Prop :=
  ∃ v r H' ρ' μ', e = .returned v ∧ Q r H' ∧ RelV ρ' μ' r v ∧ St C ρ' μ' H' w'

/-- Ways in which a frame ends. -/
inductive Ex where
  | ret
  | leave (j : Option Code)
  | panic (v : Value)
  | at_ (todo : List Item)
/-- What is asked of a frame's end: of a call; of one whose results are read later; of one that may panic; of a round of a loop over a function; of such a function; of a state alone. -/
inductive Md where
  | norm (Q : AV → Hp → Prop)
  | late (Q : AV → Hp → Prop)
  | may (Q R : AV → Hp → Prop)
  | round (l : Nat) (Q : Option Code → Hp → Prop)
  | iter (l : Nat) (Q : Hp → Prop) (QS : Option Code → Hp → Prop)
  | state (E : Slots → Hp → Prop) (R : AV → Slots → Hp → Prop)
  | upto (kd : CallKind) (todo : List Item) (E : Slots → Hp → Prop)
  | done (E : Hp → Prop)
def Md.rnd : Md → Option Nat
  | .round l _ => some l
  | _ => none
def Md.knd : Md → CallKind
  | .upto kd _ _ => kd
  | .done _ => .deferred
  | _ => .normal
def setB (w : World) (l : Nat) (o : Obj) : World := { w with heap := w.heap.setIfInBounds l o }
/-- The state but for a loop's record. -/
def StL (C : Ctx) (l : Nat) (ρ : Rho) (μ : Mu) (H : Hp) (w : World) : Prop :=
  ∃ R0 R, C.w0.heap[l]? = some (.loop R0) ∧ w.heap[l]? = some (.loop R) ∧ R0 = { R with state := R0.state, pending := R0.pending } ∧ St C ρ μ H (setB w l (.loop R0))
def Back (P : Program) (f : FuncId) (C : Ctx) (Q : AV → Hp → Prop) (a : Act) (w : World) : Prop :=
  ∃ fn v r H ρ μ, P.funcs[f]? = some fn ∧ (results fn a.tmps).run P w = .ok v w ∧ Q r H ∧ RelV ρ μ r v ∧ St C ρ μ H w
def Fin (P : Program) (f : FuncId) (N : Nat) (C : Ctx) : Md → Ex → Act → World → Prop
  | .norm Q, .ret, a, w => Back P f C Q a w
  | .late Q, .ret, a, w => ∃ ρ μ H, St C ρ μ H w ∧ ∀ C' w', St C' ρ μ H w' → Back P f C' Q a w'
  | .may Q _, .ret, a, w => Back P f C Q a w
  | .may _ R, .panic v, _, w => ∃ r H ρ μ, R r H ∧ RelV ρ μ r v ∧ St C ρ μ H w
  | .round l Q, .leave j, _, w => ∃ H ρ μ, Q j H ∧ StL C l ρ μ H w
  | .iter l Q QS, .ret, a, w => (∃ fn v, P.funcs[f]? = some fn ∧ (results fn a.tmps).run P w = .ok v w) ∧
      ((∃ H ρ μ, Q H ∧ St C ρ μ H w) ∨ ∃ j H ρ μ, QS j H ∧ StL C l ρ μ H w ∧ ∃ R, w.heap[l]? = some (.loop R) ∧ R.state = .done ∧ R.pending = j)
  | .state E _, .ret, a, w => ∃ s H ρ μ, E s H ∧ RelS ρ μ N s a ∧ St C ρ μ H w
  | .state _ R, .panic v, a, w => ∃ r s H ρ μ, R r s H ∧ RelV ρ μ r v ∧ RelS ρ μ N s a ∧ St C ρ μ H w
  | .upto _ todo E, .at_ todo', a, w => todo' = todo ∧ ∃ s H ρ μ, E s H ∧ RelS ρ μ N s a ∧ St C ρ μ H w
  | .done E, .ret, a, w => (∃ fn v, P.funcs[f]? = some fn ∧ (results fn a.tmps).run P w = .ok v w) ∧ ∃ H ρ μ, E H ∧ St C ρ μ H w
  | _, _, _, _ => False
def LeaveAt : Option Code → List Item → Prop
  | none, [] => True
  | some .ret, .code .ret :: _ => True
  | some (.exit id), .code (.exit id') :: k => id' = id ∧ exitTo id k = none
  | _, _ => False
def ExFr (f : FuncId) (ro : Option Nat) (kd : CallKind) : Ex → Act → Frame → Prop
  | .ret, a, fr => ro = none ∧ fr.fn = f ∧ fr.tmps = a.tmps ∧ fr.defers = a.defers ∧ fr.mode = .returning ∧ fr.kind = kd
  | .panic v, a, fr => fr.fn = f ∧ fr.tmps = a.tmps ∧ fr.defers = a.defers ∧ fr.mode = .panicking [{ v, recovered := false }] ∧ fr.kind = kd
  | .leave j, a, fr => ∃ (b : Frame) (todo : List Item), fr = b.atR a todo ∧ b.fn = f ∧ b.roundOf = ro ∧ b.kind = kd ∧ LeaveAt j todo
  | .at_ todo, a, fr => ∃ b : Frame, fr = b.atR a todo ∧ b.fn = f ∧ b.roundOf = ro ∧ b.kind = kd
def V (P : Program) (f : FuncId) (N : Nat) (C : Ctx) (Q : Md) (todo : List Item) (s : Slots) (H : Hp) : Prop :=
  ∀ ρ μ a w, RelS ρ μ N s a → St C ρ μ H w → ∀ (b : Frame) (cs : List Frame), b.fn = f → b.kind = Q.knd → b.roundOf = Q.rnd →
    ∃ ex a' w' fr, Fin P f N C Q ex a' w' ∧ a'.defers = a.defers ∧ Steps P (lone (b.atR a todo) cs w) (lone fr cs w') ∧ ExFr f Q.rnd Q.knd ex a' fr

def FSpec (P : Program) (g : FuncId) (args : List AV) (H : Hp) (Q : AV → Hp → Prop) : Prop :=
  ∀ ρ μ w (vs : Array Value), vs.size = args.length → (∀ j, j < args.length → RelV ρ μ (args.getD j .top) (vs.getD j undef)) → Rep ρ μ H w →
    Calls P g vs w (Post ⟨w, ρ, μ, H, H.length⟩ Q)

theorem FSpec.mono {P : Program} {g : FuncId} {args : List AV} {H : Hp} {Q Q' : AV → Hp → Prop} (h : FSpec P g args H Q) (hq : ∀ r H', Q r H' → Q' r H') : FSpec P g args H Q' :=
  fun ρ μ w vs h1 h2 h3 => (h ρ μ w vs h1 h2 h3).mono fun _ _ ⟨v, r, H', ρ', μ', e1, e2, e3, e4⟩ => ⟨v, r, H', ρ', μ', e1, hq _ _ e2, e3, e4⟩

def argSlots : Nat → List AV → Slots
  | _, [] => []
  | i, x :: r => (i, x) :: argSlots (i + 1) r
theorem look_argSlots : ∀ (xs : List AV) (i t : Nat), look (argSlots i xs) t = if i ≤ t then xs.getD (t - i) .top else .top
  | [], i, t => by simp [argSlots, look]
  | x :: r, i, t => by
    simp only [argSlots, look]
    cases h : Nat.beq i t with
    | true =>
      have := Nat.eq_of_beq_eq_true h
      subst this
      simp
    | false =>
      have hne : i ≠ t := by intro e; subst e; simp at h
      simp only [look_argSlots r (i + 1) t]
      by_cases hle : i ≤ t
      · rw [if_pos hle, if_pos (by omega)]
        obtain ⟨d, rfl⟩ : ∃ d, t = i + 1 + d := ⟨t - i - 1, by omega⟩
        rw [show i + 1 + d - i = d + 1 by omega, show i + 1 + d - (i + 1) = d by omega]
        simp
      · rw [if_neg hle, if_neg (by omega)]

section
variable {P : Program} {f : FuncId} {N : Nat} {C : Ctx} {Q : Md}

theorem V.steps {todo todo' : List Item} {s s' : Slots} {H H' : Hp} (k : V P f N C Q todo' s' H')
    (h : ∀ ρ μ a w, RelS ρ μ N s a → St C ρ μ H w → ∃ ρ' μ' a' w', RelS ρ' μ' N s' a' ∧ St C ρ' μ' H' w' ∧ a'.defers = a.defers ∧ ∀ (b : Frame) cs, b.fn = f → b.kind = Q.knd → Steps P (lone (b.atR a todo) cs w) (lone (b.atR a' todo') cs w')) :
    V P f N C Q todo s H := by
  intro ρ μ a w hs hst b cs hb hk hr
  obtain ⟨ρ', μ', a', w', hs', hst', hd, hstep⟩ := h ρ μ a w hs hst
  obtain ⟨ex, a'', w'', fr, hp, hd2, hc, h1⟩ := k ρ' μ' a' w' hs' hst' b cs hb hk hr
  exact ⟨ex, a'', w'', fr, hp, hd2.trans hd, Steps.trans (hstep b cs hb hk) hc, h1⟩

theorem V.one {todo todo' : List Item} {s : Slots} {H : Hp} (hstep : ∀ (b : Frame) a cs w, step P (lone (b.atR a todo) cs w) = .next (lone (b.atR a todo') cs w)) (k : V P f N C Q todo' s H) : V P f N C Q todo s H :=
  V.steps k fun ρ μ a w hs hst => ⟨ρ, μ, a, w, hs, hst, rfl, fun b cs _ _ => .one (hstep b a cs w)⟩

variable {k : List Item} {s : Slots} {H : Hp}
theorem V.skip (h : V P f N C Q k s H) : V P f N C Q (.code .skip :: k) s H := V.one (fun _ _ _ _ => stepR_skip) h
theorem V.label {l : Nat} (h : V P f N C Q k s H) : V P f N C Q (.code (.label l) :: k) s H := V.one (fun _ _ _ _ => stepR_label) h
theorem V.inBlock {id : Nat} (h : V P f N C Q k s H) : V P f N C Q (.inBlock id :: k) s H := V.one (fun _ _ _ _ => stepR_inBlock) h
theorem V.seq {x y : Code} (h : V P f N C Q (.code x :: .code y :: k) s H) : V P f N C Q (.code (.seq x y) :: k) s H := V.one (fun _ _ _ _ => stepR_seq) h
theorem V.block {id : Nat} {c : Code} (h : V P f N C Q (.code c :: .inBlock id :: k) s H) : V P f N C Q (.code (.block id c) :: k) s H := V.one (fun _ _ _ _ => stepR_block) h
theorem V.loop1 {c : Code} (h : V P f N C Q (.code c :: .inLoop c :: k) s H) : V P f N C Q (.code (.loop c) :: k) s H := V.one (fun _ _ _ _ => stepR_loop) h
theorem V.inLoop {c : Code} (h : V P f N C Q (.code c :: .inLoop c :: k) s H) : V P f N C Q (.inLoop c :: k) s H := V.one (fun _ _ _ _ => stepR_inLoop) h
theorem V.exit {id : Nat} {k' : List Item} (he : exitTo id k = some k') (h : V P f N C Q k' s H) : V P f N C Q (.code (.exit id) :: k) s H := V.one (fun _ _ _ _ => stepR_exit he) h
theorem V.region {id : Nat} {ops : Array Oper} (h : V P f N C Q (.inRegion ops (List.range ops.size) :: k) s H) : V P f N C Q (.code (.region id ops false) :: k) s H := V.one (fun _ _ _ _ => stepR_region) h
theorem V.regionEnd {ops : Array Oper} (h : V P f N C Q k s H) : V P f N C Q (.inRegion ops [] :: k) s H := V.one (fun _ _ _ _ => stepR_region_end) h
theorem V.scope {c : Code} (h : V P f N C Q (.code c :: .inScope c :: k) s H) : V P f N C Q (.code (.scope c) :: k) s H :=
  V.one (fun _ _ _ _ => step_lone_go (by simp [stepG, stepG.exec, Frame.atR])) h
theorem V.inScope {c : Code} (h : V P f N C Q k s H) : V P f N C Q (.inScope c :: k) s H :=
  V.one (fun _ _ _ _ => step_lone_go (by simp [stepG, stepG.exec, Frame.atR])) h

/-- What is no longer known, or named, may be forgotten. -/
theorem V.weak {todo : List Item} {s s' : Slots} {H : Hp} (h : ∀ t, look s' t = .top ∨ look s' t = look s t) (k : V P f N C Q todo s' H) : V P f N C Q todo s H :=
  V.steps k fun ρ μ a w hs hst => ⟨ρ, μ, a, w, ⟨hs.size, hs.defers, fun t => by
    rcases h t with e | e
    · rw [e]; exact .top ..
    · rw [e]; exact hs.v t⟩, hst, rfl, fun _ _ _ _ => .refl _ _⟩

theorem V.kill {todo : List Item} {s : Slots} {H : Hp} (o : Nat) (k : V P f N C Q todo s (H.set o none)) : V P f N C Q todo s H :=
  V.steps k fun ρ μ a w hs hst => ⟨ρ, μ, a, w, hs, hst.kill o, rfl, fun _ _ _ _ => .refl _ _⟩

/-! ### Values of operands -/
def avLeaf : Value → AV
  | .int k n => .int k n
  | .bool b => .bool b
  | .float k b => .flt k b
  | .string s => .str s
  | .pointer none => .nil .ptr
  | .slice none 0 0 => .nil .slice
  | .map none => .nil .map
  | .nilFunc => .nil .func
  | .nilIface => .nil .iface
  | _ => .top
def avOf : Value → AV
  | .agg cs => .agg (cs.toList.map avLeaf)
  | v => avLeaf v
theorem avLeaf_rel (ρ : Rho) (μ : Mu) (v : Value) : RelV ρ μ (avLeaf v) v := by
  unfold avLeaf
  split <;> first | exact .int .. | exact .bool .. | exact .flt .. | exact .str .. | exact .nilPtr .. | exact .nilSlice .. | exact .nilMap .. | exact .nilFunc .. | exact .nilIface .. | exact .top ..
theorem avOf_rel (ρ : Rho) (μ : Mu) (v : Value) : RelV ρ μ (avOf v) v := by
  have h := avLeaf_rel ρ μ v
  cases v with
  | agg cs =>
    refine .agg _ _ _ _ (by simp) fun j hj => ?_
    simp at hj
    have := avLeaf_rel ρ μ cs[j]
    simpa [hj] using this
  | _ => exact h

def aeval (s : Slots) : Operand → AV
  | .tmp t => look s t
  | .const v => avOf v
  | .global _ => .top
  | .func g => .fn (.func g) [] []
theorem aeval_rel {ρ : Rho} {μ : Mu} {s : Slots} {a : Act} (h : RelS ρ μ N s a) (x : Operand) : RelV ρ μ (aeval s x) (a.eval x) := by
  cases x with
  | tmp t => exact h.v t
  | const v => exact avOf_rel ..
  | global g => exact .top ..
  | func g => exact .fn _ _ _ [] [] #[] #[] rfl rfl (fun j hj => by simp at hj) (fun j hj => by simp at hj)

theorem RelV.bool_inv {ρ : Rho} {μ : Mu} {b : Bool} {v : Value} (h : RelV ρ μ (.bool b) v) : v = .bool b := by cases h; rfl
theorem RelV.int_inv {ρ : Rho} {μ : Mu} {q : IntKind} {n : Int} {v : Value} (h : RelV ρ μ (.int q n) v) : v = .int q n := by cases h; rfl
theorem RelV.str_inv {ρ : Rho} {μ : Mu} {n : ByteArray} {v : Value} (h : RelV ρ μ (.str n) v) : v = .string n := by cases h; rfl

theorem V.cond {c : Operand} {x y : Code} {t : Bool} (hc : aeval s c = .bool t) (h : V P f N C Q (.code (if t then x else y) :: k) s H) : V P f N C Q (.code (.cond c x y) :: k) s H :=
  V.steps h fun ρ μ a w hs hst => ⟨ρ, μ, a, w, hs, hst, rfl, fun b cs _ _ => .one (stepR_cond (by have := aeval_rel hs c; rw [hc] at this; exact this.bool_inv))⟩

/-! ### One operation -/
/-- An operation yields a value, and changes the heap so. -/
def OpOk (P : Program) (N : Nat) (o : Oper) (s : Slots) (H : Hp) (r : AV) (H' : Hp) : Prop :=
  ∀ C ρ μ a w, RelS ρ μ N s a → St C ρ μ H w → ∃ v w' ρ' μ', ((execOp a.eval o).run P w = .ok (.value v) w' ∨ ((execOp a.eval o).run P w = .ok .skip w' ∧ v = undef)) ∧
    RelV ρ' μ' r v ∧ RhoLe ρ ρ' ∧ MuLe μ μ' ∧ St C ρ' μ' H' w'

def putS (s : Slots) : Option Tmp → AV → Slots
  | some d, v => (d, v) :: s
  | none, _ => s
def dstOk (N : Nat) : Option Tmp → Bool
  | some d => Nat.blt d N
  | none => true
theorem RelS.putS {ρ : Rho} {μ : Mu} {s : Slots} {a : Act} (h : RelS ρ μ N s a) {d : Option Tmp} (hd : dstOk N d = true) {x : AV} {v : Value} (hv : RelV ρ μ x v) : RelS ρ μ N (putS s d x) (a.put d v) := by
  cases d with
  | none => exact h
  | some d => exact h.put (by simpa [dstOk] using hd) hv

inductive Wd where
  | yes | no | open_
/-- Is an operation wanted? -/
def awant (ops : Array Oper) (s : Slots) (g : Option (Nat × Bool)) : Wd :=
  match g with
  | none => .yes
  | some (j, want) =>
    match (ops[j]?).bind (·.dst) with
    | none => .open_
    | some d =>
      match look s d with
      | .bool b => match want with
        | true => match b with | true => .yes | false => .no
        | false => match b with | true => .no | false => .yes
      | .tup _ => .no
      | _ => .open_
theorem awant_sound {ρ : Rho} {μ : Mu} {s : Slots} {a : Act} (h : RelS ρ μ N s a) (ops : Array Oper) (o : Oper) :
    (awant ops s o.guard = .yes → Region.wanted o (yielded ops a.tmps) = true) ∧ (awant ops s o.guard = .no → Region.wanted o (yielded ops a.tmps) = false) := by
  unfold awant Region.wanted
  cases hg : o.guard with
  | none => simp
  | some p =>
    obtain ⟨j, want⟩ := p
    simp only [yielded]
    cases hj : (ops[j]?).bind (·.dst) with
    | none => simp
    | some d =>
      have hv := h.v d
      cases hl : look s d with
      | bool b =>
        rw [hl] at hv
        have e := hv.bool_inv
        have : a.tmps[d]? = some (.bool b) := by
          rw [Array.getD_eq_getD_getElem?] at e
          cases hq : a.tmps[d]? with
          | none => rw [hq] at e; simp [undef] at e
          | some u => rw [hq] at e; simpa using e
        simp only [Option.bind_some, this]
        simp only [hl]
        cases want <;> cases b <;> refine ⟨fun h => ?_, fun h => ?_⟩ <;> first | rfl | cases h
      | tup cs =>
        rw [hl] at hv
        have e : ∀ b, a.tmps[d]? ≠ some (.bool b) := fun b e => by
          rw [Array.getD_eq_getD_getElem?, e] at hv
          cases hv
        refine ⟨fun h => (by simp only [hl] at h; cases h), fun _ => ?_⟩
        simp only [Option.bind_some]
        cases hq : a.tmps[d]? with
        | none => rfl
        | some u => cases u <;> first | rfl | exact absurd hq (e _)
      | _ => simp [hl]

theorem put_defers (a : Act) (d : Option Tmp) (v : Value) : (a.put d v).defers = a.defers := by cases d <;> rfl
theorem semAt_of {o : Oper} {a : Act} {w w' : World} {x : Next} (ro : Option Nat) (h : (execOp a.eval o).run P w = .ok x w') (hx : ∀ d, x ≠ .defer d) : o.semAt ro a.eval = execOp a.eval o := by
  refine Oper.semAt_eq ro a.eval o fun c hc => ?_
  simp only [execOp, hc, Sem.run_bind] at h
  generalize (resolve a.eval c o.type).run P w = r at h
  cases r with
  | ok d w2 =>
    simp [Result.andThen] at h
    exact hx _ h.1.symm
  | halt _ _ => simp [Result.andThen] at h
theorem V.op {ops : Array Oper} {i : Nat} {rest : List Nat} {o : Oper} {r : AV} {H' : Hp} (ho : ops[i]? = some o) (hw : awant ops s o.guard = .yes) (hd : dstOk N o.dst = true) (hop : OpOk P N o s H r H')
    (h : V P f N C Q (.inRegion ops rest :: k) (putS s o.dst r) H') : V P f N C Q (.inRegion ops (i :: rest) :: k) s H := by
  refine V.steps h fun ρ μ a w hs hst => ?_
  obtain ⟨v, w', ρ', μ', hrun, hv, h1, h2, hst'⟩ := hop C ρ μ a w hs hst
  refine ⟨ρ', μ', a.put o.dst v, w', (hs.mono h1 h2).putS hd hv, hst', put_defers a _ v, fun b cs _ _ => ?_⟩
  have hwt := (awant_sound hs ops o).1 hw
  have hg := stepGR_op (P := P) (b := b) (k := k) (cs := cs) (w := w) (rest := rest) ho hwt
  have hfin : ∀ v, (b.atR a (.inRegion ops (i :: rest) :: k)).finish v = b.atR (a.put o.dst v) (.inRegion ops rest :: k) := by
    intro v; rw [Frame.finish_atR, ho]; rfl
  rcases hrun with hr | ⟨hr, rfl⟩
  · rw [semAt_of b.roundOf hr (fun _ h => by cases h)] at hg
    refine .one (step_lone_go ?_)
    rw [hg, ← hfin]; simp [stepG.apply, hr]
  · rw [semAt_of b.roundOf hr (fun _ h => by cases h)] at hg
    refine .one (step_lone_go ?_)
    rw [hg, ← hfin]; simp [stepG.apply, hr]

theorem V.opSkip {ops : Array Oper} {i : Nat} {rest : List Nat} {o : Oper} (ho : ops[i]? = some o) (hw : awant ops s o.guard = .no) (hd : dstOk N o.dst = true)
    (h : V P f N C Q (.inRegion ops rest :: k) (putS s o.dst (.tup [])) H) : V P f N C Q (.inRegion ops (i :: rest) :: k) s H := by
  refine V.steps h fun ρ μ a w hs hst => ?_
  refine ⟨ρ, μ, a.put o.dst undef, w, hs.putS hd (.tup _ _ [] #[] rfl (fun j hj => by simp at hj)), hst, put_defers a _ _, fun b cs _ _ => ?_⟩
  have hwt := (awant_sound hs ops o).2 hw
  have hst := stepR_op_skip (P := P) (b := b) (a := a) (k := k) (cs := cs) (w := w) (ops := ops) (i := i) (rest := rest) (by simp [ho, hwt])
  rw [ho] at hst
  exact .one hst

/-! ### A call of a Go function -/
theorem V.callOp {ops : Array Oper} {i : Nat} {rest : List Nat} {o : Oper} {g : FuncId} (ho : ops[i]? = some o) (hw : awant ops s o.guard = .yes) (hd : dstOk N o.dst = true)
    (hrun : ∀ ρ μ a w, RelS ρ μ N s a → St C ρ μ H w → ∃ vs, (execOp a.eval o).run P w = .ok (.enter g vs) w ∧
      Calls P g vs w fun e w' => ∃ v r s' H' ρ' μ', e = .returned v ∧ RelV ρ' μ' r v ∧ RelS ρ' μ' N s' a ∧ St C ρ' μ' H' w' ∧ V P f N C Q (.inRegion ops rest :: k) (putS s' o.dst r) H') : V P f N C Q (.inRegion ops (i :: rest) :: k) s H := by
  intro ρ μ a w hs hst b cs hb hk hro
  obtain ⟨vs, hr, hcalls⟩ := hrun ρ μ a w hs hst
  have hwt := (awant_sound hs ops o).1 hw
  have hg := stepGR_op (P := P) (b := b) (k := k) (cs := cs) (w := w) (rest := rest) ho hwt
  rw [semAt_of b.roundOf hr (fun _ h => by cases h)] at hg
  have hfin : ∀ v, (b.atR a (.inRegion ops (i :: rest) :: k)).finish v = b.atR (a.put o.dst v) (.inRegion ops rest :: k) := by
    intro v; rw [Frame.finish_atR, ho]; rfl
  obtain ⟨e, w', fr, ⟨v, r, s', H', ρ', μ', rfl, hv, hs', hst', hV⟩, hcomes, _, hleave⟩ := hcalls (b.atR a (.inRegion ops (i :: rest) :: k) :: cs)
  have henter : step P (lone (b.atR a (.inRegion ops (i :: rest) :: k)) cs w) = .next (lone (Frame.enter P g vs .normal) (b.atR a (.inRegion ops (i :: rest) :: k) :: cs) w) :=
    step_lone_go (by rw [hg]; simp [stepG.apply, hr, Frame.atR])
  have hback := step_leave_returned (c := b.atR a (.inRegion ops (i :: rest) :: k)) (cs := cs) hleave
  rw [hfin] at hback
  obtain ⟨ex, a2, w2, fr2, hp, hd2, hc, h1⟩ := hV ρ' μ' (a.put o.dst v) w' (hs'.putS hd hv) hst' b cs hb hk hro
  exact ⟨ex, a2, w2, fr2, hp, hd2.trans (put_defers a _ v), .head henter (Steps.trans hcomes (Steps.trans (.one hback) hc)), h1⟩

/-! ### The end -/
theorem ret_frame (h : Q.rnd = none) (hfin : ∀ ρ μ a w, RelS ρ μ N s a → St C ρ μ H w → Fin P f N C Q .ret a w) : V P f N C Q (.code .ret :: k) s H ∧ V P f N C Q [] s H := by
  constructor
  · intro ρ μ a w hs hst b cs hb hk hr
    refine ⟨.ret, a, w, { b.atR a (.code .ret :: k) with mode := .returning }, hfin ρ μ a w hs hst, rfl, .one (stepR_ret (by rw [hr, h])), h, hb, rfl, rfl, rfl, hk⟩
  · intro ρ μ a w hs hst b cs hb hk hr
    refine ⟨.ret, a, w, { b.atR a [] with mode := .returning }, hfin ρ μ a w hs hst, rfl, .one (stepR_end (by rw [hr, h])), h, hb, rfl, rfl, rfl, hk⟩
theorem V.ret_of {fn : Func} (hf : P.funcs[f]? = some fn) {r : AV} {H' : Hp} {Qn : AV → Hp → Prop} (hq : Qn r H') (hQ : Q = .norm Qn ∨ Q = .late Qn ∨ ∃ R, Q = .may Qn R)
    (h : ∀ C ρ μ a w, RelS ρ μ N s a → St C ρ μ H w → ∃ v ρ' μ', (results fn a.tmps).run P w = .ok v w ∧ RelV ρ' μ' r v ∧ St C ρ' μ' H' w) : V P f N C Q (.code .ret :: k) s H ∧ V P f N C Q [] s H := by
  have hb : ∀ C ρ μ a w, RelS ρ μ N s a → St C ρ μ H w → Back P f C Qn a w := fun C ρ μ a w hs hst => by
    obtain ⟨v, ρ', μ', hr, hv, hst'⟩ := h C ρ μ a w hs hst
    exact ⟨fn, v, r, H', ρ', μ', hf, hr, hq, hv, hst'⟩
  rcases hQ with rfl | rfl | ⟨R, rfl⟩
  · exact ret_frame rfl (hb C)
  · exact ret_frame rfl fun ρ μ a w hs hst => ⟨ρ, μ, H, hst, fun C' w' hst' => hb C' ρ μ a w' hs hst'⟩
  · exact ret_frame rfl (hb C)
theorem V.retState {E : Slots → Hp → Prop} {R : AV → Slots → Hp → Prop} (h : E s H) : V P f N C (.state E R) (.code .ret :: k) s H ∧ V P f N C (.state E R) [] s H :=
  ret_frame rfl fun ρ μ a w hs hst => ⟨s, H, ρ, μ, h, hs, hst⟩
theorem V.retDone {E : Hp → Prop} {fn : Func} (hf : P.funcs[f]? = some fn) (hr : fn.results = #[]) (h : E H) : V P f N C (.done E) (.code .ret :: k) s H ∧ V P f N C (.done E) [] s H :=
  ret_frame rfl fun ρ μ a w hs hst => ⟨⟨fn, .tuple #[], hf, by simp [results, hr]⟩, H, ρ, μ, h, hst⟩
theorem V.at_ {kd : CallKind} {todo : List Item} {E : Slots → Hp → Prop} (h : E s H) : V P f N C (.upto kd todo E) todo s H := by
  intro ρ μ a w hs hst b cs hb hk hr
  exact ⟨.at_ todo, a, w, b.atR a todo, ⟨rfl, s, H, ρ, μ, h, hs, hst⟩, rfl, .refl _ _, b, rfl, hb, hr, hk⟩
theorem V.retIter {l : Nat} {QN : Hp → Prop} {QS : Option Code → Hp → Prop} {fn : Func} (hf : P.funcs[f]? = some fn) (hr : fn.results = #[]) (h : QN H) : V P f N C (.iter l QN QS) (.code .ret :: k) s H ∧ V P f N C (.iter l QN QS) [] s H :=
  ret_frame rfl fun ρ μ a w hs hst => ⟨⟨fn, .tuple #[], hf, by simp [results, hr]⟩, .inl ⟨H, ρ, μ, h, hst⟩⟩
/-- A loop's record that is no object's. -/
def InRound (C : Ctx) (l : Nat) : Prop := (∃ R, C.w0.heap[l]? = some (.loop R)) ∧ ¬ C.own l
theorem setB_self {w : World} {l : Nat} {o : Obj} (h : w.heap[l]? = some o) : setB w l o = w := by
  have : w.heap.setIfInBounds l o = w.heap := by
    apply Array.ext_getElem?
    intro i
    rw [Array.getElem?_setIfInBounds]
    split
    · rename_i e
      subst e
      split
      · exact h.symm
      · rename_i h2; rw [Array.getElem?_eq_none (by omega)]
    · rfl
  unfold setB
  rw [this]
theorem InRound.stL {l : Nat} (h : InRound C l) {ρ : Rho} {μ : Mu} {w : World} (hst : St C ρ μ H w) : StL C l ρ μ H w := by
  obtain ⟨⟨R, hR⟩, hn⟩ := h
  have e : w.heap[l]? = some (.loop R) := by rw [hst.keep.block l hn]; exact hR
  exact ⟨R, R, hR, e, rfl, by rw [setB_self e]; exact hst⟩
/-- A round's end. -/
theorem V.leave {l : Nat} {QR : Option Code → Hp → Prop} {todo : List Item} (j : Option Code) (hl : LeaveAt j todo) (h : QR j H) (hin : InRound C l) : V P f N C (.round l QR) todo s H := by
  intro ρ μ a w hs hst b cs hb hk hr
  exact ⟨.leave j, a, w, b.atR a todo, ⟨H, ρ, μ, h, hin.stL hst⟩, rfl, .refl _ _, b, todo, rfl, hb, hr, hk, hl⟩

def frame0 (f : FuncId) : Frame := { (default : Frame) with fn := f, kind := .normal, roundOf := none }
theorem enter_frame {fn : Func} {c : Code} (hf : P.funcs[f]? = some fn) (hb : fn.body = some c) (vs : Array Value) :
    Frame.enter P f vs .normal = (frame0 f).atR { tmps := vs ++ Array.replicate (fn.ntmps - vs.size) undef, defers := [] } [.code c] := by
  simp [Frame.enter, Frame.atR, hf, hb, frame0]
theorem enter_rel {fn : Func} {args : List AV} {ρ : Rho} {μ : Mu} {vs : Array Value} (hn : fn.ntmps = N) (hl : args.length ≤ N) (hsz : vs.size = args.length) (hrel : ∀ j, j < args.length → RelV ρ μ (args.getD j .top) (vs.getD j undef)) :
    RelS ρ μ N (argSlots 0 args) { tmps := vs ++ Array.replicate (fn.ntmps - vs.size) undef, defers := [] } := by
  refine ⟨by simp [hn, hsz]; omega, trivial, fun t => ?_⟩
  rw [look_argSlots, if_pos (Nat.zero_le _), Nat.sub_zero]
  by_cases ht : t < args.length
  · have := hrel t ht
    rw [Array.getD_eq_getD_getElem?] at this ⊢
    rw [Array.getElem?_append_left (by omega)]
    exact this
  · rw [List.getD_eq_getElem?_getD, List.getElem?_eq_none (by omega)]
    exact .top ..
theorem St.start {ρ : Rho} {μ : Mu} {H : Hp} {w : World} (hrep : Rep ρ μ H w) : St ⟨w, ρ, μ, H, H.length⟩ ρ μ H w :=
  ⟨hrep, ⟨Nat.le_refl _, fun _ _ => rfl, MuLe.refl _, Nat.le_refl _, rfl, rfl, rfl, fun _ _ => rfl, fun o L ho hL => .inr ⟨o, L, ho, hL, rfl⟩, fun _ _ _ => rfl⟩⟩
theorem St.startN {ρ : Rho} {μ : Mu} {H : Hp} {w : World} {n : Nat} (hrep : Rep ρ μ H w) (hn : n ≤ H.length) : St ⟨w, ρ, μ, H, n⟩ ρ μ H w :=
  ⟨hrep, ⟨hn, fun _ _ => rfl, MuLe.refl _, Nat.le_refl _, rfl, rfl, rfl, fun _ _ => rfl, fun o L ho hL => .inr ⟨o, L, ho, hL, rfl⟩, fun _ _ _ => rfl⟩⟩
/-- How a contract is proved. -/
theorem FSpec.of {f : FuncId} {fn : Func} {c : Code} (hf : P.funcs[f]? = some fn) (hb : fn.body = some c) {args : List AV} (hn : fn.ntmps = N) (hl : args.length ≤ N) {H : Hp} {Qn : AV → Hp → Prop}
    (h : ∀ C, C.n0 = H.length → V P f N C (.norm Qn) [.code c] (argSlots 0 args) H) : FSpec P f args H Qn := by
  intro ρ μ w vs hsz hrel hrep cs
  rw [enter_frame hf hb]
  obtain ⟨ex, a', w', fr, hfin, hd, hs, hx⟩ := h ⟨w, ρ, μ, H, H.length⟩ rfl ρ μ _ w (enter_rel hn hl hsz hrel) (.start hrep) (frame0 f) cs rfl rfl rfl
  cases ex with
  | ret =>
    obtain ⟨fn', v, r, H', ρ', μ', hf', hr, hq, hv, hst⟩ := hfin
    obtain ⟨_, e1, e2, e3, e4, e5⟩ := hx
    refine ⟨.returned v, w', fr, ⟨v, r, H', ρ', μ', rfl, hq, hv, hst⟩, hs, e1, e4, by rw [e3, hd], e5, fn', by rw [e1]; exact hf', by rw [e2]; exact hr⟩
  | leave j => exact hfin.elim
  | panic v => exact hfin.elim
  | at_ todo => exact hfin.elim

end
end Vx

namespace Vx
open Go

/-! ## Types -/
/-- Of what make a struct's field is. -/
inductive FK where
  | agg | int | bool | str | oth
def FK.isAgg : FK → Bool
  | .agg => true
  | _ => false
def FK.beq : FK → FK → Bool
  | .agg, .agg | .int, .int | .bool, .bool | .str, .str | .oth, .oth => true
  | _, _ => false
theorem FK.beq_eq {a b : FK} (h : FK.beq a b = true) : a = b := by cases a <;> cases b <;> first | rfl | cases h
inductive TD where
  | int (k : IntKind) | bool | str | flt (k : FloatKind) | ptr | map | func | iface
  | slice (e : Nat)
  | struct (eq : Bool) (fs : List (Nat × Nat × FK))
  | array (n e : Nat)
structure TI where
  d : TD
  size : Nat
  bytes : Nat
  zero : List AV
def TD.isAgg : TD → Bool
  | .struct .. | .array _ _ => true
  | _ => false
abbrev TabL := List (Nat × TI)
def tabL : TabL → Nat → Option TI
  | [], _ => none
  | (k, v) :: r, t => match Nat.beq k t with | true => some v | false => tabL r t
abbrev Tab := Nat → Option TI
def tab (T : Tab) (t : Nat) : Option TI := T t

def aggDesc : TypeDesc → Bool
  | .struct _ | .array _ _ => true
  | _ => false

def fkOf : TypeDesc → FK
  | .struct _ | .array _ _ => .agg
  | .int _ => .int
  | .bool => .bool
  | .string => .str
  | _ => .oth
theorem fk_agg (d : TypeDesc) : (fkOf d).isAgg = aggDesc d := by cases d <;> rfl
def FieldOk (P : Program) (f : Field) (p : Nat × Nat × FK) : Prop :=
  f.offset = p.1 ∧ 0 < p.2.1 ∧ (∃ i, P.info? f.type = some i ∧ i.size = p.2.1) ∧ ∃ d, P.underlying f.type = some d ∧ fkOf d = p.2.2

def DescOk (P : Program) (t : Nat) : TD → Prop
  | .int k => P.underlying t = some (.int k)
  | .bool => P.underlying t = some .bool
  | .str => P.underlying t = some .string
  | .flt k => P.underlying t = some (.float k)
  | .ptr => ∃ e, P.underlying t = some (.pointer e)
  | .map => ∃ a b, P.underlying t = some (.map a b)
  | .func => ∃ a b c, P.underlying t = some (.func a b c)
  | .iface => ∃ a, P.underlying t = some (.interface a)
  | .slice e => P.underlying t = some (.slice e)
  | .struct eq fs => ∃ fields, P.underlying t = some (.struct fields) ∧ (eq = true → P.stoodInHeld t = false ∧ ∀ f ∈ fields.toList, (f.name == "_") = false) ∧ fields.size = fs.length ∧ ∀ (j : Nat) (p : Nat × Nat × FK), fs[j]? = some p → ∃ f, fields[j]? = some f ∧ FieldOk P f p
  | .array n e => P.underlying t = some (.array n e)

def mu0 : Mu := fun _ _ => none
structure Tok (P : Program) (t : Nat) (ti : TI) : Prop where
  info : ∃ i z, P.info? t = some i ∧ i.size = ti.size ∧ i.bytes = ti.bytes ∧ i.zero = some z ∧ z.cells.size = ti.size ∧ ti.zero.length = ti.size ∧ (z.cells.all (·.oneCell') = true) ∧
    (∀ j, j < ti.size → RelV rho0 mu0 (ti.zero.getD j .top) (z.cells.getD j undef))
  desc : DescOk P t ti.d
  pos : 0 < ti.size

def zeroOne : AV → Value → Bool
  | .int k n, .int k' n' => k == k' && n == n'
  | .bool b, .bool b' => b == b'
  | .flt k n, .float k' n' => k == k' && n == n'
  | .str s, .string s' => decide (s.data = s'.data)
  | .nil .ptr, .pointer none => true
  | .nil .slice, .slice none 0 0 => true
  | .nil .map, .map none => true
  | .nil .func, .nilFunc => true
  | .nil .iface, .nilIface => true
  | _, _ => false
theorem zeroOne_sound (ρ : Rho) (μ : Mu) {x : AV} {v : Value} (h : zeroOne x v = true) : RelV ρ μ x v ∧ v.oneCell' = true := by
  unfold zeroOne at h
  split at h
  · simp only [Bool.and_eq_true, beq_iff_eq] at h; obtain ⟨rfl, rfl⟩ := h; exact ⟨.int .., rfl⟩
  · simp only [beq_iff_eq] at h; subst h; exact ⟨.bool .., rfl⟩
  · simp only [Bool.and_eq_true, beq_iff_eq] at h; obtain ⟨rfl, rfl⟩ := h; exact ⟨.flt .., rfl⟩
  · rename_i s s'
    have h := of_decide_eq_true h
    cases s; cases s'; simp only at h; subst h; exact ⟨.str .., rfl⟩
  · exact ⟨.nilPtr .., rfl⟩
  · exact ⟨.nilSlice .., rfl⟩
  · exact ⟨.nilMap .., rfl⟩
  · exact ⟨.nilFunc .., rfl⟩
  · exact ⟨.nilIface .., rfl⟩
  · cases h
def zeroAll : List AV → List Value → Bool
  | [], [] => true
  | x :: r, v :: s => zeroOne x v && zeroAll r s
  | _, _ => false
theorem zeroAll_sound (ρ : Rho) (μ : Mu) : ∀ {xs : List AV} {vs : List Value}, zeroAll xs vs = true → xs.length = vs.length ∧ (vs.all (·.oneCell') = true) ∧ ∀ j, j < xs.length → RelV ρ μ (xs.getD j .top) (vs.getD j undef)
  | [], [], _ => ⟨rfl, rfl, fun j hj => by simp at hj⟩
  | [], _ :: _, h => by simp [zeroAll] at h
  | _ :: _, [], h => by simp [zeroAll] at h
  | x :: r, v :: s, h => by
    simp only [zeroAll, Bool.and_eq_true] at h
    obtain ⟨h1, h2, h3⟩ := zeroAll_sound ρ μ h.2
    have h0 := zeroOne_sound ρ μ h.1
    refine ⟨by simp [h1], by simp [h0.2] at h2 ⊢; exact h2, fun j hj => ?_⟩
    cases j with
    | zero => simpa using h0.1
    | succ j => simpa using h3 j (by simpa using hj)

def fieldChk (P : Program) (f : Field) (p : Nat × Nat × FK) : Bool :=
  Nat.beq f.offset p.1 && Nat.blt 0 p.2.1 && (match P.info? f.type with | some i => Nat.beq i.size p.2.1 | none => false) && (match P.underlying f.type with | some d => FK.beq (fkOf d) p.2.2 | none => false)
def fieldsChk (P : Program) : List Field → List (Nat × Nat × FK) → Bool
  | f :: r, p :: s => fieldChk P f p && fieldsChk P r s
  | [], [] => true
  | _, _ => false
def descChk (P : Program) (t : Nat) : TD → Bool
  | .int k => match P.underlying t with | some (.int k') => k == k' | _ => false
  | .bool => match P.underlying t with | some .bool => true | _ => false
  | .str => match P.underlying t with | some .string => true | _ => false
  | .flt k => match P.underlying t with | some (.float k') => k == k' | _ => false
  | .ptr => match P.underlying t with | some (.pointer _) => true | _ => false
  | .map => match P.underlying t with | some (.map ..) => true | _ => false
  | .func => match P.underlying t with | some (.func ..) => true | _ => false
  | .iface => match P.underlying t with | some (.interface _) => true | _ => false
  | .slice e => match P.underlying t with | some (.slice e') => Nat.beq e e' | _ => false
  | .struct eq fs => match P.underlying t with | some (.struct fields) => (!eq || (!P.stoodInHeld t && fields.toList.all fun f => !(f.name == "_"))) && fieldsChk P fields.toList fs | _ => false
  | .array n e => match P.underlying t with | some (.array n' e') => Nat.beq n n' && Nat.beq e e' | _ => false
def tchk (P : Program) (p : Nat × TI) : Bool :=
  (match P.info? p.1 with
    | some i => Nat.beq i.size p.2.size && Nat.beq i.bytes p.2.bytes && (match i.zero with | some z => Nat.beq z.cells.size p.2.size && zeroAll p.2.zero z.cells.toList | none => false)
    | none => false) && descChk P p.1 p.2.d && Nat.blt 0 p.2.size

theorem fieldsChk_sound {P : Program} : ∀ {fl : List Field} {fs : List (Nat × Nat × FK)}, fieldsChk P fl fs = true → ∀ (j : Nat) (p : Nat × Nat × FK), fs[j]? = some p → ∃ f, fl[j]? = some f ∧ FieldOk P f p
  | [], [], _, j, p, h => by simp at h
  | _ :: _, [], h, _, _, _ => by simp [fieldsChk] at h
  | [], _ :: _, h, _, _, _ => by simp [fieldsChk] at h
  | f :: r, q :: s, h, j, p, hp => by
    simp only [fieldsChk, Bool.and_eq_true] at h
    cases j with
    | succ j => exact fieldsChk_sound h.2 j p (by simpa using hp)
    | zero =>
      simp at hp
      subst hp
      refine ⟨f, rfl, ?_⟩
      have h1 := h.1
      simp only [fieldChk, Bool.and_eq_true, Nat.beq_eq_true_eq] at h1
      obtain ⟨⟨⟨ha, hb⟩, hc⟩, hd⟩ := h1
      refine ⟨by simpa using ha, by simpa using hb, ?_, ?_⟩
      · split at hc
        · rename_i i hi; exact ⟨i, hi, by simpa using hc⟩
        · cases hc
      · split at hd
        · rename_i d hi; exact ⟨d, hi, FK.beq_eq hd⟩
        · cases hd

theorem fieldsChk_len {P : Program} : ∀ {fl : List Field} {fs : List (Nat × Nat × FK)}, fieldsChk P fl fs = true → fl.length = fs.length
  | [], [], _ => rfl
  | _ :: _, [], h => by simp [fieldsChk] at h
  | [], _ :: _, h => by simp [fieldsChk] at h
  | f :: r, q :: s, h => by
    simp only [fieldsChk, Bool.and_eq_true] at h
    simp [fieldsChk_len h.2]

theorem descChk_sound {P : Program} {t : Nat} {d : TD} (h : descChk P t d = true) : DescOk P t d := by
  cases d with
  | struct eq fs =>
    simp only [descChk] at h
    split at h
    · rename_i fields hf
      obtain ⟨h0, h⟩ := (Bool.and_eq_true _ _).mp h
      refine ⟨fields, hf, fun he => ?_, by simpa using fieldsChk_len h, fun j p hp => ?_⟩
      · subst he
        simp only [Bool.not_true, Bool.false_or, Bool.and_eq_true, Bool.not_eq_true', List.all_eq_true] at h0
        exact h0
      obtain ⟨f, h1, h2⟩ := fieldsChk_sound h j p hp
      exact ⟨f, by simpa using h1, h2⟩
    · cases h
  | array n e =>
    simp only [descChk] at h
    simp only [DescOk]
    split at h
    · have h' := (Bool.and_eq_true _ _).mp h
      have e1 := Nat.eq_of_beq_eq_true h'.1
      have e2 := Nat.eq_of_beq_eq_true h'.2
      subst e1 e2
      assumption
    · cases h
  | _ =>
    simp only [descChk] at h
    simp only [DescOk]
    split at h
    · first | (simp only [beq_iff_eq] at h; subst h; assumption) | (simp only [Bool.and_eq_true, Nat.beq_eq_true_eq] at h; obtain ⟨rfl, rfl⟩ := h; assumption) | (have h := Nat.eq_of_beq_eq_true h; subst h; assumption) | assumption | exact ⟨_, by assumption⟩ | exact ⟨_, _, by assumption⟩ | exact ⟨_, _, _, by assumption⟩
    · cases h

theorem tchk_sound {P : Program} {p : Nat × TI} (h : tchk P p = true) : Tok P p.1 p.2 := by
  simp only [tchk, Bool.and_eq_true] at h
  obtain ⟨⟨h1, h2⟩, h3⟩ := h
  split at h1
  · rename_i i hi
    simp only [Bool.and_eq_true] at h1
    obtain ⟨⟨ha, hb⟩, hc⟩ := h1
    split at hc
    · rename_i z hz
      simp only [Bool.and_eq_true] at hc
      have hs : z.cells.size = p.2.size := by simpa using hc.1
      obtain ⟨q1, q2, q3⟩ := zeroAll_sound rho0 mu0 hc.2
      refine ⟨⟨i, z, hi, by simpa using ha, by simpa using hb, hz, hs, by rw [q1]; simpa using hs, by simpa using q2, fun j hj => ?_⟩, descChk_sound h2, by simpa using h3⟩
      have := q3 j (by rw [q1]; simp; omega)
      simpa using this
    · cases hc
  · cases h1

def TabOk (P : Program) (T : Tab) : Prop := ∀ t ti, tab T t = some ti → Tok P t ti
theorem tabOk_of {P : Program} : ∀ {T : TabL}, (T.all (tchk P)) = true → TabOk P (tabL T)
  | [], _ => fun t ti h => by simp [tab, tabL] at h
  | p :: r, h => fun t ti ht => by
    simp only [List.all_cons, Bool.and_eq_true] at h
    simp only [tab, tabL] at ht
    split at ht
    · rename_i e
      injection ht with ht
      subst ht
      have := Nat.eq_of_beq_eq_true e
      subst this
      exact tchk_sound h.1
    · exact tabOk_of h.2 t ti ht

/-! ## Operations on values, told by a record, so that the evaluation leaves them alone -/
structure Ops where
  add : IntKind → Int → Int → Int
  sub : IntKind → Int → Int → Int
  mul : IntKind → Int → Int → Int
  quo : IntKind → Int → Int → Int
  rem : Int → Int → Int
  band : IntKind → Int → Int → Int
  bor : IntKind → Int → Int → Int
  bxor : IntKind → Int → Int → Int
  bandn : IntKind → Int → Int → Int
  shl : IntKind → Int → Int → Int
  shr : IntKind → Int → Int → Int
  conv : IntKind → Int → Int
  eq : Int → Int → Bool
  ne : Int → Int → Bool
  lt : Int → Int → Bool
  le : Int → Int → Bool
  gt : Int → Int → Bool
  ge : Int → Int → Bool
  beq : Bool → Bool → Bool
  bne : Bool → Bool → Bool
  not : Bool → Bool
  and : Bool → Bool → Bool
  seq : ByteArray → ByteArray → Bool
  sne : ByteArray → ByteArray → Bool
  scat : ByteArray → ByteArray → ByteArray
  ssub : ByteArray → Nat → Nat → ByteArray
  slen : ByteArray → Int
  ssz : ByteArray → Nat
  sbyte : ByteArray → Nat → Int
  toN : Int → Nat
  ofN : Nat → Int
  addN : Nat → Nat → Nat
  subN : Nat → Nat → Nat
  eqN : Nat → Nat → Bool
  ltB : Nat → Nat → Bool
  leN : Nat → Nat → Prop
  mx : Int → Int → Int
  mn : Int → Int → Int
  inb : Int → Nat → Prop
  leb : Int → Int → Prop
  slt : ByteArray → ByteArray → Bool
  ltN : Nat → Nat → Prop
  fit : Nat → Nat → Prop
  ne0 : Int → Prop
  ge0 : Int → Prop
  sfit : ByteArray → ByteArray → Prop
  minN : Nat → Nat → Nat
  inR : Nat → Nat → Nat → Bool
  bcol : ByteArray → Nat → List AV
  bstr : Nat → (Nat → List AV) → ByteArray
  isB : Nat → (Nat → List AV) → Prop

def bits (k : IntKind) (f : BitVec k.bits → BitVec k.bits → BitVec k.bits) (x y : Int) : Int := k.wrap (f (BitVec.ofInt k.bits x) (BitVec.ofInt k.bits y)).toNat
/-- A byte's number. -/
def bval : List AV → Int
  | [.int .u8 x] => x
  | _ => 0
def bcolF (b : ByteArray) (i : Nat) : List AV := [.int .u8 ((b[i]?.map (fun b => (b.toNat : Int))).getD 0)]
def bstrF (n : Nat) (f : Nat → List AV) : ByteArray := ⟨(((List.range n).map fun i => bval (f i)).map fun n => UInt8.ofNat n.toNat).toArray⟩
def std : Ops where
  add k x y := k.wrap (x + y)
  sub k x y := k.wrap (x - y)
  mul k x y := k.wrap (x * y)
  quo k x y := k.wrap (x.tdiv y)
  rem x y := x.tmod y
  band k x y := bits k (· &&& ·) x y
  bor k x y := bits k (· ||| ·) x y
  bxor k x y := bits k (· ^^^ ·) x y
  bandn k x y := bits k (fun a b => a &&& ~~~b) x y
  shl k x y := k.wrap (x * 2 ^ (min y.toNat k.bits))
  shr k x y := x.fdiv (2 ^ (min y.toNat k.bits))
  conv k x := k.wrap x
  eq x y := x == y
  ne x y := x != y
  lt x y := decide (x < y)
  le x y := decide (x ≤ y)
  gt x y := decide (x > y)
  ge x y := decide (x ≥ y)
  beq a b := a == b
  bne a b := a != b
  not a := !a
  and a b := a && b
  seq x y := x.toList == y.toList
  sne x y := !(x.toList == y.toList)
  scat x y := x ++ y
  ssub x l h := x.extract l h
  slen x := x.size
  ssz x := x.size
  sbyte x i := (x[i]?.map (fun b => (b.toNat : Int))).getD 0
  toN i := i.toNat
  ofN n := n
  addN a b := a + b
  subN a b := a - b
  eqN a b := a == b
  ltB a b := decide (a < b)
  leN a b := a ≤ b
  mx x y := if y > x then y else x
  mn x y := if y < x then y else x
  inb i n := 0 ≤ i ∧ i < n
  leb i n := 0 ≤ i ∧ i ≤ n
  slt x y := Op.bytesLess x.toList y.toList
  ltN a b := a < b
  fit n b := n * b ≤ 140737488355328 ∧ n ≤ maxLen
  ne0 x := x ≠ 0
  ge0 x := 0 ≤ x
  sfit x y := ((x.size + y.size : Nat) : Int) ≤ 9223372036854775807
  minN x y := min x y
  inR i k j := decide (i ≤ j ∧ j < i + k)
  bcol b i := bcolF b i
  bstr n f := bstrF n f
  isB n f := ∀ i, i < n → ∃ x, f i = [.int .u8 x]

end Vx

namespace Vx
open Go

/-! ## Operations that don't write -/
def hget : Hp → Nat → Option Ob
  | [], _ => none
  | x :: _, 0 => x
  | _ :: r, o + 1 => hget r o
theorem hget_some : ∀ {H : Hp} {o : Nat} {ob : Ob}, hget H o = some ob → H[o]? = some (some ob)
  | [], o, ob, h => by simp [hget] at h
  | x :: r, 0, ob, h => by simp only [hget] at h; subst h; rfl
  | x :: r, o + 1, ob, h => by simp only [hget] at h; simpa using hget_some h
def lget {α : Type} : List α → Nat → Option α
  | [], _ => none
  | x :: _, 0 => some x
  | _ :: r, n + 1 => lget r n
theorem lget_eq {α : Type} : ∀ (l : List α) (n : Nat), lget l n = l[n]?
  | [], n => by simp [lget]
  | x :: r, 0 => rfl
  | x :: r, n + 1 => by simp [lget, lget_eq r n]


/-- What an operation comes to: a value and a heap, under conditions; or it isn't told. -/
inductive Out where
  | ok (v : AV) (H : Hp)
  | need (p : Prop) (o : Out)
  | stop
def Out.sat : Out → (AV → Hp → Prop) → Prop
  | .ok v H, K => K v H
  | .need p o, K => p ∧ o.sat K
  | .stop, _ => False
theorem Out.sat_one : ∀ {o : Out} {K : AV → Hp → Prop}, o.sat K → ∃ r H', K r H' ∧ o.sat fun r' H'' => r' = r ∧ H'' = H'
  | .ok v H, K, h => ⟨v, H, h, rfl, rfl⟩
  | .need p o, K, h => let ⟨r, H', h1, h2⟩ := Out.sat_one (o := o) h.2; ⟨r, H', h1, h.1, h2⟩
  | .stop, _, h => h.elim

/-- The row of an object's element. -/
def orow (O : Ops) (c : Cont) (i : Nat) (k : List AV → Out) : Out :=
  match c with
  | .lit r => match lget r i with | some x => k x | none => .stop
  | .arr n f => .need (O.ltN i n) (k (f i))
theorem orow_sound {c : Cont} {i : Nat} {k : List AV → Out} {K : AV → Hp → Prop} (h : (orow std c i k).sat K) : i < c.n ∧ (k (c.f i)).sat K := by
  cases c with
  | lit r =>
    simp only [orow, lget_eq] at h
    split at h
    · rename_i x hx
      exact ⟨(List.getElem?_eq_some_iff.1 hx).1, by simpa [Cont.f, List.getD_eq_getElem?_getD, hx] using h⟩
    · exact h.elim
  | arr n f => exact h

def part (agg : Bool) (size off : Nat) (r : List AV) (k : AV → Out) : Out :=
  match agg with
  | true => match Nat.ble (off + size) r.length with | true => k (.agg ((r.drop off).take size)) | false => .stop
  | false => match lget r off with | some c => k c | none => .stop
theorem part_sound {agg : Bool} {size off : Nat} {r : List AV} {k : AV → Out} {K : AV → Hp → Prop} (h : (part agg size off r k).sat K) :
    (agg = true ∧ off + size ≤ r.length ∧ (k (.agg ((r.drop off).take size))).sat K) ∨ (agg = false ∧ off < r.length ∧ (k (r.getD off .top)).sat K) := by
  cases agg with
  | true =>
    simp only [part] at h
    split at h
    · rename_i e; exact .inl ⟨rfl, Nat.le_of_ble_eq_true e, h⟩
    · exact h.elim
  | false =>
    simp only [part, lget_eq] at h
    split at h
    · rename_i c hc; exact .inr ⟨rfl, (List.getElem?_eq_some_iff.1 hc).1, by simpa [List.getD_eq_getElem?_getD, hc] using h⟩
    · exact h.elim

def aload (T : Tab) (O : Ops) (H : Hp) (t : Nat) (p : AV) : Out :=
  match tab T t with
  | none => .stop
  | some ti =>
    match p with
    | .ref cs => part ti.d.isAgg ti.size 0 cs fun v => .ok v H
    | .ptr o i off => match hget H o with
      | some ob => orow O ob.c i fun r => part ti.d.isAgg ti.size off r fun v => .ok v H
      | none => .stop
    | _ => .stop

section
variable {P : Program} {T : Tab} {N : Nat} {s : Slots} {H : Hp}

theorem Tok.desc_agg {t : Nat} {ti : TI} (h : Tok P t ti) : ∃ d, P.underlying t = some d ∧ aggDesc d = ti.d.isAgg := by
  have hd := h.desc
  cases hdd : ti.d <;> rw [hdd] at hd <;> simp only [DescOk] at hd
  case struct => obtain ⟨f, hf, _⟩ := hd; exact ⟨_, hf, rfl⟩
  case ptr => obtain ⟨f, hf⟩ := hd; exact ⟨_, hf, rfl⟩
  case iface => obtain ⟨f, hf⟩ := hd; exact ⟨_, hf, rfl⟩
  case map => obtain ⟨f, g, hf⟩ := hd; exact ⟨_, hf, rfl⟩
  case func => obtain ⟨f, g, k, hf⟩ := hd; exact ⟨_, hf, rfl⟩
  all_goals exact ⟨_, hd, rfl⟩

theorem add_at (b o j : Nat) : (⟨b, o, none⟩ : Addr).add j = ⟨b, o + j, none⟩ := by unfold Addr.add; split <;> simp_all

theorem run_isAgg {t : Nat} {d : TypeDesc} (hd : P.underlying t = some d) (w : World) : (isAgg t).run P w = .ok (aggDesc d) w := by
  unfold isAgg
  rw [Sem.run_bind, run_underlying hd w]
  cases d <;> rfl
theorem run_sizeOf' {t : Nat} {i : TypeInfo} (hi : P.info? t = some i) (w : World) : (Go.sizeOf t).run P w = .ok i.size w := by
  simp [Go.sizeOf, typeInfo, hi]
theorem run_load_leaf {t : Nat} {d : TypeDesc} (hd : P.underlying t = some d) (ha : aggDesc d = false) {w : World} {a : Addr} {v : Value} (hc : w.cell? a = some v) : (loadVar t a).run P w = .ok v w := by
  simp [loadVar, run_isAgg hd, ha, hc]
theorem run_load_agg {t : Nat} {d : TypeDesc} {i : TypeInfo} (hd : P.underlying t = some d) (ha : aggDesc d = true) (hi : P.info? t = some i) {w : World} {b o : Nat} (vs : Nat → Value) (hc : ∀ j, j < i.size → w.cell? ⟨b, o + j, none⟩ = some (vs j)) :
    (loadVar t ⟨b, o, none⟩).run P w = .ok (.agg ((List.range i.size).map vs).toArray) w := by
  have := run_loadCells (P := P) w ⟨b, o, none⟩ i.size vs (fun j hj => by rw [add_at]; exact hc j hj)
  simp [loadVar, run_isAgg hd, ha, run_sizeOf' hi, this]

/-- What a reading of cells comes to. -/
theorem load_cells {t : Nat} {ti : TI} (htok : Tok P t ti) {ρ : Rho} {μ : Mu} {w : World} {b o : Nat} {r : List AV} {off : Nat} (vs : Nat → Value) (hc : ∀ j, j < r.length → w.cell? ⟨b, o + j, none⟩ = some (vs j))
    (hrel : ∀ j, j < r.length → RelV ρ μ (r.getD j .top) (vs j)) {k : AV → Out} {K : AV → Hp → Prop} (h : (part ti.d.isAgg ti.size off r k).sat K) :
    ∃ x v, (k x).sat K ∧ RelV ρ μ x v ∧ (loadVar t ⟨b, o + off, none⟩).run P w = .ok v w := by
  obtain ⟨d, hd, hda⟩ := htok.desc_agg
  obtain ⟨i, z, hi, hsz, _⟩ := htok.info
  rcases part_sound h with ⟨ha, hle, hk⟩ | ⟨ha, hlt, hk⟩
  · refine ⟨_, _, hk, ?_, run_load_agg hd (hda.trans ha) hi (fun j => vs (off + j)) (fun j hj => ?_)⟩
    · refine .agg _ _ _ _ (by simp; omega) fun j hj => ?_
      have hj' : j < ti.size := by simp at hj; omega
      have := hrel (off + j) (by omega)
      simpa [List.getD_eq_getElem?_getD, List.getElem?_take, List.getElem?_drop, hj', hsz] using this
    · rw [Nat.add_assoc]; exact hc _ (by omega)
  · exact ⟨_, _, hk, hrel off hlt, run_load_leaf hd (hda.trans ha) (hc off hlt)⟩

theorem rho0_le (ρ : Rho) : RhoLe rho0 ρ := fun _ _ h => by cases h
theorem mu0_le (μ : Mu) : MuLe mu0 μ := fun _ _ _ h => by cases h

theorem ObAt.lt {ρ : Rho} {μ : Mu} {w : World} {o : Nat} {ob : Ob} {L : Loc} {cs : Array Value} (h : ObAt ρ μ w o ob L cs) {i j : Nat} (hi : i < L.tot) (hj : j < L.sz) : i * L.sz + j < cs.size := by
  rw [h.size]
  calc i * L.sz + j < i * L.sz + L.sz := by omega
    _ = (i + 1) * L.sz := by rw [Nat.add_mul, Nat.one_mul]
    _ ≤ L.tot * L.sz := Nat.mul_le_mul_right _ (by omega)
theorem ObAt.cell {ρ : Rho} {μ : Mu} {w : World} {o : Nat} {ob : Ob} {L : Loc} {cs : Array Value} (h : ObAt ρ μ w o ob L cs) {i j : Nat} (hi : i < ob.c.n) (hj : j < L.sz) :
    w.cell? ⟨L.b, i * L.sz + j, none⟩ = some (cs.getD (i * L.sz + j) undef) ∧ RelV ρ μ ((ob.c.f i).getD j .top) (cs.getD (i * L.sz + j) undef) := by
  have hlt := h.lt (Nat.lt_of_lt_of_le hi h.n) hj
  refine ⟨by rw [cell_row h.heap]; simp [hlt], (h.rel i j hi hj).mono ?_ (MuLe.refl _)⟩
  cases ob.c with
  | lit r => exact RhoLe.refl _
  | arr n f => exact rho0_le _

theorem Rep.at_ {ρ : Rho} {μ : Mu} {w : World} (h : Rep ρ μ H w) {o : Nat} {ob : Ob} (ho : H[o]? = some (some ob)) {L : Loc} (hL : ρ o = some L) : ∃ L cs, ObAt ρ μ w o ob L cs := by
  rcases h.obj o ob ho with h1 | ⟨h1, _⟩
  · exact h1
  · rw [h1] at hL; cases hL
theorem aload_sound (hT : TabOk P T) {ρ : Rho} {μ : Mu} {w : World} (hrep : Rep ρ μ H w) {t : Nat} {p : AV} {u : Value} (hp : RelV ρ μ p u) {K : AV → Hp → Prop} (h : (aload T std H t p).sat K) :
    ∃ x v a, K x H ∧ RelV ρ μ x v ∧ u = .pointer (some a) ∧ (loadVar t a).run P w = .ok v w := by
  unfold aload at h
  split at h
  · exact h.elim
  · rename_i ti hti
    have htok := hT t ti hti
    split at h
    · rename_i cs
      cases hp with
      | ref _ _ _ b o ws hrel hmem =>
        obtain ⟨x, v, hk, hr, hrun⟩ := load_cells htok (ρ := ρ) (μ := μ) (off := 0) ws (fun j hj => (hrep.mem _ _ _ (hmem j hj)).1) (fun j hj => (hrel j hj).mono (rho0_le _) (MuLe.refl _)) h
        exact ⟨x, v, _, hk, hr, rfl, by simpa using hrun⟩
    · rename_i o i off
      cases hp with
      | ptr _ _ _ _ _ L hL =>
        split at h
        · rename_i ob hob
          obtain ⟨L', cs, hat⟩ := hrep.at_ (hget_some hob) hL
          obtain rfl : L' = L := Option.some.inj (hat.loc.symm.trans hL)
          obtain ⟨hi, h⟩ := orow_sound h
          obtain ⟨x, v, hk, hr, hrun⟩ := load_cells htok (ρ := ρ) (μ := μ) (b := L'.b) (o := i * L'.sz) (off := off) (fun j => cs.getD (i * L'.sz + j) undef)
            (fun j hj => (hat.cell hi (by rw [← hat.len i hi]; exact hj)).1) (fun j hj => (hat.cell hi (by rw [← hat.len i hi]; exact hj)).2) h
          exact ⟨x, v, _, hk, hr, rfl, hrun⟩
        · exact h.elim
    · exact h.elim

/-- A pure operation. -/
theorem OpOk.pure {o : Oper} {r : AV} (h : ∀ ρ μ a w, RelS ρ μ N s a → Rep ρ μ H w → ∃ v, (execOp a.eval o).run P w = .ok (.value v) w ∧ RelV ρ μ r v) : OpOk P N o s H r H := by
  intro C ρ μ a w hs hst
  obtain ⟨v, h1, h2⟩ := h ρ μ a w hs hst.rep
  exact ⟨v, w, ρ, μ, .inl h1, h2, RhoLe.refl _, MuLe.refl _, hst⟩
abbrev Out.is (o : Out) (r : AV) (H' : Hp) : Prop := o.sat fun r' H'' => r' = r ∧ H'' = H'

theorem op_load (hT : TabOk P T) {o : Oper} {t : Nat} {x : Operand} (ho : o.op = .load t x) {r : AV} {H' : Hp} (h : (aload T std H t (aeval s x)).is r H') : OpOk P N o s H r H' := by
  have key : ∀ C ρ μ a w, RelS ρ μ N s a → St C ρ μ H w → H' = H ∧ ∃ v, (execOp a.eval o).run P w = .ok (.value v) w ∧ RelV ρ μ r v := by
    intro C ρ μ a w hs hst
    obtain ⟨y, v, ad, ⟨rfl, rfl⟩, hr, hu, hrun⟩ := aload_sound hT hst.rep (aeval_rel hs x) h
    exact ⟨rfl, v, by simp [execOp, ho, Instr.loadAt, Instr.sureAddr, hu, hrun], hr⟩
  intro C ρ μ a w hs hst
  obtain ⟨rfl, v, h1, h2⟩ := key C ρ μ a w hs hst
  exact ⟨v, w, ρ, μ, .inl h1, h2, RhoLe.refl _, MuLe.refl _, hst⟩

end
end Vx

namespace Vx
open Go

/-! ## Operations that don't write, part 2 -/
section
variable {P : Program} {T : Tab} {N : Nat} {s : Slots} {H : Hp}

theorem getD_ge {vs : Array Value} {j : Nat} {x : Value} (h : vs.getD j undef = x) (hx : x ≠ undef) : vs[j]? = some x := by
  rw [Array.getD_eq_getD_getElem?] at h
  cases hq : vs[j]? with
  | none => rw [hq] at h; exact absurd h.symm hx
  | some u => rw [hq] at h; simpa using h

theorem op_move {o : Oper} {x : Operand} (ho : o.op = .move x ∨ o.op = .assign x) : OpOk P N o s H (aeval s x) H :=
  OpOk.pure fun ρ μ a w hs _ => ⟨a.eval x, by rcases ho with ho | ho <;> simp [execOp, ho], aeval_rel hs x⟩

def apick (c a b : AV) (H : Hp) : Out :=
  match c with
  | .bool c => match c with | true => .ok a H | false => .ok b H
  | _ => .stop
theorem op_pick {o : Oper} {c x y : Operand} (ho : o.op = .pick c x y) {r : AV} {H' : Hp} (h : (apick (aeval s c) (aeval s x) (aeval s y) H).is r H') : OpOk P N o s H r H' := by
  unfold apick at h
  split at h
  · rename_i b hb
    cases b
    · obtain ⟨rfl, rfl⟩ := h
      exact OpOk.pure fun ρ μ a w hs _ => ⟨a.eval y, by have := aeval_rel hs c; rw [hb] at this; simp [execOp, ho, this.bool_inv, asBool], aeval_rel hs y⟩
    · obtain ⟨rfl, rfl⟩ := h
      exact OpOk.pure fun ρ μ a w hs _ => ⟨a.eval x, by have := aeval_rel hs c; rw [hb] at this; simp [execOp, ho, this.bool_inv, asBool], aeval_rel hs x⟩
  · exact h.elim

def anilCheck (x : AV) (H : Hp) : Out :=
  match x with
  | .ptr o i f => .ok (.ptr o i f) H
  | .ref cs => .ok (.ref cs) H
  | .fn (.func f) a b => .ok (.fn (.func f) a b) H
  | _ => .stop
theorem op_nilCheck {o : Oper} {x : Operand} (ho : o.op = .nilCheck x) {r : AV} {H' : Hp} (h : (anilCheck (aeval s x) H).is r H') : OpOk P N o s H r H' := by
  unfold anilCheck at h
  split at h
  case h_4 => exact h.elim
  all_goals
    rename_i hx
    obtain ⟨rfl, rfl⟩ := h
    refine OpOk.pure fun ρ μ a w hs _ => ⟨a.eval x, ?_, by rw [← hx]; exact aeval_rel hs x⟩
    have h2 := aeval_rel hs x
    rw [hx] at h2
    generalize hv : a.eval x = v at h2 ⊢
    cases h2
    simp [execOp, ho, hv]

def afieldAddr (T : Tab) (H : Hp) (t j : Nat) (p : AV) : Out :=
  match tab T t with
  | some ⟨.struct _ fs, _, _, _⟩ => match lget fs j with
    | some (off, _, _) => match p with
      | .ptr o i b => .ok (.ptr o i (b + off)) H
      | .ref cs => .ok (.ref (cs.drop off)) H
      | _ => .stop
    | none => .stop
  | _ => .stop
theorem run_fieldAt (hT : TabOk P T) {t j : Nat} {q0 : Bool} {fs : List (Nat × Nat × FK)} {q1 q2 q3} (ht : tab T t = some ⟨.struct q0 fs, q1, q2, q3⟩) {p : Nat × Nat × FK} (hj : lget fs j = some p) (w : World) (b x : Nat) :
    (Instr.fieldAt t (.pointer (some ⟨b, x, none⟩)) j).run P w = .ok (.pointer (some ⟨b, x + p.1, none⟩)) w := by
  obtain ⟨fields, hu, _, _, hf⟩ := (hT _ _ ht).desc
  rw [lget_eq] at hj
  obtain ⟨f, h1, h2, h3, ⟨i, hi, hsz⟩, _⟩ := hf j p hj
  have : ¬ i.size = 0 := by omega
  simp [Instr.fieldAt, run_underlying hu, h1, Instr.sureAddr, fieldPlace, run_sizeOf' hi, this, add_at, h2]
theorem op_fieldAddr (hT : TabOk P T) {o : Oper} {t j : Nat} {x : Operand} (ho : o.op = .fieldAddr t x j) {r : AV} {H' : Hp} (h : (afieldAddr T H t j (aeval s x)).is r H') : OpOk P N o s H r H' := by
  unfold afieldAddr at h
  split at h
  · rename_i q0 fs q1 q2 q3 ht
    split at h
    · rename_i off q4 q5 hj
      split at h
      case h_3 => exact h.elim
      · rename_i ob i b hx
        obtain ⟨rfl, rfl⟩ := h
        refine OpOk.pure fun ρ μ a w hs _ => ?_
        have h2 := aeval_rel hs x
        rw [hx] at h2
        generalize hv : a.eval x = v at h2
        cases h2 with
        | ptr _ _ _ _ _ L hL =>
          refine ⟨_, by simp [execOp, ho, hv, run_fieldAt hT ht hj]; rfl, ?_⟩
          rw [Nat.add_assoc]
          exact .ptr _ _ _ _ _ L hL
      · rename_i cs hx
        obtain ⟨rfl, rfl⟩ := h
        refine OpOk.pure fun ρ μ a w hs _ => ?_
        have h2 := aeval_rel hs x
        rw [hx] at h2
        generalize hv : a.eval x = v at h2
        cases h2 with
        | ref _ _ _ b o ws hrel hmem =>
          refine ⟨_, by simp [execOp, ho, hv, run_fieldAt hT ht hj]; rfl, ?_⟩
          refine .ref _ _ _ _ _ (fun j => ws (off + j)) (fun j hj => ?_) (fun j hj => ?_)
          · have := hrel (off + j) (by simp at hj; omega)
            simpa [List.getD_eq_getElem?_getD, List.getElem?_drop] using this
          · have := hmem (off + j) (by simp at hj; omega)
            rwa [Nat.add_assoc]
    · exact h.elim
  · exact h.elim

def afield (T : Tab) (H : Hp) (t j : Nat) (p : AV) : Out :=
  match tab T t with
  | some ⟨.struct _ fs, _, _, _⟩ => match lget fs j with
    | some (off, sz, agg) => match p with
      | .agg cs => part agg.isAgg sz off cs fun v => .ok v H
      | _ => .stop
    | none => .stop
  | _ => .stop
theorem op_field (hT : TabOk P T) {o : Oper} {t j : Nat} {x : Operand} (ho : o.op = .field t x j) {r : AV} {H' : Hp} (h : (afield T H t j (aeval s x)).is r H') : OpOk P N o s H r H' := by
  unfold afield at h
  split at h
  · rename_i q0 fs q1 q2 q3 ht
    split at h
    · rename_i off sz agg hj
      split at h
      · rename_i cs hx
        obtain ⟨fields, hu, _, _, hf⟩ := (hT _ _ ht).desc
        rw [lget_eq] at hj
        obtain ⟨f, h1, h2, h3, ⟨i, hi, hsz⟩, d, hd, hda⟩ := hf j _ hj
        have run : ∀ (vs : Array Value) (w : World), (Instr.field t (.agg vs) j).run P w = (Go.part f.type vs off).run P w := by
          intro vs w
          simp only at h2
          simp [Instr.field, run_underlying hu, h1, asAgg, h2]
        rcases part_sound h with ⟨ha, hle, rfl, rfl⟩ | ⟨ha, hlt, rfl, rfl⟩
        · refine OpOk.pure fun ρ μ a w hs _ => ?_
          have h2 := aeval_rel hs x
          rw [hx] at h2
          generalize hv : a.eval x = v at h2
          cases h2 with
          | agg _ _ _ vs hl hr =>
            refine ⟨.agg (vs.extract off (off + sz)), ?_, .agg _ _ _ _ (by simp; omega) fun j hj => ?_⟩
            · have : i.size = sz := hsz
              have e : aggDesc d = true := by rw [← fk_agg, hda]; exact ha
              simp [execOp, ho, hv, run, Go.part, run_isAgg hd, e, run_sizeOf' hi, this]
            · have hj' : j < sz := by simp at hj; omega
              have := hr (off + j) (by omega)
              have hlt : off + j < vs.size := by omega
              have hmin : j < min (off + sz) vs.size - off := by omega
              rw [show ((cs.drop off).take sz).getD j .top = cs.getD (off + j) .top from by simp [List.getD_eq_getElem?_getD, List.getElem?_take, List.getElem?_drop, hj'],
                show (vs.extract off (off + sz)).getD j undef = vs.getD (off + j) undef from by simp [Array.getElem?_extract, hmin, hlt]]
              exact this
        · refine OpOk.pure fun ρ μ a w hs _ => ?_
          have h2 := aeval_rel hs x
          rw [hx] at h2
          generalize hv : a.eval x = v at h2
          cases h2 with
          | agg _ _ _ vs hl hr =>
            refine ⟨vs.getD off undef, ?_, hr off hlt⟩
            have e : aggDesc d = false := by rw [← fk_agg, hda]; exact ha
            have hlt' : off < vs.size := by omega
            simp [execOp, ho, hv, run, Go.part, run_isAgg hd, e, hlt']
      · exact h.elim
    · exact h.elim
  · exact h.elim

def aindexAddr (T : Tab) (O : Ops) (H : Hp) (t : Nat) (p ix : AV) : Out :=
  match tab T t, ix with
  | some ⟨.slice e, _, _, _⟩, .int _ i => match tab T e with
    | some te => match p with
      | .rows sz n f => match Nat.beq sz te.size with
        | true => .need (O.inb i n) (.ok (.ref (f (O.toN i))) H)
        | false => .stop
      | .sl o i0 n => match hget H o with
        | some ob => match Nat.beq ob.sz te.size with
          | true => .need (O.inb i n) (.ok (.ptr o (O.addN i0 (O.toN i)) 0) H)
          | false => .stop
        | none => .stop
      | _ => .stop
    | none => .stop
  | some ⟨.array n e, _, _, _⟩, .int _ i => match tab T e with
    | some te => match Nat.blt i.toNat n, decide (0 ≤ i) with
      | true, true => match p with
        | .ptr o x off => .ok (.ptr o x (off + i.toNat * te.size)) H
        | .ref cs => .ok (.ref (cs.drop (i.toNat * te.size))) H
        | _ => .stop
      | _, _ => .stop
    | none => .stop
  | _, _ => .stop
theorem Tok.slice {t e : Nat} {q1 q2 q3} (h : Tok P t ⟨.slice e, q1, q2, q3⟩) : P.underlying t = some (.slice e) := h.desc
theorem Tok.array {t n e : Nat} {q1 q2 q3} (h : Tok P t ⟨.array n e, q1, q2, q3⟩) : P.underlying t = some (.array n e) := h.desc
theorem op_indexAddr (hT : TabOk P T) {o : Oper} {t : Nat} {x y : Operand} (ho : o.op = .indexAddr t x y) {r : AV} {H' : Hp} (h : (aindexAddr T std H t (aeval s x) (aeval s y)).is r H') : OpOk P N o s H r H' := by
  unfold aindexAddr at h
  split at h
  case h_3 => exact h.elim
  · rename_i e q1 q2 q3 k i ht hy
    have hu := (hT _ _ ht).slice
    split at h
    case h_2 => exact h.elim
    rename_i te hte
    obtain ⟨ie, _, hie, hsz, _⟩ := (hT _ _ hte).info
    split at h
    case h_3 => exact h.elim
    · rename_i sz n f hx
      split at h
      case h_2 => exact h.elim
      rename_i hbeq
      have hszE := Nat.eq_of_beq_eq_true hbeq
      obtain ⟨⟨hi0, hi1⟩, rfl, rfl⟩ := h
      refine OpOk.pure fun ρ μ a w hs _ => ?_
      have h2 := aeval_rel hs x
      have h3 := aeval_rel hs y
      rw [hx] at h2
      rw [hy] at h3
      have hyv := h3.int_inv
      generalize hv : a.eval x = v at h2
      cases h2 with
      | rows _ _ _ _ ad c _ b o' ws hlen hsz0 hrel hmem hc hm =>
        have hin : i.toNat < n := by omega
        have had := (hmem i.toNat 0 hin hsz0).1
        subst had
        refine ⟨.pointer (some ⟨b, o' + i.toNat * sz, none⟩), ?_, ?_⟩
        · simp [execOp, ho, hv, hyv, Instr.indexAt, asIntOf, run_underlying hu, hi0, hi1, run_sizeOf' hie, hsz, ← hszE, add_at]
        · refine .ref _ _ _ _ _ (ws i.toNat) (fun j hj => hrel _ _ hin (by have h5 := hlen i.toNat hin; simp only [std] at hj; omega)) (fun j hj => ?_)
          exact (hmem i.toNat j hin (by have h5 := hlen i.toNat hin; simp only [std] at hj; omega)).2
    · rename_i o' i0 n hx
      split at h
      case h_2 => exact h.elim
      rename_i ob hob
      split at h
      case h_2 => exact h.elim
      rename_i hbeq
      have hszE := Nat.eq_of_beq_eq_true hbeq
      obtain ⟨⟨hi0, hi1⟩, rfl, rfl⟩ := h
      refine OpOk.pure fun ρ μ a w hs hrep => ?_
      have h2 := aeval_rel hs x
      have h3 := aeval_rel hs y
      rw [hx] at h2
      rw [hy] at h3
      have hyv := h3.int_inv
      generalize hv : a.eval x = v at h2
      cases h2 with
      | sl _ _ _ _ _ c xo L hL hc hn hxo =>
        obtain ⟨L', cs, hat⟩ := hrep.at_ (hget_some hob) hL
        obtain rfl : L' = L := Option.some.inj (hat.loc.symm.trans hL)
        have hxo' : xo = i0 * L'.sz := by rcases hxo with h | h; omega; exact h
        have hsL : te.size = L'.sz := by rw [← hszE]; exact hat.sz
        refine ⟨.pointer (some ⟨L'.b, (i0 + i.toNat) * L'.sz + 0, none⟩), ?_, .ptr _ _ _ _ _ L' hL⟩
        simp [execOp, ho, hv, hyv, Instr.indexAt, asIntOf, run_underlying hu, hi0, hi1, run_sizeOf' hie, hsz, hsL, add_at, hxo', Nat.add_mul]
      | slNil => omega
  · rename_i n e q1 q2 q3 k i ht hy
    have hu := (hT _ _ ht).array
    split at h
    case h_2 => exact h.elim
    rename_i te hte
    obtain ⟨ie, _, hie, hsz, _⟩ := (hT _ _ hte).info
    split at h
    case h_2 => exact h.elim
    rename_i hlt hge
    have hi1 : i.toNat < n := by simpa using hlt
    have hi0 : 0 ≤ i := of_decide_eq_true hge
    have hi2 : i < (n : Int) := by omega
    split at h
    case h_3 => exact h.elim
    · rename_i o' x' off hx
      obtain ⟨rfl, rfl⟩ := h
      refine OpOk.pure fun ρ μ a w hs hrep => ?_
      have h2 := aeval_rel hs x
      have h3 := aeval_rel hs y
      rw [hx] at h2
      rw [hy] at h3
      have hyv := h3.int_inv
      generalize hv : a.eval x = v at h2
      cases h2 with
      | ptr _ _ _ _ _ L hL =>
        refine ⟨_, ?_, .ptr _ _ _ _ _ L hL⟩
        simp [execOp, ho, hv, hyv, Instr.indexAt, asIntOf, run_underlying hu, Instr.sureAddr, hi0, hi2, run_sizeOf' hie, hsz, add_at, Nat.add_assoc]
    · rename_i cs hx
      obtain ⟨rfl, rfl⟩ := h
      refine OpOk.pure fun ρ μ a w hs hrep => ?_
      have h2 := aeval_rel hs x
      have h3 := aeval_rel hs y
      rw [hx] at h2
      rw [hy] at h3
      have hyv := h3.int_inv
      generalize hv : a.eval x = v at h2
      cases h2 with
      | ref _ _ _ b o' ws hrel hmem =>
        refine ⟨.pointer (some ⟨b, o' + i.toNat * te.size, none⟩), ?_, ?_⟩
        · simp [execOp, ho, hv, hyv, Instr.indexAt, asIntOf, run_underlying hu, Instr.sureAddr, hi0, hi2, run_sizeOf' hie, hsz, add_at]
        · refine .ref _ _ _ _ _ (fun j => ws (i.toNat * te.size + j)) (fun j hj => ?_) (fun j hj => ?_)
          · have := hrel (i.toNat * te.size + j) (by simp at hj; omega)
            simpa [List.getD_eq_getElem?_getD, List.getElem?_drop] using this
          · have := hmem (i.toNat * te.size + j) (by simp at hj; omega)
            rwa [Nat.add_assoc]

def aextract (H : Hp) (x : AV) (j : Nat) : Out :=
  match x with
  | .tup cs => match lget cs j with | some v => .ok v H | none => .stop
  | _ => .stop
theorem op_extract {o : Oper} {x : Operand} {j : Nat} (ho : o.op = .extract x j) {r : AV} {H' : Hp} (h : (aextract H (aeval s x) j).is r H') : OpOk P N o s H r H' := by
  unfold aextract at h
  split at h
  · rename_i cs hx
    rw [lget_eq] at h
    split at h
    · rename_i v hj
      obtain ⟨rfl, rfl⟩ := h
      refine OpOk.pure fun ρ μ a w hs _ => ?_
      have h2 := aeval_rel hs x
      rw [hx] at h2
      generalize hv : a.eval x = v' at h2
      cases h2 with
      | tup _ _ _ vs hl hr =>
        have hlt := (List.getElem?_eq_some_iff.1 hj).1
        have hr' := hr j hlt
        have hlt' : j < vs.size := by omega
        rw [List.getD_eq_getElem?_getD, hj] at hr'
        exact ⟨_, by simp [execOp, ho, hv, Instr.extract, hlt']; rfl, by simpa [hlt'] using hr'⟩
    · exact h.elim
  · exact h.elim

theorem amap_rel {ρ : Rho} {μ : Mu} {a : Act} (hs : RelS ρ μ N s a) (xs : List Operand) : ∀ j, j < (xs.map (aeval s)).length → RelV ρ μ ((xs.map (aeval s)).getD j .top) ((xs.map a.eval).toArray.getD j undef) := by
  intro j hj
  have hj' : j < xs.length := by simpa using hj
  have := aeval_rel hs xs[j]
  simpa [List.getD_eq_getElem?_getD, hj'] using this

theorem op_makeFunc {o : Oper} {fn : Fn} {xs ys : Array Operand} (ho : o.op = .makeFunc fn xs ys) : OpOk P N o s H (.fn fn (xs.toList.map (aeval s)) (ys.toList.map (aeval s))) H :=
  OpOk.pure fun ρ μ a w hs _ => ⟨.func fn (xs.map a.eval) (ys.map a.eval), by simp [execOp, ho, Instr.makeFunc], by
    have e : ∀ zs : Array Operand, zs.map a.eval = (zs.toList.map a.eval).toArray := fun zs => by cases zs; simp
    rw [e, e]
    exact .fn _ _ _ _ _ _ _ (by simp) (by simp) (amap_rel hs _) (amap_rel hs _)⟩

end
end Vx

namespace Vx
open Go

section
variable {P : Program} {T : Tab} {N : Nat} {s : Slots} {H : Hp}

def tdOf (T : Tab) (t : Nat) : Option TD := match tab T t with | some ti => some ti.d | none => none

def abinInt (O : Ops) (op : BinOp) (k : IntKind) (x y : Int) (H : Hp) : Out :=
  match op with
  | .add => .ok (.int k (O.add k x y)) H
  | .sub => .ok (.int k (O.sub k x y)) H
  | .mul => .ok (.int k (O.mul k x y)) H
  | .quo => .need (O.ne0 y) (.ok (.int k (O.quo k x y)) H)
  | .rem => .need (O.ne0 y) (.ok (.int k (O.rem x y)) H)
  | .and => .ok (.int k (O.band k x y)) H
  | .or => .ok (.int k (O.bor k x y)) H
  | .xor => .ok (.int k (O.bxor k x y)) H
  | .andNot => .ok (.int k (O.bandn k x y)) H
  | .eql => .ok (.bool (O.eq x y)) H
  | .neq => .ok (.bool (O.ne x y)) H
  | .lss => .ok (.bool (O.lt x y)) H
  | .leq => .ok (.bool (O.le x y)) H
  | .gtr => .ok (.bool (O.gt x y)) H
  | .geq => .ok (.bool (O.ge x y)) H
  | _ => .stop
def ikeq (a b : IntKind) : Bool :=
  match a, b with
  | .i8, .i8 | .i16, .i16 | .i32, .i32 | .i64, .i64 | .u8, .u8 | .u16, .u16 | .u32, .u32 | .u64, .u64 => true
  | _, _ => false
theorem ikeq_eq {a b : IntKind} (h : ikeq a b = true) : a = b := by cases a <;> cases b <;> first | rfl | cases h

/-- Two numbers against two. -/
def aeq2 (O : Ops) (xs ys : List AV) : Option Bool :=
  match xs, ys with
  | [.int k a, .int q b], [.int k' c, .int q' d] => match ikeq k k', ikeq q q' with | true, true => some (O.and (O.eq a c) (O.eq b d)) | _, _ => none
  | _, _ => none
/-- One field against another. -/
def aeq1 (O : Ops) : FK → AV → AV → Option Bool
  | .int, .int k a, .int k' b => match ikeq k k' with | true => some (O.eq a b) | false => none
  | .bool, .bool a, .bool b => some (O.beq a b)
  | .str, .str a, .str b => some (O.seq a b)
  | _, _, _ => none
def aeqs (O : Ops) : List (Nat × Nat × FK) → List AV → List AV → Option Bool
  | [], _, _ => some true
  | (off, _, k) :: fs, xs, ys => match Nat.blt off xs.length, Nat.blt off ys.length, aeq1 O k (xs.getD off .top) (ys.getD off .top) with
    | true, true, some b => match aeqs O fs xs ys with
      | some c => some (O.and b c)
      | none => none
    | _, _, _ => none
def abinAgg (T : Tab) (O : Ops) (H : Hp) (op : BinOp) (t : Nat) (xs ys : List AV) : Out :=
  match tdOf T t with
  | some (.array 2 e) =>
    match tab T e with
    | some ⟨.int _, 1, _, _⟩ =>
      match aeq2 O xs ys, op with
      | some r, .eql => .ok (.bool r) H
      | some r, .neq => .ok (.bool (O.not r)) H
      | _, _ => .stop
    | _ => .stop
  | some (.struct true fs) =>
    match aeqs O fs xs ys, op with
    | some r, .eql => .ok (.bool r) H
    | some r, .neq => .ok (.bool (O.not r)) H
    | _, _ => .stop
  | _ => .stop
def abinOp (T : Tab) (O : Ops) (H : Hp) (op : BinOp) (t : Nat) (x y : AV) : Out :=
  match x, y with
  | .int k a, .int k' b =>
    match op with
    | .shl => .need (O.ge0 b) (.ok (.int k (O.shl k a b)) H)
    | .shr => .need (O.ge0 b) (.ok (.int k (O.shr k a b)) H)
    | op => match ikeq k k' with | true => abinInt O op k a b H | false => .stop
  | .bool a, .bool b =>
    match tdOf T t, op with
    | some .bool, .eql => .ok (.bool (O.beq a b)) H
    | some .bool, .neq => .ok (.bool (O.bne a b)) H
    | _, _ => .stop
  | .str a, .str b =>
    match op with
    | .eql => .ok (.bool (O.seq a b)) H
    | .neq => .ok (.bool (O.sne a b)) H
    | .lss => .ok (.bool (O.slt a b)) H
    | .add => .need (O.sfit a b) (.ok (.str (O.scat a b)) H)
    | _ => .stop
  | .agg xs, .agg ys => abinAgg T O H op t xs ys
  | x, .nil q =>
    match tdOf T t, q, x, op with
    | some .ptr, .ptr, .nil .ptr, .eql => .ok (.bool true) H
    | some .ptr, .ptr, .nil .ptr, .neq => .ok (.bool false) H
    | some .ptr, .ptr, .ptr .., .eql => .ok (.bool false) H
    | some .ptr, .ptr, .ptr .., .neq => .ok (.bool true) H
    | some .ptr, .ptr, .ref .., .eql => .ok (.bool false) H
    | some .ptr, .ptr, .ref .., .neq => .ok (.bool true) H
    | some (.slice _), .slice, .nil .slice, .eql => .ok (.bool true) H
    | some (.slice _), .slice, .nil .slice, .neq => .ok (.bool false) H
    | some .func, .func, .fn .., .eql => .ok (.bool false) H
    | some .func, .func, .fn .., .neq => .ok (.bool true) H
    | some .iface, .iface, .ifc .., .eql => .ok (.bool false) H
    | some .iface, .iface, .ifc .., .neq => .ok (.bool true) H
    | _, _, _, _ => .stop
  | _, _ => .stop

theorem run_binInt {t : Nat} {op : BinOp} {k : IntKind} {x y : Int} {r : AV} {H' : Hp} (h : (abinInt std op k x y H).is r H') (w : World) : H' = H ∧ ∃ v, RelV rho0 mu0 r v ∧ (binOp op t (.int k x) (.int k y)).run P w = .ok v w := by
  cases op <;> simp only [abinInt, Out.is, Out.sat] at h <;> try (exact h.elim)
  case quo => obtain ⟨hn, rfl, rfl⟩ := h; exact ⟨rfl, _, .int .., by simp only [std] at hn; simp [binOp, Op.intDiv, hn, std]⟩
  case rem => obtain ⟨hn, rfl, rfl⟩ := h; exact ⟨rfl, _, .int .., by simp only [std] at hn; simp [binOp, Op.intDiv, hn, std]⟩
  all_goals
    obtain ⟨rfl, rfl⟩ := h
    refine ⟨rfl, _, (by first | exact .int .. | exact .bool ..), ?_⟩
    first
    | (simp [binOp, Op.intArith, std]; done)
    | (simp [binOp, Op.intCmp, std]; done)
    | (simp [binOp, std]; rfl)

theorem eqGuard_plain {op : BinOp} {t : Nat} {x y : Operand} {a b : Value} (h : ∀ z, a ≠ .agg z) (h' : a ≠ .nilIface) (w : World) : (eqGuard op t x y a b).run P w = .ok () w := by
  cases a <;> first | exact absurd rfl h' | exact absurd rfl (h _) | (simp only [eqGuard]; cases op <;> rfl)

theorem Tok.td {t : Nat} {d : TD} (hT : TabOk P T) (h : tdOf T t = some d) : DescOk P t d := by
  unfold tdOf at h
  split at h
  · rename_i ti hti
    injection h with h
    subst h
    exact (hT _ _ hti).desc
  · cases h

theorem run_equal_bool {t : Nat} (hu : P.underlying t = some .bool) (p q : Bool) (w : World) : (Op.equal t (.bool p) (.bool q)).run P w = .ok (p == q) w := by
  have : ∀ d, (Op.equalIn (d + 1) t (.bool p) (.bool q)).run P w = .ok (p == q) w := fun d => by simp [Op.equalIn, run_underlying hu]
  exact this 9999
theorem run_equal_ptrNil {t e : Nat} (hu : P.underlying t = some (.pointer e)) (p : Option Addr) (w : World) : (Op.equal t (.pointer p) (.pointer none)).run P w = .ok p.isNone w := by
  have : ∀ d, (Op.equalIn (d + 1) t (.pointer p) (.pointer none)).run P w = .ok p.isNone w := fun d => by cases p <;> simp [Op.equalIn, run_underlying hu]
  exact this 9999
theorem run_equal_sliceNil {t e : Nat} (hu : P.underlying t = some (.slice e)) (p : Option Addr) (a b : Nat) (w : World) : (Op.equal t (.slice p a b) (.slice none 0 0)).run P w = .ok p.isNone w := by
  have : ∀ d, (Op.equalIn (d + 1) t (.slice p a b) (.slice none 0 0)).run P w = .ok p.isNone w := fun d => by cases p <;> simp [Op.equalIn, run_underlying hu]
  exact this 9999
theorem run_equal_ifcNil {t : Nat} {ms} (hu : P.underlying t = some (.interface ms)) (q : Nat) (v : Value) (w : World) : (Op.equal t (.iface q v) .nilIface).run P w = .ok false w := by
  have : ∀ d, (Op.equalIn (d + 1) t (.iface q v) .nilIface).run P w = .ok false w := fun d => by simp [Op.equalIn, run_underlying hu]
  exact this 9999
theorem run_equal_funcNil {t : Nat} {x y z} (hu : P.underlying t = some (.func x y z)) (f : Fn) (a b : Array Value) (w : World) : (Op.equal t (.func f a b) .nilFunc).run P w = .ok false w := by
  have : ∀ d, (Op.equalIn (d + 1) t (.func f a b) .nilFunc).run P w = .ok false w := fun d => by simp [Op.equalIn, run_underlying hu]
  exact this 9999

theorem rel_two {ρ : Rho} {μ : Mu} {k q : IntKind} {a b : Int} {v : Value} (h : RelV ρ μ (.agg [.int k a, .int q b]) v) : v = .agg #[.int k a, .int q b] := by
  cases h with
  | agg _ _ _ vs hl h =>
    have h0 := (h 0 (by simp)).int_inv
    have h1 := (h 1 (by simp)).int_inv
    simp only [List.length_cons, List.length_nil] at hl
    congr 1
    apply Array.ext (by simp [hl])
    intro i hi _
    rw [Array.getD_eq_getD_getElem?, Array.getElem?_eq_getElem (by omega)] at h0 h1
    simp only [Option.getD_some] at h0 h1
    match i, hi with
    | 0, _ => exact h0
    | 1, _ => exact h1
    | i + 2, hi => omega
theorem run_eq2 {t e : Nat} {k0 : IntKind} {i : TypeInfo} (hu : P.underlying t = some (.array 2 e)) (he : P.underlying e = some (.int k0)) (hi : P.info? e = some i) (h1 : i.size = 1) {k q : IntKind} {a b c d : Int} {x y : Operand} {op : BinOp} (w : World) :
    (Op.equal t (.agg #[.int k a, .int q b]) (.agg #[.int k c, .int q d])).run P w = .ok (a == c && b == d) w ∧ (eqGuard op t x y (.agg #[.int k a, .int q b]) (.agg #[.int k c, .int q d])).run P w = .ok () w := by
  have hp : ∀ (z z' : Value) (w : World), (Go.part e #[z, z'] 0).run P w = .ok z w ∧ (Go.part e #[z, z'] 1).run P w = .ok z' w := fun z z' w => by
    constructor <;> simp [Go.part, run_isAgg he, aggDesc]
  have e1 : ∀ d0 k a c w, (Op.equalIn (d0 + 1) e (.int k a) (.int k c)).run P w = .ok (a == c) w := fun d0 k a c w => by simp [Op.equalIn, run_underlying he]
  have e2 : ∀ d0 k a c w, (Op.eqGuardIn (d0 + 1) e (.int k a) (.int k c)).run P w = .ok false w := fun d0 k a c w => by simp [Op.eqGuardIn, run_underlying he]
  constructor
  · have : ∀ d0, (Op.equalIn (d0 + 1 + 1) t (.agg #[.int k a, .int q b]) (.agg #[.int k c, .int q d])).run P w = .ok (a == c && b == d) w := fun d0 => by
      rw [Op.equalIn]
      simp only [Sem.run_bind, run_underlying hu, Result.andThen_ok, run_sizeOf' hi, h1]
      by_cases h1 : a = c <;> by_cases h2 : b = d <;> simp [List.range', hp, e1, h1, h2]
    exact this 9998
  · cases op <;> simp only [eqGuard] <;> try rfl
    all_goals
      have hG : (Op.eqGuardIn Op.maxDepth t (.agg #[.int k a, .int q b]) (.agg #[.int k c, .int q d])).run P w = .ok false w := by
        have : ∀ d0, (Op.eqGuardIn (d0 + 1 + 1) t (.agg #[.int k a, .int q b]) (.agg #[.int k c, .int q d])).run P w = .ok false w := fun d0 => by
          rw [Op.eqGuardIn]
          simp only [Sem.run_bind, run_underlying hu, Result.andThen_ok, run_sizeOf' hi, h1]
          simp [List.range', hp, e2]
        exact this 9998
      by_cases hg : P.eqGuardType P.depth t <;> simp [hG, hg]
theorem fk_desc {d : TypeDesc} {k : FK} (h : fkOf d = k) : (k = .int → ∃ q, d = .int q) ∧ (k = .bool → d = .bool) ∧ (k = .str → d = .string) := by
  subst h
  cases d <;> simp [fkOf]
theorem str_beq (a b : ByteArray) : (a == b) = (a.toList == b.toList) := by
  have h1 : ∀ x y : Array UInt8, ((⟨x⟩ : ByteArray) == ⟨y⟩) = (x == y) := fun x y => rfl
  obtain ⟨x⟩ := a
  obtain ⟨y⟩ := b
  rw [h1, ByteArray.toList_eq, ByteArray.toList_eq, Bool.eq_iff_iff]
  simp
theorem run_eq1 {f : Field} {p : Nat × Nat × FK} (hf : FieldOk P f p) {x y : AV} {b : Bool} (h : aeq1 std p.2.2 x y = some b) {ρ : Rho} {μ : Mu} {u v : Value} (hu : RelV ρ μ x u) (hv : RelV ρ μ y v) (d : Nat) (w : World) :
    (Op.equalIn (d + 1) f.type u v).run P w = .ok b w ∧ (Op.eqGuardIn (d + 1) f.type u v).run P w = .ok false w ∧ ∃ e, P.underlying f.type = some e ∧ aggDesc e = false := by
  obtain ⟨_, _, _, e, he, hk⟩ := hf
  obtain ⟨h1, h2, h3⟩ := fk_desc hk
  unfold aeq1 at h
  split at h
  · rename_i hk'
    obtain ⟨q, rfl⟩ := h1 hk'
    split at h
    · rename_i hkk
      have := ikeq_eq hkk
      subst this
      injection h with h
      subst h
      rw [hu.int_inv, hv.int_inv]
      exact ⟨by simp [Op.equalIn, run_underlying he, std], by simp [Op.eqGuardIn, run_underlying he], _, he, rfl⟩
    · cases h
  · rename_i hk'
    have e1 := h2 hk'
    subst e1
    injection h with h
    subst h
    rw [hu.bool_inv, hv.bool_inv]
    exact ⟨by simp [Op.equalIn, run_underlying he, std], by simp [Op.eqGuardIn, run_underlying he], _, he, rfl⟩
  · rename_i hk'
    have e1 := h3 hk'
    subst e1
    injection h with h
    subst h
    rw [hu.str_inv, hv.str_inv]
    exact ⟨by simp [Op.equalIn, run_underlying he, std, str_beq], by simp [Op.eqGuardIn, run_underlying he], _, he, rfl⟩
  · cases h
theorem run_part1 {f : Field} {e : TypeDesc} (he : P.underlying f.type = some e) (ha : aggDesc e = false) (xs : Array Value) (h : f.offset < xs.size) (w : World) : (Go.part f.type xs f.offset).run P w = .ok (xs.getD f.offset undef) w := by
  simp [Go.part, run_isAgg he, ha, h]
theorem run_eqL {ρ : Rho} {μ : Mu} {xs ys : List AV} {us vs : Array Value} (l1 : us.size = xs.length) (l2 : vs.size = ys.length) (h1 : ∀ j, j < xs.length → RelV ρ μ (xs.getD j .top) (us.getD j undef)) (h2 : ∀ j, j < ys.length → RelV ρ μ (ys.getD j .top) (vs.getD j undef)) (d : Nat) (w : World) :
    ∀ (fl : List Field) (fs : List (Nat × Nat × FK)) (b : Bool), (∀ f ∈ fl, (f.name == "_") = false) → fl.length = fs.length → (∀ (j : Nat) (p : Nat × Nat × FK), fs[j]? = some p → ∃ f, fl[j]? = some f ∧ FieldOk P f p) → aeqs std fs xs ys = some b →
    Sem.run P (forIn fl ((none : Option Bool), ()) fun f __s =>
              if f.name ≠ "_" then do
                let __do_lift ← Go.part f.type us f.offset
                let __do_lift_1 ← Go.part f.type vs f.offset
                let __do_lift ← Op.equalIn (d + 1) f.type __do_lift __do_lift_1
                if (!__do_lift) = true then pure (ForInStep.done (some false, ()))
                  else pure (ForInStep.yield (none, ()))
              else pure (ForInStep.yield (none, ()))) w = .ok (match b with | true => (none, ()) | false => (some false, ())) w ∧
    Sem.run P (forIn fl ((none : Option Bool), ()) fun f __s =>
              if f.name ≠ "_" then do
                let __do_lift ← Go.part f.type us f.offset
                let __do_lift_1 ← Go.part f.type vs f.offset
                let __do_lift ← Op.eqGuardIn (d + 1) f.type __do_lift __do_lift_1
                if __do_lift = true then pure (ForInStep.done (some true, ()))
                  else pure (ForInStep.yield (none, ()))
              else pure (ForInStep.yield (none, ()))) w = .ok (none, ()) w
  | [], fs, b, _, hl, _, h => by
    have : fs = [] := List.eq_nil_of_length_eq_zero (by simpa using hl.symm)
    subst this
    simp only [aeqs, Option.some.injEq] at h
    subst h
    exact ⟨rfl, rfl⟩
  | f :: fl, fs, b, hn, hl, hf, h => by
    match fs, hl, hf, h with
    | (off, sz, k) :: fs, hl, hf, h =>
      obtain ⟨f', e1, hok⟩ := hf 0 _ rfl
      simp only [List.getElem?_cons_zero, Option.some.injEq] at e1
      subst e1
      have hoff : f.offset = off := hok.1
      unfold aeqs at h
      split at h
      · rename_i b1 q1 q2 q3
        have o1 : off < xs.length := by simpa using q1
        have o2 : off < ys.length := by simpa using q2
        split at h
        · rename_i c hc
          injection h with h
          subst h
          obtain ⟨z1, z2, e, ze, za⟩ := run_eq1 hok q3 (h1 off o1) (h2 off o2) d w
          have p1 := run_part1 ze za us (by omega) w
          have p2 := run_part1 ze za vs (by omega) w
          rw [hoff] at p1 p2
          obtain ⟨i1, i2⟩ := run_eqL l1 l2 h1 h2 d w fl fs c (fun f hf => hn f (List.mem_cons_of_mem _ hf)) (by simpa using hl) (fun j p hp => by simpa using hf (j + 1) p (by simpa using hp)) hc
          have hname : f.name ≠ "_" := by have := hn f (List.mem_cons_self ..); simpa using this
          constructor
          · rw [List.forIn_cons]
            simp only [hname, ne_eq, not_false_eq_true, if_true, hoff, Sem.run_bind, p1, p2, Result.andThen_ok, z1]
            cases b1
            · simp [std]
            · simpa [std] using i1
          · rw [List.forIn_cons]
            simp only [hname, ne_eq, not_false_eq_true, if_true, hoff, Sem.run_bind, p1, p2, Result.andThen_ok, z2]
            simpa using i2
        · cases h
      · cases h
theorem run_eqS {t : Nat} {fields : Array Field} (hu : P.underlying t = some (.struct fields)) (hs : P.stoodInHeld t = false) (hn : ∀ f ∈ fields.toList, (f.name == "_") = false) {fs : List (Nat × Nat × FK)} (hl : fields.size = fs.length) (hf : ∀ (j : Nat) (p : Nat × Nat × FK), fs[j]? = some p → ∃ f, fields[j]? = some f ∧ FieldOk P f p)
    {ρ : Rho} {μ : Mu} {xs ys : List AV} {us vs : Array Value} (h1 : RelV ρ μ (.agg xs) (.agg us)) (h2 : RelV ρ μ (.agg ys) (.agg vs)) {b : Bool} (h : aeqs std fs xs ys = some b) (d : Nat) (w : World) :
    (Op.equalIn (d + 1 + 1) t (.agg us) (.agg vs)).run P w = .ok b w ∧ (Op.eqGuardIn (d + 1 + 1) t (.agg us) (.agg vs)).run P w = .ok false w := by
  constructor
  · rw [Op.equalIn]
    simp only [Sem.run_bind, run_underlying hu, Result.andThen_ok]
    have e0 : (Sem.run P program w) = .ok P w := rfl
    simp only [e0, Result.andThen_ok, hs, Bool.false_eq_true, if_false]
    rw [← Array.forIn_toList]
    cases h1 with
    | agg _ _ _ _ l1 r1 =>
    cases h2 with
    | agg _ _ _ _ l2 r2 =>
    obtain ⟨i1, _⟩ := run_eqL (P := P) l1 l2 r1 r2 d w fields.toList fs b hn (by simpa using hl) (fun j p hp => by simpa using hf j p hp) h
    rw [Sem.run_bind, i1]
    cases b <;> rfl
  · rw [Op.eqGuardIn]
    simp only [Sem.run_bind, run_underlying hu, Result.andThen_ok]
    rw [← Array.forIn_toList]
    cases h1 with
    | agg _ _ _ _ l1 r1 =>
    cases h2 with
    | agg _ _ _ _ l2 r2 =>
    obtain ⟨_, i2⟩ := run_eqL (P := P) l1 l2 r1 r2 d w fields.toList fs b hn (by simpa using hl) (fun j p hp => by simpa using hf j p hp) h
    rw [i2]
    rfl
theorem run_eqG {t : Nat} {us vs : Array Value} (h : ∀ d w, (Op.eqGuardIn (d + 1 + 1) t (.agg us) (.agg vs)).run P w = .ok false w) (op : BinOp) (x y : Operand) (w : World) : (eqGuard op t x y (.agg us) (.agg vs)).run P w = .ok () w := by
  have hG : (Op.eqGuardIn Op.maxDepth t (.agg us) (.agg vs)).run P w = .ok false w := h 9998 w
  cases op <;> simp only [eqGuard] <;> try rfl
  all_goals
    by_cases hg : P.eqGuardType P.depth t <;> simp [hG, hg]
theorem op_binOp (hT : TabOk P T) {o : Oper} {op : BinOp} {t t' : Nat} {x y : Operand} (ho : o.op = .binOp op t x y t') {r : AV} {H' : Hp} (h : (abinOp T std H op t (aeval s x) (aeval s y)).is r H') : OpOk P N o s H r H' := by
  have key : ∀ ρ μ a w, RelS ρ μ N s a → Rep ρ μ H w → H' = H ∧ ∃ v, RelV ρ μ r v ∧ (binOp op t (a.eval x) (a.eval y)).run P w = .ok v w ∧ (eqGuard op t x y (a.eval x) (a.eval y)).run P w = .ok () w := by
    intro ρ μ a w hs _
    have h2 := aeval_rel hs x
    have h3 := aeval_rel hs y
    unfold abinOp at h
    split at h
    · rename_i k p k' q hx hy
      rw [hx] at h2
      rw [hy] at h3
      rw [h2.int_inv, h3.int_inv]
      have hg : (eqGuard op t x y (.int k p) (.int k' q)).run P w = .ok () w := eqGuard_plain (fun _ => by simp) (by simp) w
      split at h
      · obtain ⟨hn, rfl, rfl⟩ := h
        refine ⟨rfl, _, .int .., ?_, hg⟩
        have : ¬ q < 0 := by simp only [std] at hn; omega
        simp [binOp, Op.shift, this, std]
      · obtain ⟨hn, rfl, rfl⟩ := h
        refine ⟨rfl, _, .int .., ?_, hg⟩
        have : ¬ q < 0 := by simp only [std] at hn; omega
        simp [binOp, Op.shift, this, std]
      · split at h
        · rename_i hk
          have := ikeq_eq hk
          subst this
          obtain ⟨rfl, v, hv, hrun⟩ := run_binInt (P := P) (t := t) h w
          exact ⟨rfl, v, hv.mono (rho0_le _) (mu0_le _), hrun, hg⟩
        · exact h.elim
    · rename_i p q hx hy
      rw [hx] at h2
      rw [hy] at h3
      rw [h2.bool_inv, h3.bool_inv]
      have hg : (eqGuard op t x y (.bool p) (.bool q)).run P w = .ok () w := eqGuard_plain (fun _ => by simp) (by simp) w
      split at h
      · rename_i hd
        have hu : P.underlying t = some .bool := Tok.td hT hd
        obtain ⟨rfl, rfl⟩ := h
        exact ⟨rfl, _, .bool .., by simp [binOp, run_equal_bool hu, std], hg⟩
      · rename_i hd
        have hu : P.underlying t = some .bool := Tok.td hT hd
        obtain ⟨rfl, rfl⟩ := h
        exact ⟨rfl, _, .bool .., by simp [binOp, run_equal_bool hu, std]; cases p <;> cases q <;> rfl, hg⟩
      · exact h.elim
    · rename_i p q hx hy
      rw [hx] at h2
      rw [hy] at h3
      rw [h2.str_inv, h3.str_inv]
      have hg : (eqGuard op t x y (.string p) (.string q)).run P w = .ok () w := eqGuard_plain (fun _ => by simp) (by simp) w
      split at h
      · obtain ⟨rfl, rfl⟩ := h
        exact ⟨rfl, _, .bool .., by simp [binOp, Op.stringOp, std], hg⟩
      · obtain ⟨rfl, rfl⟩ := h
        exact ⟨rfl, _, .bool .., by simp [binOp, Op.stringOp, std], hg⟩
      · obtain ⟨rfl, rfl⟩ := h
        exact ⟨rfl, _, .bool .., by simp [binOp, Op.stringOp, std], hg⟩
      · obtain ⟨hn, rfl, rfl⟩ := h
        refine ⟨rfl, _, .str .., ?_, hg⟩
        have h1 : ¬ (IntKind.i64.max < ((p.size + q.size : Nat) : Int)) := by
          simp only [std] at hn
          have : IntKind.i64.max = 9223372036854775807 := by decide
          omega
        simp only [binOp, Op.stringOp]
        rw [if_neg (by simpa using h1)]
        rfl
      · exact h.elim
    · rename_i xs ys hx hy
      rw [hx] at h2
      rw [hy] at h3
      unfold abinAgg at h
      split at h
      · rename_i e hd
        have hu : P.underlying t = some (.array 2 e) := Tok.td hT hd
        split at h
        · rename_i k0 _ _ hte
          have tk := hT _ _ hte
          obtain ⟨i, _, hi, hs1, _⟩ := tk.info
          have he : P.underlying e = some (.int k0) := tk.desc
          unfold aeq2 at h
          split at h
          · rename_i r op' hr
            obtain ⟨rfl, rfl⟩ := h
            split at hr
            · rename_i k a q b k' c q' d
              split at hr
              · rename_i hk hq
                have := ikeq_eq hk
                have := ikeq_eq hq
                subst k' q'
                injection hr with hr
                subst hr
                rw [rel_two h2, rel_two h3]
                obtain ⟨z1, z2⟩ := run_eq2 (P := P) hu he hi hs1 (k := k) (q := q) (a := a) (b := b) (c := c) (d := d) (x := x) (y := y) (op := .eql) w
                exact ⟨rfl, _, .bool .., by simp [binOp, z1, std], z2⟩
              · cases hr
            · cases hr
          · rename_i r op' hr
            obtain ⟨rfl, rfl⟩ := h
            split at hr
            · rename_i k a q b k' c q' d
              split at hr
              · rename_i hk hq
                have := ikeq_eq hk
                have := ikeq_eq hq
                subst k' q'
                injection hr with hr
                subst hr
                rw [rel_two h2, rel_two h3]
                obtain ⟨z1, z2⟩ := run_eq2 (P := P) hu he hi hs1 (k := k) (q := q) (a := a) (b := b) (c := c) (d := d) (x := x) (y := y) (op := .neq) w
                exact ⟨rfl, _, .bool .., by simp [binOp, z1, std], z2⟩
              · cases hr
            · cases hr
          · exact h.elim
        · exact h.elim
      · rename_i fs hd
        obtain ⟨fields, hu, he, hl, hf⟩ := Tok.td hT hd
        obtain ⟨hs0, hn⟩ := he rfl
        generalize hu2 : a.eval x = u2 at h2 ⊢
        generalize hv2 : a.eval y = v2 at h3 ⊢
        have shape : ∃ us vs, u2 = .agg us ∧ v2 = .agg vs := by cases h2; cases h3; exact ⟨_, _, rfl, rfl⟩
        obtain ⟨us, vs, rfl, rfl⟩ := shape
        split at h
        · rename_i op' r hr
          obtain ⟨rfl, rfl⟩ := h
          have k1 := fun d w => run_eqS (P := P) hu hs0 hn hl hf h2 h3 hr d w
          have z1 : (Op.equal t (.agg us) (.agg vs)).run P w = .ok r w := (k1 9998 w).1
          exact ⟨rfl, _, .bool .., by simp [binOp, z1], run_eqG (fun d w => (k1 d w).2) _ _ _ _⟩
        · rename_i op' r hr
          obtain ⟨rfl, rfl⟩ := h
          have k1 := fun d w => run_eqS (P := P) hu hs0 hn hl hf h2 h3 hr d w
          have z1 : (Op.equal t (.agg us) (.agg vs)).run P w = .ok r w := (k1 9998 w).1
          exact ⟨rfl, _, .bool .., by simp [binOp, z1, std], run_eqG (fun d w => (k1 d w).2) _ _ _ _⟩
        · exact h.elim
      · exact h.elim
    · rename_i q _ _ _ hy
      rw [hy] at h3
      split at h
      all_goals try (exact h.elim)
      all_goals
        rename_i hd hx
        rw [hx] at h2
        obtain ⟨rfl, rfl⟩ := h
        have hu := Tok.td hT hd
        simp only [DescOk] at hu
        generalize hv : a.eval x = v at h2
        generalize hv' : a.eval y = v' at h3
        cases h2 <;> cases h3 <;> refine ⟨rfl, _, .bool .., ?_, eqGuard_plain (fun _ => by simp) (by simp) w⟩
        first
        | (obtain ⟨e, hu⟩ := hu; simp [binOp, run_equal_ptrNil hu])
        | (obtain ⟨e, f, g, hu⟩ := hu; simp [binOp, run_equal_funcNil hu])
        | (obtain ⟨e, hu⟩ := hu; simp [binOp, run_equal_ifcNil hu])
        | simp [binOp, run_equal_sliceNil hu]
    · exact h.elim
  intro C ρ μ a w hs hst
  obtain ⟨rfl, v, hv, hrun, hg⟩ := key ρ μ a w hs hst.rep
  exact ⟨v, w, ρ, μ, .inl (by simp [execOp, ho, hg, hrun]), hv, RhoLe.refl _, MuLe.refl _, hst⟩

def aunOp (O : Ops) (H : Hp) (op : UnOp) (x : AV) : Out :=
  match op, x with
  | .not, .bool b => .ok (.bool (!b)) H
  | .neg, .int k n => .ok (.int k (O.sub k 0 n)) H
  | _, _ => .stop
theorem op_unOp {o : Oper} {op : UnOp} {t : Nat} {x : Operand} (ho : o.op = .unOp op t x) {r : AV} {H' : Hp} (h : (aunOp std H op (aeval s x)).is r H') : OpOk P N o s H r H' := by
  unfold aunOp at h
  split at h
  · rename_i b hx
    obtain ⟨rfl, rfl⟩ := h
    exact OpOk.pure fun ρ μ a w hs _ => ⟨_, by have h2 := aeval_rel hs x; rw [hx] at h2; simp [execOp, ho, h2.bool_inv, Op.unary], .bool ..⟩
  · rename_i k n hx
    obtain ⟨rfl, rfl⟩ := h
    exact OpOk.pure fun ρ μ a w hs _ => ⟨_, by have h2 := aeval_rel hs x; rw [hx] at h2; simp [execOp, ho, h2.int_inv, Op.unary, Op.intArith]; rfl, by simp only [std, Int.zero_sub]; exact RelV.int ..⟩
  · exact h.elim

theorem St.allocRaw {C : Ctx} {ρ : Rho} {μ : Mu} {w : World} (h : St C ρ μ H w) (o : Obj) : St C ρ μ H (w.alloc o) := by
  have hlt : ∀ {o : Nat} {L : Loc}, Live H o → ρ o = some L → L.b < w.heap.size := fun hl hL => h.rep.blk hl hL
  refine ⟨⟨h.rep.dom, fun o ob ho => ?_, h.rep.distinct, fun b x v hb => ⟨cell_alloc (h.rep.mem b x v hb).1, (h.rep.mem b x v hb).2⟩, h.rep.sep⟩, ⟨h.keep.hl, h.keep.rho, h.keep.mu, ?_, h.keep.os, h.keep.tape, h.keep.output, fun b hb => ?_, h.keep.own, h.keep.muo⟩⟩
  · rcases h.rep.obj o ob ho with ⟨L, cs, hat⟩ | h1
    · exact .inl ⟨L, cs, hat.cont (RhoLe.refl _) (MuLe.refl _) (heap_alloc_old w _ (hlt ⟨ob, ho⟩ hat.loc))⟩
    · exact .inr h1
  · have := h.keep.size; simp; omega
  · have hb' : b < C.w0.heap.size := by
      rcases Nat.lt_or_ge b C.w0.heap.size with h1 | h1
      · exact h1
      · exact absurd (Or.inl h1) hb
    have := h.keep.size
    rw [heap_alloc_old w _ (by omega)]
    exact h.keep.block b hb

theorem one_of' {cells : Array Value} (h : ∀ v ∈ cells.toList, v.oneCell' = true) : ∀ j, j < cells.size → (cells.getD j undef).oneCell' = true := fun j hj => by
  simp only [Array.getD_eq_getD_getElem?, Array.getElem?_eq_getElem hj, Option.getD_some]
  exact h _ (by simp)
def nrw (μ : Mu) (w : World) (cs : Array Value) : Mu := fun b x => if b = w.heap.size ∧ x < cs.size then cs[x]? else μ b x
theorem St.newRow {C : Ctx} {ρ : Rho} {μ : Mu} {w : World} (h : St C ρ μ H w) (cs : Array Value) (e : Nat) (fr : Nat × Nat) (hone : ∀ j, j < cs.size → (cs.getD j undef).oneCell' = true) :
    St C ρ (nrw μ w cs) H (w.drew.alloc (.cells cs e fr)) ∧ MuLe μ (nrw μ w cs) := by
  have hlt : ∀ b x v, μ b x = some v → b < w.heap.size := fun b x v hb => cell_lt (h.rep.mem b x v hb).1
  have hle : MuLe μ (nrw μ w cs) := by
    intro b x v hm
    have hne : b ≠ w.heap.size := by have := hlt b x v hm; omega
    simp [nrw, hne, hm]
  have hr := h.drew.allocRaw (.cells cs e fr)
  refine ⟨⟨⟨hr.rep.dom, fun o ob ho => ?_, hr.rep.distinct, fun b x v hm => ?_, fun o L x ho hL => ?_⟩, ⟨hr.keep.hl, hr.keep.rho, hr.keep.mu.trans hle, hr.keep.size, hr.keep.os, hr.keep.tape, hr.keep.output, hr.keep.block, hr.keep.own, fun b x hb => ?_⟩⟩, hle⟩
  · rcases hr.rep.obj o ob ho with ⟨L, ds, hat⟩ | h1
    · exact .inl ⟨L, ds, hat.cont (RhoLe.refl _) hle rfl⟩
    · exact .inr h1
  · simp only [nrw] at hm
    split at hm
    · rename_i hc
      obtain ⟨rfl, hx⟩ := hc
      have h1 := hone x hx
      rw [Array.getD_eq_getD_getElem?, hm] at h1
      refine ⟨?_, h1⟩
      rw [← hm]
      exact World.cell?_alloc_mark w.drew cs e fr x
    · exact hr.rep.mem b x v hm
  · have hb : L.b < w.heap.size := h.rep.blk ho hL
    have hne : L.b ≠ w.heap.size := by omega
    simp only [nrw]
    rw [if_neg (fun hc => hne hc.1)]
    exact h.rep.sep o L x ho hL
  · have hne : b ≠ w.heap.size := fun e => hb (.inl (by subst e; exact h.keep.size))
    simp only [nrw]
    rw [if_neg (fun hc => hne hc.1)]
    exact h.keep.muo b x hb
def u8? : TD → Bool
  | .int .u8 => true
  | _ => false
def aconvert (T : Tab) (O : Ops) (H : Hp) (src dst : Nat) (x : AV) : Out :=
  match tdOf T src, tdOf T dst, x with
  | some (.int _), some (.int k), .int _ n => .ok (.int k (O.conv k n)) H
  | some .str, some .str, .str b => .ok (.str b) H
  | some .str, some (.slice e), .str b => match tdOf T e with
    | some (.int .u8) => .need (O.leN (O.ssz b) maxLen) (.ok (.rows 1 (O.ssz b) (O.bcol b)) H)
    | _ => .stop
  | some (.slice e), some .str, .rows 1 n f => match tdOf T e with
    | some (.int .u8) => .need (O.isB n f) (.ok (.str (O.bstr n f)) H)
    | _ => .stop
  | some (.slice e), some .str, .nil .slice => match tdOf T e with
    | some (.int .u8) => .ok (.str ByteArray.empty) H
    | _ => .stop
  | _, _, _ => .stop
theorem bytes_rel {ρ : Rho} {μ : Mu} {w : World} (b : ByteArray) (c : Nat) (hc : b.size ≤ c) (hm : c ≤ maxLen) : RelV ρ (nrw μ w (bytesRow b c)) (.rows 1 b.size (bcolF b)) (.slice (some ⟨w.heap.size, 0, none⟩) b.size c) := by
  refine .rows _ _ _ _ _ _ 1 w.heap.size 0 (fun i _ => .int .u8 ((b[i]?.map (fun b => (b.toNat : Int))).getD 0)) (fun i _ => rfl) (by decide) (fun i j _ hj => ?_) (fun i j hi hj => ⟨rfl, ?_⟩) hc hm
  · obtain rfl : j = 0 := by omega
    exact .int ..
  · obtain rfl : j = 0 := by omega
    have hs : (bytesRow b c).size = b.size + (c - b.size) := by simp [bytesRow]
    have hd : i < b.data.size := hi
    have e1 : b[i]? = some b[i] := by rw [getElem?_pos]
    simp only [nrw, Nat.mul_one, Nat.zero_add, Nat.add_zero]
    rw [if_pos (by simp only [true_and]; omega), e1]
    simp only [bytesRow]
    rw [Array.getElem?_append_left (by simpa using hd)]
    simp only [Array.getElem?_map, Option.map_some, Option.getD_some]
    rw [getElem?_pos b.data i hd]
    rfl
theorem bytes_one (b : ByteArray) (c : Nat) : ∀ j, j < (bytesRow b c).size → ((bytesRow b c).getD j undef).oneCell' = true := by
  refine one_of' fun v hv => ?_
  simp only [bytesRow, Array.toList_append, List.mem_append, Array.toList_map, List.mem_map, Array.toList_replicate, List.mem_replicate] at hv
  rcases hv with ⟨x, _, rfl⟩ | ⟨_, rfl⟩ <;> rfl
theorem op_convert (hT : TabOk P T) {o : Oper} {src dst : Nat} {x : Operand} (ho : o.op = .convert src dst x) {r : AV} {H' : Hp} (h : (aconvert T std H src dst (aeval s x)).is r H') : OpOk P N o s H r H' := by
  unfold aconvert at h
  split at h
  · rename_i k1 k k2 n h1 h2 hx
    obtain ⟨rfl, rfl⟩ := h
    have hu1 : P.underlying src = some (.int k1) := Tok.td hT h1
    have hu2 : P.underlying dst = some (.int k) := Tok.td hT h2
    exact OpOk.pure fun ρ μ a w hs _ => ⟨_, by have h2 := aeval_rel hs x; rw [hx] at h2; simp [execOp, ho, h2.int_inv, convert, run_underlying hu1, run_underlying hu2, Conv.intToInt]; rfl, .int ..⟩
  · rename_i b h1 h2 hx
    obtain ⟨rfl, rfl⟩ := h
    have hu1 : P.underlying src = some .string := Tok.td hT h1
    have hu2 : P.underlying dst = some .string := Tok.td hT h2
    exact OpOk.pure fun ρ μ a w hs _ => ⟨_, by have h2 := aeval_rel hs x; rw [hx] at h2; simp [execOp, ho, h2.str_inv, convert, run_underlying hu1, run_underlying hu2], .str ..⟩
  · rename_i e b h1 h2 hx
    split at h
    case h_2 => exact h.elim
    rename_i he
    obtain ⟨hn, rfl, rfl⟩ := h
    have hu1 : P.underlying src = some .string := Tok.td hT h1
    have hu2 : P.underlying dst = some (.slice e) := Tok.td hT h2
    have hu3 : P.underlying e = some (.int .u8) := Tok.td hT he
    have hn' : b.size ≤ maxLen := hn
    intro C ρ μ a w hs hst
    have h2 := aeval_rel hs x
    rw [hx] at h2
    have hrun := run_bytes_of_string w src dst e b hu1 hu2 hu3
    have hge := grownCap_ge w b.size 0 e
    have hgm := grownCap_le_maxLen w b.size 0 e hn'
    obtain ⟨hst', hle⟩ := hst.newRow (bytesRow b (grownCap w b.size 0 e)) e ((bytesRow b (grownCap w b.size 0 e)).size, (bytesRow b (grownCap w b.size 0 e)).size + 1) (bytes_one b _)
    exact ⟨_, _, ρ, _, .inl (by simp [execOp, ho, h2.str_inv, hrun]), bytes_rel b _ hge hgm, RhoLe.refl _, hle, hst'⟩
  · rename_i e n f h1 h2 hx
    split at h
    case h_2 => exact h.elim
    rename_i he
    obtain ⟨hn, rfl, rfl⟩ := h
    have hu1 : P.underlying src = some (.slice e) := Tok.td hT h1
    have hu2 : P.underlying dst = some .string := Tok.td hT h2
    have hu3 : P.underlying e = some (.int .u8) := Tok.td hT he
    have hn' : ∀ i, i < n → ∃ x, f i = [.int .u8 x] := hn
    refine OpOk.pure fun ρ μ a w hs hrep => ⟨.string (bstrF n f), ?_, .str ..⟩
    have h2 := aeval_rel hs x
    rw [hx] at h2
    generalize hv : a.eval x = v at h2
    cases h2 with
    | rows _ _ _ _ ad c _ b o ws hlen hsz hrel hmem hc hm =>
    have hcell : ∀ i, i < n → ad = some ⟨b, o, none⟩ ∧ w.cell? ⟨b, o + i, none⟩ = some (.int .u8 (bval (f i))) := by
      intro i hi
      obtain ⟨z, hz⟩ := hn' i hi
      have q1 := hrel i 0 hi (by decide)
      have q2 := hmem i 0 hi (by decide)
      rw [hz] at q1
      have q3 : ws i 0 = .int .u8 z := RelV.int_inv (by simpa using q1)
      refine ⟨q2.1, ?_⟩
      have := (hrep.mem _ _ _ q2.2).1
      rw [q3] at this
      simpa [hz, bval] using this
    have run : (convert src dst (.slice ad n c)).run P w = .ok (.string (bstrF n f)) w := by
      cases n with
      | zero =>
        have e0 : bstrF 0 f = ByteArray.empty := rfl
        rw [e0]
        cases ad with
        | none => exact run_convert_bytes_nil w src e hu1 hu3 0 c dst hu2
        | some ad =>
          rw [run_convert_bytes_string w src dst e (some ad) 0 c hu1 hu3 hu2]
          have := run_bytesToString (P := P) w ad 0 c [] (by simp [loadCells, loadCellsFrom])
          simpa using this
      | succ n =>
        rw [(hcell 0 (by omega)).1]
        refine run_convert_bytes_arg w src e hu1 hu3 b o (n + 1) c ((List.range (n + 1)).map fun i => bval (f i)) (by simp) (fun i hi => ?_) dst hu2
        rw [(hcell i hi).2]
        simp [List.getD_eq_getElem?_getD, hi]
    simp [execOp, ho, hv, run]
  · rename_i e h1 h2 hx
    split at h
    case h_2 => exact h.elim
    rename_i he
    obtain ⟨rfl, rfl⟩ := h
    have hu1 : P.underlying src = some (.slice e) := Tok.td hT h1
    have hu2 : P.underlying dst = some .string := Tok.td hT h2
    have hu3 : P.underlying e = some (.int .u8) := Tok.td hT he
    refine OpOk.pure fun ρ μ a w hs hrep => ⟨.string ByteArray.empty, ?_, .str ..⟩
    have h2 := aeval_rel hs x
    rw [hx] at h2
    generalize hv : a.eval x = v at h2
    cases h2
    simp [execOp, ho, hv, run_convert_bytes_nil w src e hu1 hu3 0 0 dst hu2]
  · exact h.elim

def amakeIface (T : Tab) (H : Hp) (t : Nat) (x : AV) : Out :=
  match tdOf T t with
  | some .iface => .stop
  | some _ => .ok (.ifc t x) H
  | none => .stop
theorem op_mkIface (hT : TabOk P T) {o : Oper} {t : Nat} {x : Operand} (ho : o.op = .makeInterface t x) {r : AV} {H' : Hp} (h : (amakeIface T H t (aeval s x)).is r H') : OpOk P N o s H r H' := by
  have key : H' = H ∧ OpOk P N o s H r H := by
    unfold amakeIface at h
    split at h
    · exact h.elim
    · rename_i d hne hd
      obtain ⟨rfl, rfl⟩ := h
      refine ⟨rfl, OpOk.pure fun ρ μ a w hs _ => ?_⟩
      refine ⟨.iface t (a.eval x), ?_, .ifc _ _ _ _ _ (aeval_rel hs x)⟩
      have hdesc := Tok.td hT hd
      cases d <;> simp only [DescOk] at hdesc
      case iface => exact (hne rfl).elim
      case struct => obtain ⟨f, hf, _⟩ := hdesc; simp [execOp, ho, Instr.makeInterface, run_underlying hf]
      case ptr => obtain ⟨f, hf⟩ := hdesc; simp [execOp, ho, Instr.makeInterface, run_underlying hf]
      case map => obtain ⟨f, g, hf⟩ := hdesc; simp [execOp, ho, Instr.makeInterface, run_underlying hf]
      case func => obtain ⟨f, g, k, hf⟩ := hdesc; simp [execOp, ho, Instr.makeInterface, run_underlying hf]
      all_goals simp [execOp, ho, Instr.makeInterface, run_underlying hdesc]
    · exact h.elim
  obtain ⟨rfl, h1⟩ := key
  exact h1
def atypeAssert (T : Tab) (H : Hp) (t : Nat) (x : AV) : Out :=
  match tdOf T t, x with
  | some .iface, _ => .stop
  | some _, .ifc t' v => match Nat.beq t' t with | true => .ok v H | false => .stop
  | _, _ => .stop
theorem op_typeAssert (hT : TabOk P T) {o : Oper} {xt t : Nat} {x : Operand} (ho : o.op = .typeAssert x xt t false) {r : AV} {H' : Hp} (h : (atypeAssert T H t (aeval s x)).is r H') : OpOk P N o s H r H' := by
  unfold atypeAssert at h
  split at h
  · exact h.elim
  · rename_i d t' v hne hd hx
    split at h
    case h_2 => exact h.elim
    rename_i hb
    have ht := Nat.eq_of_beq_eq_true hb
    subst ht
    obtain ⟨rfl, rfl⟩ := h
    refine OpOk.pure fun ρ μ a w hs _ => ?_
    have hv := aeval_rel hs x
    rw [hx] at hv
    generalize hu : a.eval x = u at hv
    cases hv with
    | ifc _ _ _ _ u h =>
    refine ⟨u, ?_, h⟩
    have hdesc := Tok.td hT hd
    cases d <;> simp only [DescOk] at hdesc
    case iface => exact (hne rfl).elim
    case struct => obtain ⟨f, hf, _⟩ := hdesc; simp [execOp, ho, hu, Instr.typeAssert, run_underlying hf]
    case ptr => obtain ⟨f, hf⟩ := hdesc; simp [execOp, ho, hu, Instr.typeAssert, run_underlying hf]
    case map => obtain ⟨f, g, hf⟩ := hdesc; simp [execOp, ho, hu, Instr.typeAssert, run_underlying hf]
    case func => obtain ⟨f, g, k, hf⟩ := hdesc; simp [execOp, ho, hu, Instr.typeAssert, run_underlying hf]
    all_goals simp [execOp, ho, hu, Instr.typeAssert, run_underlying hdesc]
  · exact h.elim
def aindex (T : Tab) (O : Ops) (H : Hp) (t : Nat) (x ix : AV) : Out :=
  match tdOf T t, x, ix with
  | some (.array n e), .agg cs, .int _ i => match tab T e with
    | some te => match Nat.blt i.toNat n, decide (0 ≤ i) with
      | true, true => part te.d.isAgg te.size (i.toNat * te.size) cs fun v => .ok v H
      | _, _ => .stop
    | none => .stop
  | some .str, .str b, .int _ i => .need (O.inb i (O.ssz b)) (.ok (.int .u8 (O.sbyte b (O.toN i))) H)
  | _, _, _ => .stop
theorem op_index (hT : TabOk P T) {o : Oper} {t : Nat} {x y : Operand} (ho : o.op = .index t x y) {r : AV} {H' : Hp} (h : (aindex T std H t (aeval s x) (aeval s y)).is r H') : OpOk P N o s H r H' := by
  unfold aindex at h
  split at h
  · rename_i n e cs k i h1 hx hy
    have hu : P.underlying t = some (.array n e) := Tok.td hT h1
    split at h
    case h_2 => exact h.elim
    rename_i te hte
    have htok := hT e te hte
    obtain ⟨d, hd, hda⟩ := htok.desc_agg
    obtain ⟨ti, z, hi, hsz, _⟩ := htok.info
    split at h
    case h_2 => exact h.elim
    rename_i hb1 hb2
    have hin : 0 ≤ i ∧ i < n := by
      have q1 := of_decide_eq_true hb2
      have q2 : i.toNat < n := by simpa using hb1
      omega
    have inv : ∀ {ρ μ} {a : Act}, RelS ρ μ N s a → ∃ vs : Array Value, a.eval x = .agg vs ∧ a.eval y = .int k i ∧ vs.size = cs.length ∧ ∀ j, j < cs.length → RelV ρ μ (cs.getD j .top) (vs.getD j undef) := by
      intro ρ μ a hs
      have q1 := aeval_rel hs x
      have q2 := aeval_rel hs y
      rw [hx] at q1
      rw [hy] at q2
      generalize a.eval x = u at q1
      cases q1 with
      | agg _ _ _ vs hl hr => exact ⟨vs, rfl, q2.int_inv, hl, hr⟩
    have run : ∀ (vs : Array Value) (w : World), (Instr.index t (.agg vs) (.int k i)).run P w = (Go.part e vs (i.toNat * te.size)).run P w := by
      intro vs w
      have : ti.size = te.size := hsz
      simp [Instr.index, asIntOf, run_underlying hu, hin, run_sizeOf' hi, this]
    rcases part_sound h with ⟨ha, hle, rfl, rfl⟩ | ⟨ha, hlt, rfl, rfl⟩
    · refine OpOk.pure fun ρ μ a w hs _ => ?_
      obtain ⟨vs, e1, e2, hl, hr⟩ := inv hs
      refine ⟨.agg (vs.extract (i.toNat * te.size) (i.toNat * te.size + te.size)), ?_, .agg _ _ _ _ (by simp; omega) fun j hj => ?_⟩
      · have : ti.size = te.size := hsz
        have e : aggDesc d = true := hda.trans ha
        simp [execOp, ho, e1, e2, run, Go.part, run_isAgg hd, e, run_sizeOf' hi, this]
      · have hj' : j < te.size := by simp at hj; omega
        have := hr (i.toNat * te.size + j) (by omega)
        have hlt : i.toNat * te.size + j < vs.size := by omega
        have hmin : j < min (i.toNat * te.size + te.size) vs.size - i.toNat * te.size := by omega
        rw [show ((cs.drop (i.toNat * te.size)).take te.size).getD j .top = cs.getD (i.toNat * te.size + j) .top from by simp [List.getD_eq_getElem?_getD, List.getElem?_take, List.getElem?_drop, hj'],
          show (vs.extract (i.toNat * te.size) (i.toNat * te.size + te.size)).getD j undef = vs.getD (i.toNat * te.size + j) undef from by simp [Array.getElem?_extract, hmin, hlt]]
        exact this
    · refine OpOk.pure fun ρ μ a w hs _ => ?_
      obtain ⟨vs, e1, e2, hl, hr⟩ := inv hs
      refine ⟨vs.getD (i.toNat * te.size) undef, ?_, hr _ hlt⟩
      have e : aggDesc d = false := hda.trans ha
      have hlt' : i.toNat * te.size < vs.size := by omega
      simp [execOp, ho, e1, e2, run, Go.part, run_isAgg hd, e, hlt']
  · rename_i b k i h1 hx hy
    have hu : P.underlying t = some .string := Tok.td hT h1
    obtain ⟨hin, rfl, rfl⟩ := h
    have hin' : 0 ≤ i ∧ i < (b.size : Int) := hin
    refine OpOk.pure fun ρ μ a w hs _ => ⟨_, ?_, .int ..⟩
    have q1 := aeval_rel hs x
    have q2 := aeval_rel hs y
    rw [hx] at q1
    rw [hy] at q2
    have hlt : i.toNat < b.size := by omega
    have e1 : b[i.toNat]? = some b[i.toNat] := by rw [getElem?_pos]
    simp [execOp, ho, q1.str_inv, q2.int_inv, Instr.index, asIntOf, run_underlying hu, hin'.1, e1, std]
  · exact h.elim

/-! ### Builtin functions that only look -/
def alen (T : Tab) (O : Ops) (H : Hp) (t : Nat) (x : AV) : Out :=
  match tdOf T t, x with
  | some (.slice _), .rows _ n _ => .ok (.int .i64 (O.ofN n)) H
  | some (.slice _), .sl _ _ n => .ok (.int .i64 (O.ofN n)) H
  | some (.slice _), .nil .slice => .ok (.int .i64 0) H
  | some .str, .str b => .ok (.int .i64 (O.slen b)) H
  | some (.array n _), _ => .ok (.int .i64 n) H
  | _, _ => .stop
theorem op_len (hT : TabOk P T) {o : Oper} {t : Nat} {x : Operand} (ho : o.op = .call { callee := .builtin .len, args := #[x], argTypes := #[t] }) {r : AV} {H' : Hp} (h : (alen T std H t (aeval s x)).is r H') : OpOk P N o s H r H' := by
  have key : ∀ ρ μ a w, RelS ρ μ N s a → H' = H ∧ ∃ v, RelV ρ μ r v ∧ (Builtin.len_ #[t] o.type #[a.eval x]).run P w = .ok v w := by
    intro ρ μ a w hs
    have h2 := aeval_rel hs x
    unfold alen at h
    split at h
    · rename_i e sz n f hd hx
      have hu : P.underlying t = some (.slice e) := Tok.td hT hd
      obtain ⟨rfl, rfl⟩ := h
      rw [hx] at h2
      generalize a.eval x = v at h2
      cases h2
      exact ⟨rfl, _, .int .., by simp [Builtin.len_, run_underlying hu, goInt, std]⟩
    · rename_i e o' i n hd hx
      have hu : P.underlying t = some (.slice e) := Tok.td hT hd
      obtain ⟨rfl, rfl⟩ := h
      rw [hx] at h2
      generalize a.eval x = v at h2
      cases h2 <;> exact ⟨rfl, _, .int .., by simp [Builtin.len_, run_underlying hu, goInt, std]⟩
    · rename_i e hd hx
      have hu : P.underlying t = some (.slice e) := Tok.td hT hd
      obtain ⟨rfl, rfl⟩ := h
      rw [hx] at h2
      generalize a.eval x = v at h2
      cases h2
      exact ⟨rfl, _, .int .., by simp [Builtin.len_, run_underlying hu, goInt]⟩
    · rename_i b hd hx
      have hu : P.underlying t = some .string := Tok.td hT hd
      obtain ⟨rfl, rfl⟩ := h
      rw [hx] at h2
      exact ⟨rfl, _, .int .., by simp [h2.str_inv, Builtin.len_, run_underlying hu, goInt, std]⟩
    · rename_i n e hd
      have hu : P.underlying t = some (.array n e) := Tok.td hT hd
      obtain ⟨rfl, rfl⟩ := h
      exact ⟨rfl, _, .int .., by simp [Builtin.len_, run_underlying hu, goInt]⟩
    · exact h.elim
  intro C ρ μ a w hs hst
  obtain ⟨rfl, v, hv, hrun⟩ := key ρ μ a w hs
  exact ⟨v, w, ρ, μ, .inl (by simp [execOp, ho, resolve, invoke, builtin, hrun]), hv, RhoLe.refl _, MuLe.refl _, hst⟩

def afold (f : Int → Int → Int) (k : IntKind) : Int → List AV → Option Int
  | x, [] => some x
  | x, .int k' y :: r => match ikeq k k' with | true => afold f k (f x y) r | false => none
  | _, _ => none
def amaxmin (f : Int → Int → Int) (H : Hp) (xs : List AV) : Out :=
  match xs with
  | .int k x :: r => match afold f k x r with | some z => .ok (.int k z) H | none => .stop
  | _ => .stop
theorem run_max {ρ : Rho} {μ : Mu} (k : IntKind) (w : World) : ∀ (xs : List AV) (vs : List Value) (x z : Int), vs.length = xs.length → (∀ j, j < xs.length → RelV ρ μ (xs.getD j .top) (vs.getD j undef)) → afold std.mx k x xs = some z → (vs.foldlM Builtin.max2 (.int k x)).run P w = .ok (.int k z) w
  | [], [], x, z, _, _, h => by simp [afold] at h; subst h; rfl
  | [], _ :: _, _, _, h, _, _ => by simp at h
  | _ :: _, [], _, _, h, _, _ => by simp at h
  | q :: r, v :: vs, x, z, hl, hr, h => by
    have h0 := hr 0 (by simp)
    simp at h0
    cases q <;> simp only [afold] at h <;> try (cases h; done)
    rename_i k' y
    split at h
    · rename_i hk
      have := ikeq_eq hk
      subst this
      rw [h0.int_inv, List.foldlM_cons]
      simp only [Sem.run_bind, Builtin.max2, Sem.run_pure, Result.andThen_ok]
      exact run_max k w r vs _ z (by simpa using hl) (fun j hj => by simpa using hr (j + 1) (by simpa using hj)) h
    · cases h
theorem run_min {ρ : Rho} {μ : Mu} (k : IntKind) (w : World) : ∀ (xs : List AV) (vs : List Value) (x z : Int), vs.length = xs.length → (∀ j, j < xs.length → RelV ρ μ (xs.getD j .top) (vs.getD j undef)) → afold std.mn k x xs = some z → (vs.foldlM Builtin.min2 (.int k x)).run P w = .ok (.int k z) w
  | [], [], x, z, _, _, h => by simp [afold] at h; subst h; rfl
  | [], _ :: _, _, _, h, _, _ => by simp at h
  | _ :: _, [], _, _, h, _, _ => by simp at h
  | q :: r, v :: vs, x, z, hl, hr, h => by
    have h0 := hr 0 (by simp)
    simp at h0
    cases q <;> simp only [afold] at h <;> try (cases h; done)
    rename_i k' y
    split at h
    · rename_i hk
      have := ikeq_eq hk
      subst this
      rw [h0.int_inv, List.foldlM_cons]
      simp only [Sem.run_bind, Builtin.min2, Sem.run_pure, Result.andThen_ok]
      exact run_min k w r vs _ z (by simpa using hl) (fun j hj => by simpa using hr (j + 1) (by simpa using hj)) h
    · cases h

theorem op_maxmin {o : Oper} {b : Builtin} {xs : Array Operand} {ts : Array TypeId} (ho : o.op = .call { callee := .builtin b, args := xs, argTypes := ts }) {r : AV} {H' : Hp}
    (h : (b = .max ∧ (amaxmin std.mx H (xs.toList.map (aeval s))).is r H') ∨ (b = .min ∧ (amaxmin std.mn H (xs.toList.map (aeval s))).is r H')) : OpOk P N o s H r H' := by
  have e : ∀ a : Act, (xs.map a.eval).toList = xs.toList.map a.eval := fun a => by simp
  have key : ∀ ρ μ a w, RelS ρ μ N s a → H' = H ∧ ∃ v, RelV ρ μ r v ∧ (builtin b ts o.type (xs.map fun | .const _ => true | _ => false) (xs.map a.eval)).run P w = .ok (.value v) w := by
    intro ρ μ a w hs
    have hr := amap_rel hs xs.toList
    rcases h with ⟨rfl, h⟩ | ⟨rfl, h⟩
    · unfold amaxmin at h
      split at h
      · rename_i k x rest hx
        split at h
        · rename_i z hz
          obtain ⟨rfl, rfl⟩ := h
          cases hvs : xs.toList.map a.eval with
          | nil => have : (xs.toList.map (aeval s)).length = (xs.toList.map a.eval).length := by simp
                   rw [hx, hvs] at this; simp at this
          | cons v vs =>
            rw [hx, hvs] at hr
            have h0 := hr 0 (by simp)
            simp at h0
            have hl : vs.length = rest.length := by
              have : (xs.toList.map (aeval s)).length = (xs.toList.map a.eval).length := by simp
              rw [hx, hvs] at this; simpa using this.symm
            refine ⟨rfl, _, .int .., ?_⟩
            have hm := run_max (P := P) k w rest vs x z hl (fun j hj => by simpa using hr (j + 1) (by simpa using hj)) hz
            rw [h0.int_inv] at hvs
            simp [builtin, Builtin.max_, hvs, hm]
        · exact h.elim
      · exact h.elim
    · unfold amaxmin at h
      split at h
      · rename_i k x rest hx
        split at h
        · rename_i z hz
          obtain ⟨rfl, rfl⟩ := h
          cases hvs : xs.toList.map a.eval with
          | nil => have : (xs.toList.map (aeval s)).length = (xs.toList.map a.eval).length := by simp
                   rw [hx, hvs] at this; simp at this
          | cons v vs =>
            rw [hx, hvs] at hr
            have h0 := hr 0 (by simp)
            simp at h0
            have hl : vs.length = rest.length := by
              have : (xs.toList.map (aeval s)).length = (xs.toList.map a.eval).length := by simp
              rw [hx, hvs] at this; simpa using this.symm
            refine ⟨rfl, _, .int .., ?_⟩
            have hm := run_min (P := P) k w rest vs x z hl (fun j hj => by simpa using hr (j + 1) (by simpa using hj)) hz
            rw [h0.int_inv] at hvs
            simp [builtin, Builtin.min_, hvs, hm]
        · exact h.elim
      · exact h.elim
  intro C ρ μ a w hs hst
  obtain ⟨rfl, v, hv, hrun⟩ := key ρ μ a w hs
  refine ⟨v, w, ρ, μ, .inl ?_, hv, RhoLe.refl _, MuLe.refl _, hst⟩
  simp only [execOp, ho, resolve, invoke, Sem.run_bind, Sem.run_pure, Result.andThen_ok]
  exact hrun

end
end Vx

namespace Vx
open Go

theorem idx_uniq {sz i j i' j' : Nat} (hj : j < sz) (hj' : j' < sz) (h : i * sz + j = i' * sz + j') : i = i' ∧ j = j' := by
  have h1 : (i * sz + j) / sz = i := by rw [Nat.mul_comm, Nat.mul_add_div (by omega), Nat.div_eq_of_lt hj]; omega
  have h2 : (i' * sz + j') / sz = i' := by rw [Nat.mul_comm, Nat.mul_add_div (by omega), Nat.div_eq_of_lt hj']; omega
  have : i = i' := by rw [← h1, ← h2, h]
  subst this
  exact ⟨rfl, by omega⟩

def cellsOf : AV → List AV
  | .agg cs => cs
  | x => [x]
def allLeaf : List AV → Bool
  | [] => true
  | x :: r => x.leaf && allLeaf r
theorem allLeaf_get : ∀ {cs : List AV} {j : Nat}, allLeaf cs = true → j < cs.length → (cs.getD j .top).leaf = true
  | [], j, _, h => by simp at h
  | x :: r, 0, h, _ => by simp only [allLeaf, Bool.and_eq_true] at h; simpa using h.1
  | x :: r, j + 1, h, hj => by
    simp only [allLeaf, Bool.and_eq_true] at h
    simpa using allLeaf_get (cs := r) (j := j) h.2 (by simpa using hj)

theorem cells_rel {ρ : Rho} {μ : Mu} {x : AV} {u : Value} (h : RelV ρ μ x u) (hl : allLeaf (cellsOf x) = true) :
    u.cells.size = (cellsOf x).length ∧ (∀ j, j < (cellsOf x).length → RelV ρ μ ((cellsOf x).getD j .top) (u.cells.getD j undef)) ∧ (∀ v ∈ u.cells.toList, v.oneCell' = true) := by
  have one : ∀ {x : AV} {u : Value}, RelV ρ μ x u → x.leaf = true → (∀ z, u ≠ .agg z) → cellsOf x = [x] → u.cells.size = (cellsOf x).length ∧ (∀ j, j < (cellsOf x).length → RelV ρ μ ((cellsOf x).getD j .top) (u.cells.getD j undef)) ∧ (∀ v ∈ u.cells.toList, v.oneCell' = true) := by
    intro x u h hx hu hc
    have hcu : u.cells = #[u] := by cases u <;> first | rfl | exact absurd rfl (hu _)
    rw [hc, hcu]
    refine ⟨rfl, fun j hj => ?_, fun v hv => ?_⟩
    · obtain rfl : j = 0 := by simpa using hj
      simpa using h
    · obtain rfl : v = u := by simpa using hv
      exact h.leaf hx
  cases x with
  | agg cs =>
    cases h with
    | agg _ _ _ vs hsz hr =>
      refine ⟨hsz, hr, fun v hv => ?_⟩
      obtain ⟨j, hj, rfl⟩ := List.getElem_of_mem hv
      have hj' : j < vs.size := by simpa [Value.cells] using hj
      have hjc : j < cs.length := by omega
      have := hr j hjc
      have e : vs.getD j undef = vs[j] := by simp [hj']
      rw [e] at this
      simpa [Value.cells] using this.leaf (allLeaf_get hl hjc)
  | tup cs => simp [cellsOf, allLeaf, AV.leaf] at hl
  | top => simp [cellsOf, allLeaf, AV.leaf] at hl
  | _ => exact one h rfl (by intro z e; subst e; cases h) rfl

def splice (r : List AV) (off : Nat) (cs : List AV) : List AV := r.take off ++ cs ++ r.drop (off + cs.length)
theorem splice_length {r : List AV} {off : Nat} {cs : List AV} (h : off + cs.length ≤ r.length) : (splice r off cs).length = r.length := by
  simp [splice]; omega
theorem splice_get {r : List AV} {off : Nat} {cs : List AV} (h : off + cs.length ≤ r.length) (j : Nat) :
    (splice r off cs).getD j .top = if off ≤ j ∧ j < off + cs.length then cs.getD (j - off) .top else r.getD j .top := by
  simp only [splice, List.getD_eq_getElem?_getD, List.append_assoc]
  by_cases h1 : j < off
  · rw [List.getElem?_append_left (by simp; omega), if_neg (by omega), List.getElem?_take, if_pos h1]
  · rw [List.getElem?_append_right (by simp; omega)]
    have e : min off r.length = off := by omega
    simp only [List.length_take, e]
    by_cases h2 : j < off + cs.length
    · rw [List.getElem?_append_left (by omega), if_pos (by omega)]
    · rw [List.getElem?_append_right (by omega), if_neg (by omega), List.getElem?_drop]
      congr 2
      omega

theorem spliceV_get (cur vs : List Value) (o : Nat) (h : o + vs.length ≤ cur.length) (x : Nat) :
    (cur.take o ++ vs ++ cur.drop (o + vs.length)).toArray.getD x undef = if o ≤ x ∧ x < o + vs.length then vs.getD (x - o) undef else cur.toArray.getD x undef := by
  simp only [Array.getD_eq_getD_getElem?, List.getElem?_toArray, List.getD_eq_getElem?_getD, List.append_assoc]
  by_cases h1 : x < o
  · rw [List.getElem?_append_left (by simp; omega), if_neg (by omega), List.getElem?_take, if_pos h1]
  · rw [List.getElem?_append_right (by simp; omega)]
    have e : min o cur.length = o := by omega
    simp only [List.length_take, e]
    by_cases h2 : x < o + vs.length
    · rw [List.getElem?_append_left (by omega), if_pos (by omega)]
    · rw [List.getElem?_append_right (by omega), if_neg (by omega), List.getElem?_drop]
      congr 2
      omega

def setO (H : Hp) (o : Nat) (x : Option Ob) : Hp :=
  match H, o with
  | [], _ => []
  | _ :: r, 0 => x :: r
  | y :: r, o + 1 => y :: setO r o x
theorem setO_eq : ∀ (H : Hp) (o : Nat) (x : Option Ob), setO H o x = H.set o x
  | [], o, x => by simp [setO]
  | y :: r, 0, x => rfl
  | y :: r, o + 1, x => by simp [setO, setO_eq r o x]
def setL {α : Type} : List α → Nat → α → List α
  | [], _, _ => []
  | _ :: r, 0, x => x :: r
  | y :: r, o + 1, x => y :: setL r o x
theorem setL_eq {α : Type} : ∀ (l : List α) (o : Nat) (x : α), setL l o x = l.set o x
  | [], o, x => by simp [setL]
  | y :: r, 0, x => rfl
  | y :: r, o + 1, x => by simp [setL, setL_eq r o x]

def astore (T : Tab) (O : Ops) (H : Hp) (t : Nat) (p v : AV) : Out :=
  match tab T t, p with
  | some ti, .ptr o i off => match hget H o with
    | some ob => match Nat.beq (cellsOf v).length ti.size, allLeaf (cellsOf v), Nat.ble (off + ti.size) ob.sz with
      | true, true, true => match ob.c with
        | .lit rows => match lget rows i with
          | some r => .ok .top (setO H o (some ⟨ob.e, ob.sz, .lit (setL rows i (splice r off (cellsOf v)))⟩))
          | none => .stop
        | .arr n f => match AV.bnd.bndL 0 (cellsOf v) with
          | true => .need (O.ltN i n) (.ok .top (setO H o (some ⟨ob.e, ob.sz, .arr n fun j => match O.eqN j i with | true => splice (f j) off (cellsOf v) | false => f j⟩)))
          | false => .stop
      | _, _, _ => .stop
    | none => .stop
  | _, _ => .stop

section
variable {P : Program} {T : Tab} {N : Nat} {s : Slots} {H : Hp}

/-- Cells of one element of an object are written. -/
theorem St.store {C : Ctx} {ρ : Rho} {μ : Mu} {w : World} (h : St C ρ μ H w) {o : Nat} {ob : Ob} {L : Loc} {cs : Array Value} (ho : H[o]? = some (some ob)) (hat : ObAt ρ μ w o ob L cs)
    (i off : Nat) (vs : List Value) (xs : List AV) (hl : vs.length = xs.length) (hoff : off + xs.length ≤ L.sz) (hi : i < ob.c.n) (h1 : ∀ v ∈ vs, v.oneCell' = true)
    (c' : Cont) (hn : c'.n = ob.c.n) (hrho : c'.rho ρ = ob.c.rho ρ) (hx : ∀ j, j < xs.length → RelV (c'.rho ρ) μ (xs.getD j .top) (vs.getD j undef)) (hf : ∀ k, k < ob.c.n → c'.f k = if k = i then splice (ob.c.f k) off xs else ob.c.f k) :
    ∃ w', (storeCells ⟨L.b, i * L.sz + off, none⟩ vs).run P w = .ok () w' ∧ St C ρ μ (H.set o (some ⟨ob.e, ob.sz, c'⟩)) w' := by
  have hin : i < L.tot := Nat.lt_of_lt_of_le hi hat.n
  have hroom : i * L.sz + off + vs.length ≤ cs.size := by
    rw [hat.size, hl]
    calc i * L.sz + off + xs.length ≤ i * L.sz + L.sz := by omega
      _ = (i + 1) * L.sz := by rw [Nat.add_mul, Nat.one_mul]
      _ ≤ L.tot * L.sz := Nat.mul_le_mul_right _ (by omega)
  have hrun := run_storeCells_at P L.b (i * L.sz + off) L.e vs 0 cs w hat.heap (by omega) h1
  simp only [Nat.add_zero] at hrun
  refine ⟨_, hrun, h.write ho hat _ _ ⟨ob.e, ob.sz, c'⟩ rfl rfl rfl ?_ (fun b hb => setRow_other w L.b b _ hb) (setRow_heap w L.b cs _ L.e _ hat.heap) ?_ rfl rfl ?_ ?_ ?_ ?_⟩
  · simp [World.setRow]
  · simp; omega
  · show c'.n ≤ L.tot; rw [hn]; exact hat.n
  · intro k hk
    have hk' : k < ob.c.n := by rw [← hn]; exact hk
    show (c'.f k).length = L.sz
    rw [hf k hk']
    split
    · rw [splice_length (by rw [hat.len k hk']; omega)]; exact hat.len k hk'
    · exact hat.len k hk'
  · intro k j hk hj
    have hk' : k < ob.c.n := by rw [← hn]; exact hk
    show RelV (c'.rho ρ) μ ((c'.f k).getD j .top) _
    rw [hf k hk', spliceV_get _ _ _ (by simpa using hroom)]
    by_cases hki : k = i
    · subst hki
      rw [if_pos rfl, splice_get (by rw [hat.len k hk']; omega)]
      by_cases hjo : off ≤ j ∧ j < off + xs.length
      · rw [if_pos hjo, if_pos (by omega), show k * L.sz + j - (k * L.sz + off) = j - off by omega]
        exact hx _ (by omega)
      · rw [if_neg hjo, if_neg (by omega), hrho]
        simpa using hat.rel k j hk' hj
    · rw [if_neg hki, hrho, if_neg]
      · simpa using hat.rel k j hk' hj
      · intro hc
        have : i * L.sz + (off + (k * L.sz + j - (i * L.sz + off))) = k * L.sz + j := by omega
        exact hki (idx_uniq (by omega) hj this).1.symm
  · intro j hj
    have hj' : j < cs.size := by simp at hj; omega
    rw [spliceV_get _ _ _ (by simpa using hroom)]
    split
    · rename_i hc
      have hlt : j - (i * L.sz + off) < vs.length := by omega
      have := h1 _ (List.getElem_mem hlt)
      simpa [List.getD_eq_getElem?_getD, hlt] using this
    · have e := hat.one j hj'
      simpa [hj'] using e

theorem op_store (hT : TabOk P T) {o : Oper} {t : Nat} {x y : Operand} (ho : o.op = .store t x y) {r : AV} {H' : Hp} (h : (astore T std H t (aeval s x) (aeval s y)).is r H') : OpOk P N o s H r H' := by
  unfold astore at h
  split at h
  case h_2 => exact h.elim
  rename_i ti ob' i off hti hx
  have htok := hT _ _ hti
  obtain ⟨inf, z, hinf, hsz, _⟩ := htok.info
  split at h
  case h_2 => exact h.elim
  rename_i ob hob
  split at h
  case h_2 => exact h.elim
  rename_i hb1 hb2 hb3
  have hlen := Nat.eq_of_beq_eq_true hb1
  have hoff := Nat.le_of_ble_eq_true hb3
  have fin : ∀ c', (∀ C ρ μ a w, RelS ρ μ N s a → St C ρ μ H w → i < ob.c.n ∧ c'.n = ob.c.n ∧ c'.rho ρ = ob.c.rho ρ ∧ (∀ j, j < (cellsOf (aeval s y)).length → RelV (c'.rho ρ) μ ((cellsOf (aeval s y)).getD j .top) ((a.eval y).cells.getD j undef)) ∧
      (∀ k, k < ob.c.n → c'.f k = if k = i then splice (ob.c.f k) off (cellsOf (aeval s y)) else ob.c.f k)) → r = .top → H' = setO H ob' (some ⟨ob.e, ob.sz, c'⟩) → OpOk P N o s H r H' := by
    intro c' hc hr hH C ρ μ a w hs hst
    subst hr hH
    obtain ⟨hi, hn, hrho, hx', hf⟩ := hc C ρ μ a w hs hst
    have h2 := aeval_rel hs x
    rw [hx] at h2
    generalize hv : a.eval x = v at h2
    cases h2 with
    | ptr _ _ _ _ _ L hL =>
      obtain ⟨L', cs, hat⟩ := hst.rep.at_ (hget_some hob) hL
      obtain rfl : L' = L := Option.some.inj (hat.loc.symm.trans hL)
      obtain ⟨c1, c2, c3⟩ := cells_rel (aeval_rel hs y) hb2
      obtain ⟨w', hrun, hst'⟩ := hst.store (P := P) (hget_some hob) hat i off (a.eval y).cells.toList (cellsOf (aeval s y)) (by simpa using c1) (by rw [hlen, ← hat.sz]; exact hoff) hi c3 c' hn hrho
        (fun j hj => by simpa using hx' j hj) hf
      refine ⟨undef, w', ρ, μ, .inr ⟨?_, rfl⟩, .top .., RhoLe.refl _, MuLe.refl _, by rw [setO_eq]; exact hst'⟩
      have hs1 : (a.eval y).cells.size = inf.size := by rw [c1, hlen, hsz]
      simp [execOp, ho, hv, Instr.storeAt, Instr.sureAddr, storeVar, run_sizeOf' hinf, hs1, hrun]
  split at h
  · rename_i rows hc
    split at h
    case h_2 => exact h.elim
    rename_i rw_ hrow
    obtain ⟨hr, hH⟩ := h
    rw [lget_eq] at hrow
    have hir := (List.getElem?_eq_some_iff.1 hrow).1
    refine fin _ (fun C ρ μ a w hs hst => ?_) hr.symm hH.symm
    rw [hc]
    refine ⟨hir, by simp [Cont.n, setL_eq], rfl, fun j hj => (cells_rel (aeval_rel hs y) hb2).2.1 j hj, fun k hk => ?_⟩
    simp only [Cont.f, setL_eq, List.getD_eq_getElem?_getD, List.getElem?_set]
    by_cases hki : i = k
    · subst hki
      have hk' : i < rows.length := hk
      have : rows[i] = rw_ := by rw [List.getElem?_eq_getElem hk'] at hrow; exact Option.some.inj hrow
      simp [hk', this]
    · simp [hki, Ne.symm hki]
  · rename_i n f hc
    split at h
    case h_2 => exact h.elim
    rename_i hb0
    obtain ⟨hin, hr, hH⟩ := h
    refine fin _ (fun C ρ μ a w hs hst => ?_) hr.symm hH.symm
    rw [hc]
    refine ⟨hin, rfl, rfl, fun j hj => ?_, fun k hk => ?_⟩
    · exact ((cells_rel (aeval_rel hs y) hb2).2.1 j hj).to (bndL_get hb0 hj) (fun o ho => by omega)
    · simp only [Cont.f, std]
      by_cases hki : k = i
      · subst hki; simp
      · have : (k == i) = false := by simpa using hki
        simp [this, hki]

end
end Vx

namespace Vx
open Go

def app (H : Hp) (x : Option Ob) : Hp :=
  match H with
  | [] => [x]
  | y :: r => y :: app r x
theorem app_eq : ∀ (H : Hp) (x : Option Ob), app H x = H ++ [x]
  | [], x => rfl
  | y :: r, x => by simp [app, app_eq r x]

def aalloc (T : Tab) (H : Hp) (t : Nat) : Out :=
  match tab T t with
  | some ti => .ok (.ptr H.length 0 0) (app H (some ⟨t, ti.size, .lit [ti.zero]⟩))
  | none => .stop
def abox (H : Hp) (t : Nat) (v : AV) : Out :=
  match allLeaf (cellsOf v), Nat.blt 0 (cellsOf v).length with
  | true, true => .ok (.ptr H.length 0 0) (app H (some ⟨t, (cellsOf v).length, .lit [cellsOf v]⟩))
  | _, _ => .stop

section
variable {P : Program} {T : Tab} {N : Nat} {s : Slots} {H : Hp}

theorem one_of {cells : Array Value} (h : ∀ v ∈ cells.toList, v.oneCell' = true) : ∀ j, j < cells.size → (cells.getD j undef).oneCell' = true := fun j hj => by
  have := h cells[j] (by simp)
  simpa [hj] using this
theorem all_one {z : Array Value} (h : z.all (·.oneCell') = true) : ∀ v ∈ z.toList, v.oneCell' = true := fun v hv => Array.all_eq_true'.1 h v (by simpa using hv)
/-- A new variable. -/
theorem St.newVar {C : Ctx} {ρ : Rho} {μ : Mu} {w : World} (h : St C ρ μ H w) (t : Nat) (cells : Array Value) (xs : List AV) (hl : cells.size = xs.length) (hp : 0 < xs.length) (hx : ∀ j, j < xs.length → RelV ρ μ (xs.getD j .top) (cells.getD j undef)) (hone : ∀ v ∈ cells.toList, v.oneCell' = true) :
    ∃ ρ', RelV ρ' μ (.ptr H.length 0 0) (.pointer (some ⟨w.heap.size, 0, none⟩)) ∧ RhoLe ρ ρ' ∧ St C ρ' μ (app H (some ⟨t, xs.length, .lit [xs]⟩)) { w with heap := w.heap.push (.cells cells t) } := by
  have := h.alloc ⟨t, xs.length, .lit [xs]⟩ cells t xs.length 1 rfl rfl hp (by simpa using hl) (by simp [Cont.n]) (by simp [maxLen]) (fun i hi => by
    obtain rfl : i = 0 := by simpa [Cont.n] using hi
    rfl) (fun i j hi hj => by
    obtain rfl : i = 0 := by simpa [Cont.n] using hi
    simpa [Cont.f, Cont.rho] using hx j hj) (one_of hone)
  refine ⟨_, ?_, upd_le _ h.rep.new_none, by rw [app_eq]; exact this⟩
  have h2 := RelV.ptr (upd ρ H.length ⟨w.heap.size, t, xs.length, 1⟩) μ H.length 0 0 ⟨w.heap.size, t, xs.length, 1⟩ (upd_same ..)
  simpa using h2

theorem op_alloc (hT : TabOk P T) {o : Oper} {t : Nat} (ho : o.op = .alloc t) {r : AV} {H' : Hp} (h : (aalloc T H t).is r H') : OpOk P N o s H r H' := by
  unfold aalloc at h
  split at h
  · rename_i ti hti
    obtain ⟨rfl, rfl⟩ := h
    intro C ρ μ a w hs hst
    have htok := hT _ _ hti
    obtain ⟨i, z, hi, hsz, _, hz, hzs, hzl, h1, hzr⟩ := htok.info
    obtain ⟨ρ', hv, hle, hst'⟩ := hst.newVar t z.cells ti.zero (by omega) (by have := htok.pos; omega) (fun j hj => (hzr j (by omega)).mono (rho0_le _) (mu0_le _)) (all_one h1)
    refine ⟨_, _, ρ', μ, .inl ?_, hv, hle, MuLe.refl _, by rw [← hzl]; exact hst'⟩
    simp [execOp, ho, Instr.alloc, zeroValue, typeInfo, hi, hz, newVar, newRow]
  · exact h.elim

theorem op_box {o : Oper} {t : Nat} {x : Operand} (ho : o.op = .box t x) {r : AV} {H' : Hp} (h : (abox H t (aeval s x)).is r H') : OpOk P N o s H r H' := by
  unfold abox at h
  split at h
  · rename_i h1 h2
    obtain ⟨rfl, rfl⟩ := h
    intro C ρ μ a w hs hst
    obtain ⟨c1, c2, c3⟩ := cells_rel (aeval_rel hs x) h1
    obtain ⟨ρ', hv, hle, hst'⟩ := hst.newVar t (a.eval x).cells (cellsOf (aeval s x)) c1 (by simpa using h2) c2 c3
    exact ⟨_, _, ρ', μ, .inl (by simp [execOp, ho, Instr.box, newVar, newRow]), hv, hle, MuLe.refl _, hst'⟩
  · exact h.elim

/-! ### Literals -/
/-- The parts of a literal, put in their places. -/
def afill (place : Nat → Option (Nat × Nat)) (cs : List AV) : List (Nat × AV) → Option (List AV)
  | [] => some cs
  | (i, v) :: rest => match place i with
    | none => none
    | some (off, size) => match Nat.beq (cellsOf v).length size, Nat.ble (off + size) cs.length, allLeaf (cellsOf v) with
      | true, true, true => afill place (splice cs off (cellsOf v)) rest
      | _, _, _ => none

theorem fold_set (off : Nat) : ∀ (l : List Value) (k : Nat) (cs : Array Value), off + k + l.length ≤ cs.size →
    ((l.zipIdx k).foldl (fun cs (p : Value × Nat) => cs.setIfInBounds (off + p.2) p.1) cs).size = cs.size ∧
    ∀ x, ((l.zipIdx k).foldl (fun cs (p : Value × Nat) => cs.setIfInBounds (off + p.2) p.1) cs).getD x undef = if off + k ≤ x ∧ x < off + k + l.length then l.getD (x - (off + k)) undef else cs.getD x undef
  | [], k, cs, _ => ⟨rfl, fun x => by simp only [List.zipIdx_nil, List.foldl_nil, List.length_nil]; rw [if_neg (by omega)]⟩
  | v :: r, k, cs, h => by
    have hlen : (v :: r).length = r.length + 1 := rfl
    obtain ⟨h1, h2⟩ := fold_set off r (k + 1) (cs.setIfInBounds (off + k) v) (by simp; omega)
    simp only [List.zipIdx_cons, List.foldl_cons]
    refine ⟨by rw [h1]; simp, fun x => ?_⟩
    rw [h2]
    by_cases hx : off + (k + 1) ≤ x ∧ x < off + (k + 1) + r.length
    · rw [if_pos hx, if_pos (by omega)]
      obtain ⟨d, rfl⟩ : ∃ d, x = off + (k + 1) + d := ⟨x - (off + (k + 1)), by omega⟩
      rw [show off + (k + 1) + d - (off + (k + 1)) = d by omega, show off + (k + 1) + d - (off + k) = d + 1 by omega]
      simp
    · rw [if_neg hx]
      simp only [Array.getD_eq_getD_getElem?, Array.getElem?_setIfInBounds]
      by_cases hk : off + k = x
      · subst hk
        have : off + k < cs.size := by omega
        rw [if_pos rfl, if_pos (by omega)]
        simp [this]
      · rw [if_neg hk, if_neg (by omega)]

theorem fill_sound {ρ : Rho} {μ : Mu} (place : Nat → Option (Nat × Nat)) : ∀ (ps : List (Nat × AV)) (qs : List (Nat × Value)) (cs : List AV) (vs : Array Value) (cs' : List AV),
    ps.map (·.1) = qs.map (·.1) → (∀ j, j < ps.length → RelV ρ μ ((ps.map (·.2)).getD j .top) ((qs.map (·.2)).getD j undef)) → vs.size = cs.length → (∀ j, j < cs.length → RelV ρ μ (cs.getD j .top) (vs.getD j undef)) → (∀ v ∈ vs.toList, v.oneCell' = true) →
    afill place cs ps = some cs' → ∃ vs', Instr.fill place vs qs = some vs' ∧ vs'.size = cs'.length ∧ cs'.length = cs.length ∧ (∀ j, j < cs'.length → RelV ρ μ (cs'.getD j .top) (vs'.getD j undef)) ∧ (∀ v ∈ vs'.toList, v.oneCell' = true)
  | [], [], cs, vs, cs', _, _, hl, hr, ho, h => by simp [afill] at h; subst h; exact ⟨vs, rfl, hl, rfl, hr, ho⟩
  | [], _ :: _, _, _, _, h, _, _, _, _, _ => by simp at h
  | _ :: _, [], _, _, _, h, _, _, _, _, _ => by simp at h
  | (i, x) :: ps, (i', u) :: qs, cs, vs, cs', he, hp, hl, hr, ho, h => by
    simp only [List.map_cons, List.cons.injEq] at he
    obtain ⟨rfl, he⟩ := he
    simp only [afill] at h
    cases hpl : place i with
    | none => simp [hpl] at h
    | some os =>
      obtain ⟨off, size⟩ := os
      simp only [hpl] at h
      split at h
      · rename_i b1 b2 b3
        have hsz := Nat.eq_of_beq_eq_true b1
        have hle := Nat.le_of_ble_eq_true b2
        have h0 := hp 0 (by simp)
        simp at h0
        obtain ⟨c1, c2, c3⟩ := cells_rel h0 b3
        have hfold := fold_set off u.cells.toList 0 vs (by simp; omega)
        have hz : u.cells.zipIdx.foldl (fun cs (p : Value × Nat) => cs.setIfInBounds (off + p.2) p.1) vs = (u.cells.toList.zipIdx 0).foldl (fun cs (p : Value × Nat) => cs.setIfInBounds (off + p.2) p.1) vs := by
          rw [← Array.foldl_toList, Array.toList_zipIdx]
        obtain ⟨vs', g1, g2, g3, g4, g5⟩ := fill_sound place ps qs (splice cs off (cellsOf x)) _ cs' he (fun j hj => by simpa using hp (j + 1) (by simpa using hj)) (hfold.1.trans (by rw [splice_length (by omega)]; exact hl)) (fun j hj => by
          rw [hfold.2, splice_get (by omega)]
          simp only [Nat.add_zero, Array.length_toList]
          by_cases hc : off ≤ j ∧ j < off + (cellsOf x).length
          · rw [if_pos hc, if_pos (by omega)]
            simpa using c2 (j - off) (by omega)
          · rw [if_neg hc, if_neg (by omega)]
            exact hr j (by rw [splice_length (by omega)] at hj; exact hj)) (by
          intro v hv
          obtain ⟨k, hk, rfl⟩ := List.getElem_of_mem hv
          have hk' : k < ((u.cells.toList.zipIdx 0).foldl (fun cs (p : Value × Nat) => cs.setIfInBounds (off + p.2) p.1) vs).size := by simpa using hk
          have e := hfold.2 k
          have e2 : ((u.cells.toList.zipIdx 0).foldl (fun cs (p : Value × Nat) => cs.setIfInBounds (off + p.2) p.1) vs).getD k undef = ((u.cells.toList.zipIdx 0).foldl (fun cs (p : Value × Nat) => cs.setIfInBounds (off + p.2) p.1) vs)[k] := by
            rw [Array.getD_eq_getD_getElem?, Array.getElem?_eq_getElem hk']; rfl
          rw [Array.getElem_toList, ← e2, e]
          split
          · rename_i hc
            have hlt : k - (off + 0) < u.cells.toList.length := by omega
            have := c3 _ (List.getElem_mem hlt)
            have hlt' : k - off < u.cells.size := by simpa using hlt
            simpa [List.getD_eq_getElem?_getD, hlt'] using this
          · exact one_of ho k (by rw [← hfold.1]; exact hk')) h
        refine ⟨vs', ?_, g2, by rw [g3, splice_length (by omega)], g4, g5⟩
        simp only [Instr.fill, hpl]
        rw [if_neg (by simp; omega)]
        rw [show (fun (cs : Array Value) (x : Value × Nat) => match x with | (c, j) => cs.setIfInBounds (off + j) c) = (fun cs (p : Value × Nat) => cs.setIfInBounds (off + p.2) p.1) from rfl, hz]
        exact g1
      · cases h

def splace (fs : List (Nat × Nat × FK)) (j : Nat) : Option (Nat × Nat) :=
  match lget fs j with
  | some (off, sz, _) => some (off, sz)
  | none => none
def ablit (T : Tab) (H : Hp) (t : Nat) (ps : List (Nat × AV)) : Out :=
  match tab T t with
  | some ti => match ti.d with
    | .struct _ fs => match afill (splace fs) ti.zero ps with
      | some cs => .ok (.agg cs) H
      | none => .stop
    | .array _ e => match tab T e with
      | some te => match afill (fun j => some (j * te.size, te.size)) ti.zero ps with
        | some cs => .ok (.agg cs) H
        | none => .stop
      | none => .stop
    | _ => .stop
  | none => .stop

theorem mapM_places (fields : Array Field) (sz : Field → Nat) (w : World) (h : ∀ f ∈ fields.toList, ∃ i, P.info? f.type = some i ∧ i.size = sz f) :
    (fields.mapM fun f => do pure (f.offset, ← Go.sizeOf f.type) : Sem (Array (Nat × Nat))).run P w = .ok (fields.map fun f => (f.offset, sz f)) w := by
  rw [Array.mapM_eq_mapM_toList]
  have key : ∀ l : List Field, (∀ f ∈ l, ∃ i, P.info? f.type = some i ∧ i.size = sz f) → (l.mapM fun f => do pure (f.offset, ← Go.sizeOf f.type) : Sem (List (Nat × Nat))).run P w = .ok (l.map fun f => (f.offset, sz f)) w := by
    intro l
    induction l with
    | nil => intro _; rfl
    | cons f r ih =>
      intro h
      obtain ⟨i, hi, hs⟩ := h f (by simp)
      rw [List.mapM_cons]
      simp only [Sem.run_bind, run_sizeOf' hi, Result.andThen_ok, Sem.run_pure, hs]
      have h3 := ih (fun g hg => h g (by simp [hg]))
      rw [h3]
      rfl
  rw [Sem.run_map, key _ h]
  cases fields
  simp
end
end Vx

namespace Vx
open Go

def nthRow (te : TI) (n : Nat) : List (List AV) := List.replicate n te.zero

section
variable {P : Program} {T : Tab} {N : Nat} {s : Slots} {H : Hp}

theorem parts_rel {ρ : Rho} {μ : Mu} {a : Act} (hs : RelS ρ μ N s a) (ps : List (Nat × Operand)) :
    (ps.map fun p => (p.1, aeval s p.2)).map (·.1) = (ps.map fun p => (p.1, a.eval p.2)).map (·.1) ∧
    ∀ j, j < (ps.map fun p => (p.1, aeval s p.2)).length → RelV ρ μ (((ps.map fun p => (p.1, aeval s p.2)).map (·.2)).getD j .top) (((ps.map fun p => (p.1, a.eval p.2)).map (·.2)).getD j undef) := by
  refine ⟨by simp, fun j hj => ?_⟩
  have hj' : j < ps.length := by simpa using hj
  have := aeval_rel hs ps[j].2
  simpa [List.getD_eq_getElem?_getD, hj'] using this

theorem op_build (hT : TabOk P T) {o : Oper} {t : Nat} {ps : Array (Nat × Operand)} (ho : o.op = .build t ps) {r : AV} {H' : Hp} (h : (ablit T H t (ps.toList.map fun p => (p.1, aeval s p.2))).is r H') : OpOk P N o s H r H' := by
  unfold ablit at h
  split at h
  case h_2 => exact h.elim
  rename_i ti hti
  have htok := hT _ _ hti
  obtain ⟨i, z, hi, hsz, _, hz, hzs, hzl, h1, hzr⟩ := htok.info
  split at h
  case h_3 => exact h.elim
  · rename_i fs hd
    split at h
    case h_2 => exact h.elim
    rename_i cs hcs
    obtain ⟨rfl, rfl⟩ := h
    have hdesc := htok.desc
    rw [hd] at hdesc
    obtain ⟨fields, hu, _, hfl, hf⟩ := hdesc
    have hall : ∀ f ∈ fields.toList, ∃ i, P.info? f.type = some i ∧ i.size = P.cellsOf f.type := by
      intro f hf'
      obtain ⟨j, hj, rfl⟩ := List.getElem_of_mem hf'
      have hj' : j < fields.size := by simpa using hj
      obtain ⟨f, h1, _, _, ⟨i, hi, _⟩, _⟩ := hf j (fs[j]'(by omega)) (by simp)
      have : fields[j] = f := by rw [Array.getElem?_eq_getElem hj'] at h1; exact Option.some.inj h1
      simp only [Array.getElem_toList, this]
      exact ⟨i, hi, by simp [Program.cellsOf, hi]⟩
    refine OpOk.pure fun ρ μ a w hs _ => ?_
    obtain ⟨p1, p2⟩ := parts_rel hs ps.toList
    have hplace : splace fs = fun j => (fields.map fun f => (f.offset, P.cellsOf f.type))[j]? := by
      funext j
      simp only [splace, lget_eq]
      cases hj : fs[j]? with
      | none =>
        have : fields.size ≤ j := by
          rw [hfl]
          exact List.getElem?_eq_none_iff.1 hj
        simp [this]
      | some p =>
        obtain ⟨f, h1, h2, _, ⟨i, hi, hs⟩, _⟩ := hf j p hj
        simp [h1, h2, Program.cellsOf, hi, hs]
    obtain ⟨vs', g1, g2, g3, g4, g5⟩ := fill_sound (ρ := ρ) (μ := μ) _ _ _ _ z.cells _ p1 p2 (by omega) (fun j hj => (hzr j (by omega)).mono (rho0_le _) (mu0_le _)) (all_one h1) hcs
    rw [hplace] at g1
    refine ⟨.agg vs', ?_, .agg _ _ _ _ g2 g4⟩
    have hm := mapM_places fields (fun f => P.cellsOf f.type) w hall
    have e : (ps.map fun (x : Nat × Operand) => (x.1, a.eval x.2)).toList = ps.toList.map fun p => (p.1, a.eval p.2) := by simp
    simp only [execOp, ho, Instr.build, zeroValue, typeInfo, Sem.run_bind, run_program, Result.andThen_ok, hi, Sem.run_pure, hz, run_underlying hu, hm]
    rw [show (ps.map fun x => match x with | (i, x) => (i, a.eval x)).toList = ps.toList.map fun p => (p.1, a.eval p.2) from e, g1]
    rfl
  · rename_i n e hd
    split at h
    case h_2 => exact h.elim
    rename_i te hte
    split at h
    case h_2 => exact h.elim
    rename_i cs hcs
    obtain ⟨rfl, rfl⟩ := h
    have hu := htok.desc
    rw [hd] at hu
    obtain ⟨ie, _, hie, hsze, _⟩ := (hT _ _ hte).info
    refine OpOk.pure fun ρ μ a w hs _ => ?_
    obtain ⟨p1, p2⟩ := parts_rel hs ps.toList
    obtain ⟨vs', g1, g2, g3, g4, g5⟩ := fill_sound (ρ := ρ) (μ := μ) _ _ _ _ z.cells _ p1 p2 (by omega) (fun j hj => (hzr j (by omega)).mono (rho0_le _) (mu0_le _)) (all_one h1) hcs
    refine ⟨.agg vs', ?_, .agg _ _ _ _ g2 g4⟩
    have e : (ps.map fun (x : Nat × Operand) => (x.1, a.eval x.2)).toList = ps.toList.map fun p => (p.1, a.eval p.2) := by simp
    simp only [execOp, ho, Instr.build, zeroValue, typeInfo, Sem.run_bind, run_program, Result.andThen_ok, hi, Sem.run_pure, hz, run_underlying hu, run_sizeOf' hie, hsze]
    rw [show (ps.map fun x => match x with | (i, x) => (i, a.eval x)).toList = ps.toList.map fun p => (p.1, a.eval p.2) from e, g1]
    rfl

/-! ### A slice that is written out -/
def chunks (sz : Nat) : Nat → List AV → List (List AV)
  | 0, _ => []
  | n + 1, cs => cs.take sz :: chunks sz n (cs.drop sz)
theorem chunks_len (sz : Nat) : ∀ (n : Nat) (cs : List AV), (chunks sz n cs).length = n
  | 0, _ => rfl
  | n + 1, cs => by simp [chunks, chunks_len]
theorem chunks_get (sz : Nat) : ∀ (n : Nat) (cs : List AV) (i : Nat), i < n → (chunks sz n cs).getD i [] = (cs.drop (i * sz)).take sz
  | 0, _, _, h => by omega
  | n + 1, cs, 0, _ => by simp [chunks]
  | n + 1, cs, i + 1, h => by
    have := chunks_get sz n (cs.drop sz) i (by omega)
    simp only [chunks, List.getD_cons_succ, this, List.drop_drop]
    congr 2
    rw [Nat.add_mul]; omega

def rep (n : Nat) (l : List AV) : List AV :=
  match n with
  | 0 => []
  | n + 1 => l ++ rep n l
theorem rep_len (l : List AV) : ∀ n, (rep n l).length = n * l.length
  | 0 => by simp [rep]
  | n + 1 => by simp [rep, rep_len l n, Nat.add_mul]; omega
theorem rep_get (l : List AV) : ∀ (n j : Nat), j < n * l.length → (rep n l).getD j .top = l.getD (j % l.length) .top
  | 0, j, h => by simp at h
  | n + 1, j, h => by
    simp only [rep, List.getD_eq_getElem?_getD]
    by_cases hj : j < l.length
    · rw [List.getElem?_append_left hj, Nat.mod_eq_of_lt hj]
    · rw [List.getElem?_append_right (by omega)]
      have h' : (n + 1) * l.length = n * l.length + l.length := Nat.succ_mul ..
      have := rep_get l n (j - l.length) (by omega)
      simp only [List.getD_eq_getElem?_getD] at this
      rw [this, ← Nat.mod_eq_sub_mod (show j ≥ l.length by omega)]

def abuildSlice (T : Tab) (H : Hp) (t len : Nat) (ps : List (Nat × AV)) : Out :=
  match tdOf T t with
  | some (.slice e) => match tab T e with
    | some te => match Nat.ble (len * te.size) 16777216, afill (fun i => some (i * te.size, te.size)) (rep len te.zero) ps with
      | true, some cs => .ok (.sl H.length 0 len) (app H (some ⟨e, te.size, .lit (chunks te.size len cs)⟩))
      | _, _ => .stop
    | none => .stop
  | _ => .stop

theorem zcells_one (z : Array Value) (n : Nat) (h : ∀ v ∈ z.toList, v.oneCell' = true) : ∀ v ∈ ((Array.range n).map fun j => z[j % z.size]!).toList, v.oneCell' = true := by
  intro v hv
  simp only [Array.toList_map, List.mem_map] at hv
  obtain ⟨j, _, rfl⟩ := hv
  by_cases h0 : z.size = 0
  · simp [h0]; rfl
  · have hm : j % z.size < z.size := Nat.mod_lt _ (by omega)
    rw [getElem!_pos z _ hm]
    exact h _ (by simp)
theorem map_range0 (g : Nat → Value) : (Array.range 0).map g = #[] := Array.eq_empty_of_size_eq_zero (by rw [Array.size_map, Array.size_range])
theorem run_buildSlice {t e len : Nat} {i : TypeInfo} {z : Value} (hu : P.underlying t = some (.slice e)) (hi : P.info? e = some i) (hz : i.zero = some z) (hb : ¬ (16777216 < len * i.size)) {qs : Array (Nat × Value)} {cells : Array Value}
    (hf : Instr.fill (fun k => some (k * i.size, i.size)) ((Array.range (len * i.size)).map fun j => z.cells[j % z.cells.size]!) qs.toList = some cells) (w : World) :
    (Instr.buildSlice t len qs).run P w = .ok (.slice (some ⟨w.heap.size, 0, none⟩) len len) (w.alloc (.cells cells e)) := by
  by_cases h0 : len * i.size = 0
  · rw [h0] at hf
    rw [map_range0] at hf
    have h0' : len = 0 ∨ i.size = 0 := Nat.mul_eq_zero.1 h0
    simp [Instr.buildSlice, run_underlying hu, run_sizeOf' hi, h0', h0, map_range0, hf, newRow]
  · have h0' : ¬ (len = 0 ∨ i.size = 0) := fun h => h0 (Nat.mul_eq_zero.2 h)
    simp [Instr.buildSlice, run_underlying hu, run_sizeOf' hi, h0', h0, hb, hf, newRow, zeroValue, typeInfo, hi, hz]

theorem op_buildSlice (hT : TabOk P T) {o : Oper} {t len : Nat} {ps : Array (Nat × Operand)} (ho : o.op = .buildSlice t len ps) {r : AV} {H' : Hp} (h : (abuildSlice T H t len (ps.toList.map fun p => (p.1, aeval s p.2))).is r H') : OpOk P N o s H r H' := by
  unfold abuildSlice at h
  split at h
  case h_2 => exact h.elim
  rename_i e hd
  have hu : P.underlying t = some (.slice e) := Tok.td hT hd
  split at h
  case h_2 => exact h.elim
  rename_i te hte
  have htok := hT _ _ hte
  obtain ⟨i, z, hi, hsz, _, hz, hzs, hzl, h1, hzr⟩ := htok.info
  have hpos := htok.pos
  split at h
  case h_2 => exact h.elim
  rename_i cs hb hcs
  have hble := Nat.le_of_ble_eq_true hb
  obtain ⟨rfl, rfl⟩ := h
  intro C ρ μ a w hs hst
  obtain ⟨p1, p2⟩ := parts_rel hs ps.toList
  have hrl : (rep len te.zero).length = len * te.size := by rw [rep_len, hzl]
  obtain ⟨vs', g1, g2, g3, g4, g5⟩ := fill_sound (ρ := ρ) (μ := μ) _ _ _ _ ((Array.range (len * te.size)).map fun j => z.cells[j % z.cells.size]!) _ p1 p2 (by simp [hrl]) (fun j hj => by
    rw [hrl] at hj
    rw [rep_get _ _ _ (by rw [hzl]; exact hj), hzl]
    have hm : j % te.size < te.size := Nat.mod_lt _ hpos
    have := (hzr (j % te.size) hm).mono (rho0_le ρ) (mu0_le μ)
    have hm' : j % te.size < z.cells.size := by omega
    have e1 : z.cells[j % te.size]! = z.cells.getD (j % te.size) undef := by simp [getElem!_pos z.cells (j % te.size) hm', hm']
    simp only [Array.getD_eq_getD_getElem?, Array.getElem?_map, Array.getElem?_range, hj, if_true, Option.map_some, Option.getD_some, hzs, e1]
    simpa using this) (zcells_one z.cells _ (all_one h1)) hcs
  have hcl : cs.length = len * te.size := by rw [g3, hrl]
  have hmax : len ≤ maxLen := by
    have : len ≤ len * te.size := Nat.le_mul_of_pos_right _ hpos
    simp only [maxLen]; omega
  have hst' := hst.alloc ⟨e, te.size, .lit (chunks te.size len cs)⟩ vs' e te.size len rfl rfl hpos (by omega) (by simp [Cont.n, chunks_len]) hmax (fun i hi => by
    have hi' : i < len := by simpa [Cont.n, chunks_len] using hi
    simp only [Cont.f]
    rw [chunks_get _ _ _ _ hi', List.length_take, List.length_drop, hcl]
    have : (i + 1) * te.size ≤ len * te.size := Nat.mul_le_mul_right _ (by omega)
    rw [Nat.add_mul] at this
    omega) (fun i j hi hj => by
    have hi' : i < len := by simpa [Cont.n, chunks_len] using hi
    have : (i + 1) * te.size ≤ len * te.size := Nat.mul_le_mul_right _ (by omega)
    rw [Nat.add_mul] at this
    have hg := g4 (i * te.size + j) (by omega)
    simp only [Cont.f, Cont.rho]
    rw [chunks_get _ _ _ _ hi']
    simpa [List.getD_eq_getElem?_getD, List.getElem?_take, List.getElem?_drop, hj] using hg) (one_of g5)
  have hrel := RelV.sl (upd ρ H.length ⟨w.heap.size, e, te.size, len⟩) μ H.length 0 len len 0 ⟨w.heap.size, e, te.size, len⟩ (upd_same ..) (by simp) (Nat.le_refl _) (.inr (by simp))
  refine ⟨.slice (some ⟨w.heap.size, 0, none⟩) len len, w.alloc (.cells vs' e), _, μ, .inl ?_, hrel, upd_le _ hst.rep.new_none, MuLe.refl _, by rw [app_eq]; exact hst'⟩
  have e' : (ps.map fun (x : Nat × Operand) => (x.1, a.eval x.2)).toList = ps.toList.map fun p => (p.1, a.eval p.2) := by simp
  have hnb : ¬ (16777216 < len * te.size) := by omega
  have hrun := run_buildSlice (P := P) hu hi hz (len := len) (qs := ps.map fun (x : Nat × Operand) => (x.1, a.eval x.2)) (cells := vs') (by rw [hsz]; exact hnb) (by rw [e', hsz]; exact g1) w
  simp only [execOp, ho, Sem.run_bind]
  rw [show (ps.map fun x => match x with | (i, x) => (i, a.eval x)) = ps.map fun (x : Nat × Operand) => (x.1, a.eval x.2) from rfl, hrun]
  rfl

end
end Vx

namespace Vx
open Go

/-! ## make, append, slices of slices -/
def amakeSlice (T : Tab) (O : Ops) (H : Hp) (t : Nat) (l c : AV) : Out :=
  match tdOf T t, l, c with
  | some (.slice e), .int .i64 n, .int .i64 m => match tab T e with
    | some te => .need (O.leb n m) (.need (O.fit (O.toN m) te.bytes) (.ok (.sl H.length 0 (O.toN n)) (app H (some ⟨e, te.size, .arr (O.toN n) fun _ => te.zero⟩))))
    | none => .stop
  | _, _, _ => .stop

/-- What is appended: how many elements, and their rows. -/
def asrc (O : Ops) (H : Hp) (sz : Nat) (x : AV) (k : Nat → (Nat → List AV) → Out) : Out :=
  match x with
  | .nil .slice => k 0 (fun _ => [])
  | .rows sz' m g => match Nat.beq sz sz' with | true => k m g | false => .stop
  | .sl o i m => match hget H o with
    | some ob => match Nat.beq sz ob.sz with
      | true => match ob.c with
        | .lit rows => match rows.all (AV.bnd.bndL 0) with
          | true => match Nat.ble (i + m) rows.length with | true => k m (fun j => (rows.drop i).getD j []) | false => .stop
          | false => .stop
        | .arr n f => .need (O.leN (O.addN i m) n) (k m (fun j => f (O.addN i j)))
      | false => .stop
    | none => .stop
  | _ => .stop

def aappend (T : Tab) (O : Ops) (H : Hp) (t : Nat) (x y : AV) : Out :=
  match tdOf T t with
  | some (.slice e) => match tab T e with
    | some te => asrc O H te.size y fun m g =>
      match x with
      | .nil .slice => .need (O.fit m te.bytes) (.ok (.sl H.length 0 m) (app H (some ⟨e, te.size, .arr m g⟩)))
      | .sl o 0 n => match hget H o with
        | some ob => match Nat.beq te.size ob.sz, Nat.beq e ob.e with
          | true, true => match ob.c with
            | .lit rows => match rows.all (AV.bnd.bndL 0), Nat.ble n rows.length with
              | true, true => .need (O.fit (O.addN n m) te.bytes) (.ok (.sl H.length 0 (O.addN n m)) (app (setO H o none) (some ⟨e, te.size, .arr (O.addN n m) fun j => match O.ltB j n with | true => rows.getD j [] | false => g (O.subN j n)⟩)))
              | _, _ => .stop
            | .arr n' f => .need (O.leN n n') (.need (O.fit (O.addN n m) te.bytes) (.ok (.sl H.length 0 (O.addN n m)) (app (setO H o none) (some ⟨e, te.size, .arr (O.addN n m) fun j => match O.ltB j n with | true => f j | false => g (O.subN j n)⟩))))
          | _, _ => .stop
        | none => .stop
      | _ => .stop
    | none => .stop
  | _ => .stop

/-- The bounds of a slice of a slice of n elements. -/
def abounds (O : Ops) (n : Nat) (lo hi : Option AV) (k : Option Nat → Nat → Out) : Out :=
  match lo, hi with
  | none, none => k none n
  | some (.int _ l), none => .need (O.leb l (O.ofN n)) (k (some (O.toN l)) (O.subN n (O.toN l)))
  | none, some (.int _ h) => .need (O.leb h (O.ofN n)) (k none (O.toN h))
  | some (.int _ l), some (.int _ h) => .need (O.leb l h) (.need (O.leb h (O.ofN n)) (k (some (O.toN l)) (O.subN (O.toN h) (O.toN l))))
  | _, _ => .stop
def shiftF (O : Ops) (f : Nat → List AV) : Option Nat → Nat → List AV
  | none => f
  | some l => fun j => f (O.addN l j)
def shiftN (O : Ops) (i : Nat) : Option Nat → Nat
  | none => i
  | some l => O.addN i l
def subS (O : Ops) (b : ByteArray) (m : Nat) : Option Nat → ByteArray
  | none => O.ssub b 0 m
  | some l => O.ssub b l (O.addN l m)
def aslice (T : Tab) (O : Ops) (H : Hp) (t : Nat) (x : AV) (lo hi : Option AV) : Out :=
  match tdOf T t, x with
  | some (.slice e), .rows sz n f => match tab T e with
    | some te => match Nat.beq sz te.size with
      | true => abounds O n lo hi fun l m => .ok (.rows sz m (shiftF O f l)) H
      | false => .stop
    | none => .stop
  | some (.slice e), .sl o i n => match tab T e, hget H o with
    | some te, some ob => match Nat.beq ob.sz te.size with
      | true => abounds O n lo hi fun l m => .ok (.sl o (shiftN O i l) m) H
      | false => .stop
    | _, _ => .stop
  | some .str, .str b => abounds O (O.ssz b) lo hi fun l m => .ok (.str (subS O b m l)) H
  | _, _ => .stop
end Vx
namespace Vx
open Go
section
variable {P : Program} {T : Tab} {N : Nat} {s : Slots} {H : Hp}

theorem wrap_id {n : Int} (h0 : 0 ≤ n) (h : n ≤ maxLen) : IntKind.i64.wrap n = n := by
  unfold maxLen at h
  exact IntWalk.i64_in n (by omega)

theorem zcells_size (z : Array Value) (n : Nat) : ((Array.range n).map fun j => z[j % z.size]!).size = n := by simp
theorem zcells_get (z : Array Value) (n k sz i j : Nat) (hz : z.size = sz) (hj : j < sz) (hn : i * sz + j < n) : ((Array.range n).map fun j => z[j % z.size]!).getD (i * sz + j) undef = z.getD j undef := by
  have hm : (i * sz + j) % z.size = j := by rw [hz, Nat.mul_comm, Nat.mul_add_mod, Nat.mod_eq_of_lt hj]
  have hj' : j < z.size := by omega
  simp only [Array.getD_eq_getD_getElem?, Array.getElem?_map, Array.getElem?_range, hn, if_true, Option.map_some, Option.getD_some, hm]
  simp [getElem!_pos z j hj', hj']

theorem run_makeSlice {t e : Nat} {i : TypeInfo} {z : Value} (hu : P.underlying t = some (.slice e)) (hi : P.info? e = some i) (hz : i.zero = some z) {n m : Int} (h0 : 0 ≤ n) (hnm : n ≤ m) (hm : m ≤ maxLen) (hb : m.toNat * i.bytes ≤ 140737488355328) (w : World) :
    (Instr.makeSlice t (.int .i64 n) (.int .i64 m)).run P w = .ok (.slice (some ⟨w.heap.size, 0, none⟩) n.toNat m.toNat) (w.alloc (.cells ((Array.range (m.toNat * i.size)).map fun j => z.cells[j % z.cells.size]!) e)) := by
  have hw1 := wrap_id h0 (by omega)
  have hw2 := wrap_id (show 0 ≤ m by omega) hm
  have hb' : ¬ (281474976710656 < (i.bytes : Int) * m) := by
    have e1 : ((m.toNat * i.bytes : Nat) : Int) = (i.bytes : Int) * m := by
      rw [Int.natCast_mul, Int.toNat_of_nonneg (by omega), Int.mul_comm]
    omega
  have hn1 : ¬ m < 0 := by omega
  have hn2 : ¬ n < 0 := by omega
  have hn3 : ¬ m < n := by omega
  by_cases h0 : m.toNat * i.size = 0
  · have h0' : m ≤ 0 ∨ i.size = 0 := by
      rcases Nat.mul_eq_zero.1 h0 with h | h
      · left; omega
      · exact .inr h
    simp [Instr.makeSlice, run_underlying hu, asInt, asIntOf, typeInfo, hi, hw1, hw2, hn1, hn2, hn3, hb', run_sizeOf' hi, h0, newRow, map_range0, h0']
  · have h0' : ¬ (m ≤ 0 ∨ i.size = 0) := fun h => h0 (Nat.mul_eq_zero.2 (by rcases h with h | h; left; omega; exact .inr h))
    simp [Instr.makeSlice, run_underlying hu, asInt, asIntOf, typeInfo, hi, hw1, hw2, hn1, hn2, hn3, hb', run_sizeOf' hi, h0, newRow, zeroValue, hz, h0']

theorem op_makeSlice (hT : TabOk P T) {o : Oper} {t : Nat} {x y : Operand} (ho : o.op = .makeSlice t x y) {r : AV} {H' : Hp} (h : (amakeSlice T std H t (aeval s x) (aeval s y)).is r H') : OpOk P N o s H r H' := by
  unfold amakeSlice at h
  split at h
  case h_2 => exact h.elim
  rename_i e n m hd hx hy
  have hu : P.underlying t = some (.slice e) := Tok.td hT hd
  split at h
  case h_2 => exact h.elim
  rename_i te hte
  have htok := hT _ _ hte
  obtain ⟨i, z, hi, hsz, hby, hz, hzs, hzl, h1, hzr⟩ := htok.info
  have hpos := htok.pos
  obtain ⟨⟨h0, hnm⟩, ⟨hb, hmx⟩, rfl, rfl⟩ := h
  simp only [std] at hb hmx
  intro C ρ μ a w hs hst
  have h2 := aeval_rel hs x
  have h3 := aeval_rel hs y
  rw [hx] at h2
  rw [hy] at h3
  have hmx' : m ≤ maxLen := by unfold maxLen at hmx ⊢; omega
  have hrun := run_makeSlice hu hi hz h0 hnm hmx' (by rw [hby]; exact hb) w
  have hst' := hst.alloc ⟨e, te.size, .arr n.toNat fun _ => te.zero⟩ ((Array.range (m.toNat * i.size)).map fun j => z.cells[j % z.cells.size]!) e te.size m.toNat rfl rfl hpos (by simp [hsz]) (by simp only [Cont.n]; omega) hmx (fun k hk => hzl) (fun k j hk hj => by
    simp only [Cont.n] at hk
    have hk' : k * te.size + j < m.toNat * i.size := by
      have : (k + 1) * te.size ≤ m.toNat * te.size := Nat.mul_le_mul_right _ (by omega)
      rw [Nat.add_mul] at this
      rw [hsz]
      omega
    rw [zcells_get _ _ 0 te.size k j hzs hj hk']
    exact (hzr j hj).mono (rho0_le _) (mu0_le _)) (one_of (zcells_one _ _ (all_one h1)))
  have hrel := RelV.sl (upd ρ H.length ⟨w.heap.size, e, te.size, m.toNat⟩) μ H.length 0 n.toNat m.toNat 0 ⟨w.heap.size, e, te.size, m.toNat⟩ (upd_same ..) (by simp) (by omega) (.inr (by simp))
  refine ⟨_, _, _, μ, .inl ?_, hrel, upd_le _ hst.rep.new_none, MuLe.refl _, by rw [app_eq]; exact hst'⟩
  simp [execOp, ho, h2.int_inv, h3.int_inv, hrun]

/-! #### append -/
structure Src (ρ : Rho) (μ : Mu) (w : World) (v : Value) (sz m : Nat) (g : Nat → List AV) : Prop where
  shape : ∃ a c, v = .slice a m c ∧ ∃ news : List Value, news.length = m * sz ∧ (∀ u ∈ news, u.oneCell' = true) ∧
    (a = none → news = []) ∧ (∀ ad, a = some ad → ∀ j u, news[j]? = some u → w.cell? (ad.add j) = some u) ∧
    (∀ i, i < m → (g i).length = sz) ∧ ∀ i j, i < m → j < sz → RelV rho0 μ ((g i).getD j .top) (news.getD (i * sz + j) undef)

end
end Vx

namespace Vx
open Go
section
variable {P : Program} {T : Tab} {N : Nat} {s : Slots} {H : Hp}

theorem divmod {sz k : Nat} (h : 0 < sz) : k = k / sz * sz + k % sz ∧ k % sz < sz := ⟨by rw [Nat.mul_comm]; exact (Nat.div_add_mod k sz).symm, Nat.mod_lt _ h⟩
theorem div_lt {sz m k : Nat} (hk : k < m * sz) : k / sz < m := Nat.div_lt_of_lt_mul (by rwa [Nat.mul_comm] at hk)
theorem idx_div {sz i j : Nat} (hj : j < sz) : (i * sz + j) / sz = i ∧ (i * sz + j) % sz = j := by
  rw [Nat.mul_comm]
  exact ⟨by rw [Nat.mul_add_div (by omega), Nat.div_eq_of_lt hj]; omega, by rw [Nat.mul_add_mod, Nat.mod_eq_of_lt hj]⟩
theorem idx_lt {sz m i j : Nat} (hi : i < m) (hj : j < sz) : i * sz + j < m * sz := by
  have : (i + 1) * sz ≤ m * sz := Nat.mul_le_mul_right _ hi
  rw [Nat.add_mul] at this
  omega

theorem news_get {n : Nat} (q : Nat → Value) {k : Nat} {u : Value} (h : ((List.range n).map q)[k]? = some u) : k < n ∧ u = q k := by
  rw [List.getElem?_map] at h
  cases hr : (List.range n)[k]? with
  | none => rw [hr] at h; simp at h
  | some x =>
    rw [hr] at h
    have hk := (List.getElem?_eq_some_iff.1 hr).1
    simp at hk
    rw [List.getElem?_range hk] at hr
    injection hr with hr
    subst hr
    simp at h
    exact ⟨hk, h.symm⟩
theorem news_getD {n k : Nat} (q : Nat → Value) (h : k < n) : ((List.range n).map q).getD k undef = q k := by simp [List.getD_eq_getElem?_getD, h]

theorem ObAt.imm {ρ : Rho} {μ : Mu} {w : World} {o : Nat} {ob : Ob} {L : Loc} {cs : Array Value} (h : ObAt ρ μ w o ob L cs) (hb : ∀ rows, ob.c = .lit rows → rows.all (AV.bnd.bndL 0) = true) {i j : Nat} (hi : i < ob.c.n) (hj : j < L.sz) :
    RelV rho0 μ ((ob.c.f i).getD j .top) (cs.getD (i * L.sz + j) undef) := by
  have hr := h.rel i j hi hj
  have hl := h.len i hi
  cases hc : ob.c with
  | arr n f => rw [hc] at hr; exact hr
  | lit rows =>
    rw [hc] at hr hi hl
    have hrow : AV.bnd.bndL 0 (rows.getD i []) = true := by
      have hi' : i < rows.length := hi
      have := List.all_eq_true.1 (hb rows hc) rows[i] (List.getElem_mem hi')
      simpa [List.getD_eq_getElem?_getD, hi'] using this
    have hlen : j < (rows.getD i []).length := by
      have : (rows.getD i []).length = L.sz := hl
      omega
    exact hr.to (bndL_get hrow hlen) (fun o ho => by omega)

theorem asrc_sound {sz : Nat} (hsz : 0 < sz) {x : AV} {k : Nat → (Nat → List AV) → Out} {K : AV → Hp → Prop} (h : (asrc std H sz x k).sat K) :
    ∃ m g, (k m g).sat K ∧ ∀ ρ μ w v, RelV ρ μ x v → Rep ρ μ H w → Src ρ μ w v sz m g := by
  unfold asrc at h
  split at h
  case h_4 => exact h.elim
  · refine ⟨0, _, h, fun ρ μ w v hv _ => ?_⟩
    cases hv
    exact ⟨none, 0, rfl, [], by simp, by simp, fun _ => rfl, (fun ad e => by cases e), (fun i hi => by omega), (fun i j hi => by omega)⟩
  · rename_i sz' m g
    split at h
    case h_2 => exact h.elim
    rename_i hb
    have := Nat.eq_of_beq_eq_true hb
    subst this
    refine ⟨m, g, h, fun ρ μ w v hv hrep => ?_⟩
    cases hv with
    | rows _ _ _ _ a c _ b o ws hlen hsz0 hrel hmem hc hm =>
      refine ⟨a, c, rfl, (List.range (m * sz)).map (fun k => ws (k / sz) (k % sz)), by simp, ?_, ?_, ?_, hlen, ?_⟩
      · intro u hu
        obtain ⟨q, hq, rfl⟩ := List.mem_map.1 hu
        have hq' := List.mem_range.1 hq
        exact (hrep.mem _ _ _ (hmem (q / sz) (q % sz) (div_lt hq') (Nat.mod_lt _ hsz)).2).2
      · intro ha
        rcases Nat.eq_zero_or_pos m with h0 | h0
        · subst h0; simp
        · have := (hmem 0 0 h0 hsz).1
          rw [ha] at this; cases this
      · intro ad had j u hu
        obtain ⟨hj, rfl⟩ := news_get _ hu
        have hm1 := hmem (j / sz) (j % sz) (div_lt hj) (Nat.mod_lt _ hsz)
        rw [had] at hm1
        injection hm1.1 with e
        subst e
        have hdm := divmod (k := j) hsz
        rw [add_at]
        have := (hrep.mem _ _ _ hm1.2).1
        rwa [Nat.add_assoc, ← hdm.1] at this
      · intro i j hi hj
        rw [news_getD _ (idx_lt hi hj), (idx_div hj).1, (idx_div hj).2]
        exact hrel i j hi hj
  · rename_i o i m
    split at h
    case h_2 => exact h.elim
    rename_i ob hob
    split at h
    case h_2 => exact h.elim
    rename_i hbq
    have hszq := Nat.eq_of_beq_eq_true hbq
    have key : ∀ (g : Nat → List AV), (∀ rows, ob.c = .lit rows → rows.all (AV.bnd.bndL 0) = true) → i + m ≤ ob.c.n → (∀ j, j < m → g j = ob.c.f (i + j)) → ∀ ρ μ w v, RelV ρ μ (.sl o i m) v → Rep ρ μ H w → Src ρ μ w v sz m g := by
      intro g hb hle hg ρ μ w v hv hrep
      cases hv with
      | sl _ _ _ _ _ c xo L hL hc hn hxo =>
        obtain ⟨L', cs, hat⟩ := hrep.at_ (hget_some hob) hL
        obtain rfl : L' = L := Option.some.inj (hat.loc.symm.trans hL)
        have hsL : sz = L'.sz := hszq.trans hat.sz
        subst hsL
        have hlt : ∀ k, k < m * L'.sz → i * L'.sz + k < cs.size := fun k hk => by
          rw [hat.size]
          have h1 : (i + m) * L'.sz ≤ L'.tot * L'.sz := Nat.mul_le_mul_right _ (by have := hat.n; omega)
          rw [Nat.add_mul] at h1
          omega
        refine ⟨_, c, rfl, (List.range (m * L'.sz)).map (fun k => cs.getD (i * L'.sz + k) undef), by simp, ?_, (fun e => by cases e), ?_, (fun k hk => by rw [hg k hk]; exact hat.len _ (by omega)), ?_⟩
        · intro u hu
          obtain ⟨q, hq, rfl⟩ := List.mem_map.1 hu
          exact hat.one _ (hlt q (List.mem_range.1 hq))
        · intro ad had j u hu
          obtain ⟨hj, rfl⟩ := news_get _ hu
          injection had with had
          subst had
          have hm0 : 0 < m := by rcases Nat.eq_zero_or_pos m with h0 | h0; subst h0; simp at hj; exact h0
          have hx : xo = i * L'.sz := by rcases hxo with h0 | h0; omega; exact h0
          rw [add_at, hx, cell_row hat.heap]
          simp [hlt j hj]
        · intro p q hp hq
          rw [news_getD _ (idx_lt hp hq), hg p hp, show i * L'.sz + (p * L'.sz + q) = (i + p) * L'.sz + q by rw [Nat.add_mul]; omega]
          exact hat.imm hb (by omega) hq
      | slNil => exact ⟨none, 0, rfl, [], by simp, by simp, fun _ => rfl, (fun ad e => by cases e), (fun i hi => by omega), (fun i j hi => by omega)⟩
    split at h
    · rename_i rows hc
      split at h
      case h_2 => exact h.elim
      rename_i hall
      split at h
      case h_2 => exact h.elim
      rename_i hble
      have hle := Nat.le_of_ble_eq_true hble
      exact ⟨m, _, h, key _ (fun r hr => by rw [hc] at hr; injection hr with hr; rw [← hr]; exact hall) (by rw [hc]; exact hle) (fun j hj => by simp [hc, Cont.f, List.getD_eq_getElem?_getD, List.getElem?_drop])⟩
    · rename_i n f hc
      obtain ⟨hle, h⟩ := h
      exact ⟨m, _, h, key _ (fun r hr => by rw [hc] at hr; cases hr) (by rw [hc]; exact hle) (fun j hj => by rw [hc]; rfl)⟩

theorem run_append_zero {t ty e : Nat} {i : TypeInfo} (ht : P.underlying t = some (.slice e)) (hi : P.info? e = some i) (b : Option Addr) (n cap c : Nat) (a : Option Addr) (h : n ≤ cap) (w : World) :
    (Builtin.append_ #[t, t] ty #[.slice b n cap, .slice a 0 c]).run P w = .ok (.slice b n cap) w := by
  cases a <;> cases b <;> simp [Builtin.append_, run_underlying ht, Go.sizeOf, typeInfo, hi, Builtin.lenOf, h, Builtin.firstCells, loadCells, loadCellsFrom, storeCells]

theorem zcells_one' (z : Array Value) (n : Nat) (h : ∀ v ∈ z.toList, v.oneCell' = true) : ∀ v ∈ (Builtin.zeroCells z n).toList, v.oneCell' = true := by
  intro v hv
  simp only [Builtin.zeroCells, Array.toList_map, List.mem_map] at hv
  obtain ⟨j, hj, rfl⟩ := hv
  have hjl : j < n * z.size := by simpa using hj
  have hz : 0 < z.size := by
    rcases Nat.eq_zero_or_pos z.size with h0 | h0
    · rw [h0] at hjl; simp at hjl
    · exact h0
  have hm : j % z.size < z.size := Nat.mod_lt _ hz
  rw [getElem!_pos z _ hm]
  exact h _ (by simp)

/-- A new array behind an append. -/
theorem St.grow {C : Ctx} {ρ : Rho} {μ : Mu} {w : World} (h : St C ρ μ H w) {e : Nat} {te : TI} (htok : Tok P e te) {i : TypeInfo} {z : Value} (hi : P.info? e = some i) (hz : i.zero = some z) (hszi : i.size = te.size)
    (olds news : List Value) (n m q : Nat) (f : Nat → List AV) (ho : olds.length = n * te.size) (hn : news.length = m * te.size) (hq : n + m ≤ q) (hqm : q ≤ maxLen)
    (hone : ∀ u ∈ olds, u.oneCell' = true) (hone' : ∀ u ∈ news, u.oneCell' = true)
    (hlen : ∀ k, k < n + m → (f k).length = te.size)
    (hr1 : ∀ k j, k < n → j < te.size → RelV rho0 μ ((f k).getD j .top) (olds.getD (k * te.size + j) undef))
    (hr2 : ∀ k j, k < m → j < te.size → RelV rho0 μ ((f (n + k)).getD j .top) (news.getD (k * te.size + j) undef)) :
    ∃ ρ', RelV ρ' μ (.sl H.length 0 (n + m)) (.slice (some ⟨w.heap.size, 0, none⟩) (n + m) q) ∧ RhoLe ρ ρ' ∧
      St C ρ' μ (app H (some ⟨e, te.size, .arr (n + m) f⟩)) (w.drew.alloc (.cells (olds.toArray ++ news.toArray ++ Builtin.zeroCells z.cells (q - (n + m))) e)) := by
  have hpos := htok.pos
  obtain ⟨i', z', hi', hsz, _, hz', hzs, hzl, h1, hzr⟩ := htok.info
  obtain rfl : i' = i := Option.some.inj (hi'.symm.trans hi)
  obtain rfl : z' = z := Option.some.inj (hz'.symm.trans hz)
  have hst' := h.drew.alloc ⟨e, te.size, .arr (n + m) f⟩ (olds.toArray ++ news.toArray ++ Builtin.zeroCells z'.cells (q - (n + m))) e te.size q rfl rfl hpos (by
      simp only [Array.size_append, List.size_toArray, size_zeroCells, hzs, ho, hn, ← Nat.add_mul]
      congr 1
      omega) hq hqm hlen (fun k j hk hj => by
      simp only [Cont.n] at hk
      simp only [Cont.f, Cont.rho]
      by_cases hkn : k < n
      · have := hr1 k j hkn hj
        have hlt : k * te.size + j < olds.length := by rw [ho]; exact idx_lt hkn hj
        have e1 : (olds.toArray ++ news.toArray ++ Builtin.zeroCells z'.cells (q - (n + m))).getD (k * te.size + j) undef = olds.getD (k * te.size + j) undef := by
          simp only [Array.getD_eq_getD_getElem?, List.getD_eq_getElem?_getD]
          rw [Array.getElem?_append_left (by simp; omega), Array.getElem?_append_left (by simpa using hlt)]
          simp
        rw [e1]; exact this
      · obtain ⟨d, rfl⟩ : ∃ d, k = n + d := ⟨k - n, by omega⟩
        have := hr2 d j (by omega) hj
        have hlt : d * te.size + j < news.length := by rw [hn]; exact idx_lt (by omega) hj
        have e1 : (olds.toArray ++ news.toArray ++ Builtin.zeroCells z'.cells (q - (n + m))).getD ((n + d) * te.size + j) undef = news.getD (d * te.size + j) undef := by
          have e2 : (n + d) * te.size + j = olds.length + (d * te.size + j) := by rw [ho, Nat.add_mul]; omega
          simp only [Array.getD_eq_getD_getElem?, List.getD_eq_getElem?_getD]
          rw [e2, Array.getElem?_append_left (by simp; omega), Array.getElem?_append_right (by simp)]
          simp
        rw [e1]; exact this) (one_of (by
      intro v hv
      simp only [Array.toList_append, List.mem_append] at hv
      rcases hv with (hv | hv) | hv
      · exact hone v hv
      · exact hone' v hv
      · exact zcells_one' _ _ (all_one h1) v hv))
  refine ⟨_, ?_, upd_le _ h.rep.new_none, by rw [app_eq]; exact hst'⟩
  have := RelV.sl (upd ρ H.length ⟨w.drew.heap.size, e, te.size, q⟩) μ H.length 0 (n + m) q 0 ⟨w.drew.heap.size, e, te.size, q⟩ (upd_same ..) (by simp) hq (.inr (by simp))
  exact this

end
end Vx

namespace Vx
open Go
section
variable {P : Program} {T : Tab} {N : Nat} {s : Slots} {H : Hp}

/-- Behind an append to nothing. -/
theorem append_nil {t e : Nat} {te : TI} (hu : P.underlying t = some (.slice e)) (htok : Tok P e te) {C : Ctx} {ρ : Rho} {μ : Mu} {w : World} (hst : St C ρ μ H w) {m : Nat} {u : Value} {g : Nat → List AV} (hsrc : Src ρ μ w u te.size m g)
    (hfit : m * te.bytes ≤ 140737488355328) (hmx : m ≤ maxLen) (ty : Nat) :
    ∃ v' w' ρ', (Builtin.append_ #[t, t] ty #[.slice none 0 0, u]).run P w = .ok v' w' ∧ RelV ρ' μ (.sl H.length 0 m) v' ∧ RhoLe ρ ρ' ∧ St C ρ' μ (app H (some ⟨e, te.size, .arr m g⟩)) w' := by
  obtain ⟨i, z, hi, hszi, hby, hz, hzs, hzl, h1, hzr⟩ := htok.info
  have hpos := htok.pos
  obtain ⟨⟨ad, c', rfl, news, hnl, hno, hnn, hnc, hgl, hgr⟩⟩ := hsrc
  by_cases hm0 : m = 0
  · subst hm0
    refine ⟨_, w, ρ, run_append_zero (P := P) hu hi none 0 0 c' ad (Nat.le_refl _) w, .slNil .., RhoLe.refl _, by rw [app_eq]; exact hst.phantom _ rfl⟩
  · have hnews : news ≠ [] := by
      intro e
      have : 0 < m * te.size := Nat.mul_pos (by omega) hpos
      rw [e] at hnl
      simp at hnl
      omega
    obtain ⟨ad, rfl⟩ : ∃ b, ad = some b := by
      cases ad with
      | none => exact absurd (hnn rfl) hnews
      | some b => exact ⟨b, rfl⟩
    have hr := run_append_nil (P := P) w t ty e i z hu hi hz ad m c' news (by rw [hnl, hszi]) (hnc ad rfl) (by omega) (by unfold maxLen at hmx; omega) (by rw [hby]; omega)
    have hge := grownCap_ge w m 0 e
    have hgm := grownCap_le_maxLen w m 0 e hmx
    obtain ⟨ρ', r1, r2, r3⟩ := hst.grow (P := P) htok hi hz hszi [] news 0 m (grownCap w m 0 e) g (by simp) hnl (by omega) hgm (by simp) hno (by simpa using hgl) (fun k j hk => by omega) (by simpa using hgr)
    simp only [Nat.zero_add] at r1 r3
    exact ⟨_, _, ρ', hr, r1, r2, by simpa using r3⟩

/-- Behind an append to an object that is there. -/
theorem append_obj {t e : Nat} {te : TI} (hu : P.underlying t = some (.slice e)) (htok : Tok P e te) {C : Ctx} {ρ : Rho} {μ : Mu} {w : World} (hst : St C ρ μ H w) {o n m : Nat} {ob : Ob} (hob : H[o]? = some (some ob))
    (hsz : te.size = ob.sz) (he : e = ob.e) (hb : ∀ rows, ob.c = .lit rows → rows.all (AV.bnd.bndL 0) = true) (hle : n ≤ ob.c.n) {v u : Value} (hv : RelV ρ μ (.sl o 0 n) v) {g : Nat → List AV} (hsrc : Src ρ μ w u te.size m g)
    (hfit : (n + m) * te.bytes ≤ 140737488355328) (hmx : n + m ≤ maxLen) {f : Nat → List AV} (hf1 : ∀ k, k < n → f k = ob.c.f k) (hf2 : ∀ k, f (n + k) = g k) (ty : Nat) :
    ∃ v' w' ρ', (Builtin.append_ #[t, t] ty #[v, u]).run P w = .ok v' w' ∧ RelV ρ' μ (.sl H.length 0 (n + m)) v' ∧ RhoLe ρ ρ' ∧ St C ρ' μ (app (setO H o none) (some ⟨e, te.size, .arr (n + m) f⟩)) w' := by
  obtain ⟨i, z, hi, hszi, hby, hz, hzs, hzl, h1, hzr⟩ := htok.info
  have hpos := htok.pos
  cases hv with
  | slNil =>
    have hk := hst.kill o
    obtain ⟨v', w', ρ', r1, r2, r3, r4⟩ := append_nil (P := P) hu htok hk (m := m) (g := f) (by
      have e1 : f = g := funext fun k => by have := hf2 k; simpa using this
      rw [e1]; exact hsrc) (by simpa using hfit) (by simpa using hmx) ty
    refine ⟨v', w', ρ', r1, by simpa using r2, r3, by simpa [setO_eq] using r4⟩
  | sl _ _ _ _ _ c xo L' hL hc hn hxo =>
    obtain ⟨L, cs, hat⟩ := hst.rep.at_ hob hL
    have hsL : te.size = L.sz := hsz.trans hat.sz
    have heL : e = L.e := he.trans hat.e
    obtain ⟨⟨a, c', rfl, news, hnl, hno, hnn, hnc, hgl, hgr⟩⟩ := hsrc
    obtain rfl : L' = L := Option.some.inj (hL.symm.trans hat.loc)
    have hcL : c = L'.tot := by omega
    -- the new object, if it is written in place
    have inplace : ∀ (w' : World) (cs' : Array Value), w'.os = w.os → w'.tape = w.tape → w'.output = w.output → w'.heap.size = w.heap.size → (∀ b, b ≠ L'.b → w'.heap[b]? = w.heap[b]?) →
        w'.heap[L'.b]? = some (.cells cs' L'.e (0, 0)) → cs'.size = cs.size → n + m ≤ c → (∀ j, j < cs'.size → (cs'.getD j undef).oneCell' = true) →
        (∀ k j, k < n → j < L'.sz → cs'.getD (k * L'.sz + j) undef = cs.getD (k * L'.sz + j) undef) → (∀ k j, k < m → j < L'.sz → cs'.getD ((n + k) * L'.sz + j) undef = news.getD (k * L'.sz + j) undef) →
        (c = 0 ∨ xo = 0) →
        ∃ ρ', RelV ρ' μ (.sl H.length 0 (n + m)) (.slice (some ⟨L'.b, xo, none⟩) (n + m) c) ∧ RhoLe ρ ρ' ∧ St C ρ' μ (app (setO H o none) (some ⟨e, te.size, .arr (n + m) f⟩)) w' := by
      intro w' cs' q1 q2 q3 q4 q5 q6 q7 q8 q9 q10 q11 q12
      have hw := hst.write hob hat w' cs' ⟨ob.e, ob.sz, .arr (n + m) f⟩ q1 q2 q3 q4 q5 q6 q7 rfl rfl (by simp only [Cont.n]; omega) (fun k hk => by
          simp only [Cont.n] at hk
          simp only [Cont.f]
          by_cases hkn : k < n
          · rw [hf1 k hkn]; exact hat.len k (by omega)
          · obtain ⟨d, rfl⟩ : ∃ d, k = n + d := ⟨k - n, by omega⟩
            rw [hf2, hgl d (by omega), hsL]) (fun k j hk hj => by
          simp only [Cont.n] at hk
          simp only [Cont.f, Cont.rho]
          by_cases hkn : k < n
          · rw [hf1 k hkn, q10 k j hkn hj]
            exact hat.imm hb (by omega) hj
          · obtain ⟨d, rfl⟩ : ∃ d, k = n + d := ⟨k - n, by omega⟩
            rw [hf2, q11 d j (by omega) hj]
            have := hgr d j (by omega) (by rw [hsL]; exact hj)
            rwa [hsL] at this) q9
      have ho : (H.set o (some ⟨ob.e, ob.sz, .arr (n + m) f⟩))[o]? = some (some ⟨ob.e, ob.sz, .arr (n + m) f⟩) := by
        have := live_lt ⟨ob, hob⟩
        simp [this]
      obtain ⟨L2, cs2, hat2⟩ := hw.rep.at_ ho hat.loc
      obtain rfl : L2 = L' := Option.some.inj (hat2.loc.symm.trans hat.loc)
      have hm := hw.move ho hat2
      rw [List.set_set, List.length_set] at hm
      refine ⟨_, .sl (upd ρ H.length L2) μ H.length 0 (n + m) c xo L2 (upd_same ..) (by omega) q8 (by rcases q12 with h | h; exact .inl h; exact .inr (by simp [h])), upd_le _ hst.rep.new_none, ?_⟩
      rw [app_eq, setO_eq, he, hsz]
      exact hm
    by_cases hm0 : m = 0
    · subst hm0
      have hrun := run_append_zero (P := P) hu hi (some ⟨L'.b, xo, none⟩) n c c' a hn w (ty := ty)
      obtain ⟨ρ', r1, r2, r3⟩ := inplace w cs rfl rfl rfl rfl (fun _ _ => rfl) hat.heap rfl (by omega) hat.one (fun _ _ _ _ => rfl) (fun k j hk => by omega) (by rcases hxo with h | h; exact .inl h; exact .inr (by simpa using h))
      exact ⟨_, w, ρ', hrun, by simpa using r1, r2, r3⟩
    · have hnews : news ≠ [] := by
        intro e
        have : 0 < m * te.size := Nat.mul_pos (by omega) hpos
        rw [e] at hnl
        simp at hnl
        omega
      obtain ⟨ad, rfl⟩ : ∃ ad, a = some ad := by
        cases a with
        | none => exact absurd (hnn rfl) hnews
        | some ad => exact ⟨ad, rfl⟩
      by_cases hroom : n + m ≤ c
      · have hx0 : xo = 0 := by rcases hxo with h | h; omega; simpa using h
        subst hx0
        have hfitc : n * i.size + news.length ≤ cs.size := by
          rw [hnl, hszi, hat.size, ← hsL, ← Nat.add_mul]
          exact Nat.mul_le_mul_right _ (by omega)
        have hr := run_append_room (P := P) w t ty e i hu hi L'.b n c cs (by rw [heL]; exact hat.heap) ad m c' news (by rw [hnl, hszi]) (hnc ad rfl) hno hroom hfitc
        have hsp := spliceV_get cs.toList news (n * i.size) (by simpa using hfitc)
        obtain ⟨ρ', r1, r2, r3⟩ := inplace (w.setRow L'.b (cs.toList.take (n * i.size) ++ news ++ cs.toList.drop (n * i.size + news.length)).toArray) (cs.toList.take (n * i.size) ++ news ++ cs.toList.drop (n * i.size + news.length)).toArray rfl rfl rfl (by simp) (fun b hb => setRow_other w L'.b b _ hb) (setRow_heap w L'.b cs _ L'.e _ hat.heap) (by simp; omega) hroom (fun j hj => by
            have hj' : j < cs.size := by simp at hj; omega
            rw [hsp]
            split
            · have hlt : j - n * i.size < news.length := by omega
              have := hno _ (List.getElem_mem hlt)
              simpa [List.getD_eq_getElem?_getD, hlt] using this
            · have e := hat.one j hj'
              simpa [hj'] using e) (fun k j hk hj => by
            have hlt := idx_lt hk hj
            have hc2 : ¬ (n * i.size ≤ k * L'.sz + j ∧ k * L'.sz + j < n * i.size + news.length) := by rw [hszi, hsL]; omega
            rw [hsp, if_neg hc2, Array.toArray_toList]) (fun k j hk hj => by
            have hlt := idx_lt hk hj
            have e1 : (n + k) * L'.sz + j = n * i.size + (k * L'.sz + j) := by rw [hszi, hsL, Nat.add_mul]; omega
            have h9 : news.length = m * L'.sz := by rw [hnl, hsL]
            have e2 := hsp ((n + k) * L'.sz + j)
            have hc2 : n * i.size ≤ (n + k) * L'.sz + j ∧ (n + k) * L'.sz + j < n * i.size + news.length := ⟨by omega, by omega⟩
            rw [if_pos hc2] at e2
            rw [e2, e1]
            congr 1
            omega) (.inr rfl)
        exact ⟨_, _, ρ', hr, r1, r2, r3⟩
      · have holds : ∀ j u, (((List.range (n * te.size)).map fun k => cs.getD k undef))[j]? = some u → w.cell? ((⟨L'.b, xo, none⟩ : Addr).add j) = some u := by
          intro j u hu'
          obtain ⟨hj, rfl⟩ := news_get _ hu'
          have hn0 : 0 < n := by rcases Nat.eq_zero_or_pos n with h | h; subst h; simp at hj; exact h
          have hx0 : xo = 0 := by rcases hxo with h | h; omega; simpa using h
          have hlt : j < cs.size := by
            rw [hat.size, ← hsL]
            exact Nat.lt_of_lt_of_le hj (Nat.mul_le_mul_right _ (by omega))
          rw [add_at, hx0, Nat.zero_add, cell_row hat.heap]
          simp [hlt]
        have hr := run_append_grow (P := P) w t ty e i z hu hi hz ⟨L'.b, xo, none⟩ n c ((List.range (n * te.size)).map fun k => cs.getD k undef) (by simp [hszi]) holds ad m c' news (by rw [hnl, hszi]) (hnc ad rfl) (by omega) (by unfold maxLen at hmx; omega) (growslice_fits (by omega) (by rw [hby]; exact hfit))
        have hge := grownCap_ge w (n + m) c e
        have hgm := grownCap_le_maxLen w (n + m) c e hmx
        obtain ⟨ρ', r1, r2, r3⟩ := (hst.kill o).grow (P := P) htok hi hz hszi ((List.range (n * te.size)).map fun k => cs.getD k undef) news n m (grownCap w (n + m) c e) f (by simp) hnl hge hgm (fun u hu' => by
            obtain ⟨q, hq, rfl⟩ := List.mem_map.1 hu'
            have hlt : q < cs.size := by
              rw [hat.size, ← hsL]
              exact Nat.lt_of_lt_of_le (List.mem_range.1 hq) (Nat.mul_le_mul_right _ (by omega))
            exact hat.one q hlt) hno (fun k hk => by
            by_cases hkn : k < n
            · rw [hf1 k hkn, hsL]; exact hat.len k (by omega)
            · obtain ⟨d, rfl⟩ : ∃ d, k = n + d := ⟨k - n, by omega⟩
              rw [hf2, hgl d (by omega)]) (fun k j hk hj => by
            rw [news_getD _ (idx_lt hk hj), hf1 k hk, hsL]
            exact hat.imm hb (by omega) (by rw [← hsL]; exact hj)) (fun k j hk hj => by rw [hf2]; exact hgr k j hk hj)
        rw [List.length_set] at r1
        exact ⟨_, _, ρ', hr, r1, r2, by rw [setO_eq]; exact r3⟩

theorem op_append (hT : TabOk P T) {o : Oper} {t : Nat} {x y : Operand} (ho : o.op = .call { callee := .builtin .append, args := #[x, y], argTypes := #[t, t] }) {r : AV} {H' : Hp} (h : (aappend T std H t (aeval s x) (aeval s y)).is r H') : OpOk P N o s H r H' := by
  unfold aappend at h
  split at h
  case h_2 => exact h.elim
  rename_i e hd
  have hu : P.underlying t = some (.slice e) := Tok.td hT hd
  split at h
  case h_2 => exact h.elim
  rename_i te hte
  have htok := hT _ _ hte
  have hpos := htok.pos
  obtain ⟨m, g, h, hsrc⟩ := asrc_sound hpos h
  have run : ∀ (a : Act) (w : World) v' w', (Builtin.append_ #[t, t] o.type #[a.eval x, a.eval y]).run P w = .ok v' w' → (execOp a.eval o).run P w = .ok (.value v') w' := by
    intro a w v' w' hr
    simp [execOp, ho, resolve, invoke, builtin, hr]
  split at h
  case h_3 => exact h.elim
  · rename_i hx
    obtain ⟨⟨hfit, hmx⟩, rfl, rfl⟩ := h
    intro C ρ μ a w hs hst
    have h2 := aeval_rel hs x
    rw [hx] at h2
    obtain ⟨v', w', ρ', hr, r1, r2, r3⟩ := append_nil (P := P) hu htok hst (hsrc ρ μ w _ (aeval_rel hs y) hst.rep) hfit hmx o.type
    generalize hv : a.eval x = v at h2
    cases h2
    exact ⟨v', w', ρ', μ, .inl (run a w _ _ (by rw [hv]; exact hr)), r1, r2, MuLe.refl _, r3⟩
  · rename_i o' n hx
    split at h
    case h_2 => exact h.elim
    rename_i ob hob
    split at h
    case h_2 => exact h.elim
    rename_i hb1 hb2
    have hsz := Nat.eq_of_beq_eq_true hb1
    have he := Nat.eq_of_beq_eq_true hb2
    split at h
    · rename_i rows hc
      split at h
      case h_2 => exact h.elim
      rename_i hall hble
      have hle := Nat.le_of_ble_eq_true hble
      obtain ⟨⟨hfit, hmx⟩, rfl, rfl⟩ := h
      intro C ρ μ a w hs hst
      have h2 := aeval_rel hs x
      rw [hx] at h2
      obtain ⟨v', w', ρ', hr, r1, r2, r3⟩ := append_obj hu htok hst (hget_some hob) hsz he (fun r hr => by rw [hc] at hr; injection hr with hr; rw [← hr]; exact hall) (by rw [hc]; exact hle) h2 (hsrc ρ μ w _ (aeval_rel hs y) hst.rep) hfit hmx
        (f := fun j => match std.ltB j n with | true => rows.getD j [] | false => g (std.subN j n)) (fun k hk => by simp [std, hk, hc, Cont.f]) (fun k => by simp only [std]; rw [show decide (n + k < n) = false from decide_eq_false (by omega)]; simp) o.type
      exact ⟨v', w', ρ', μ, .inl (run a w _ _ hr), r1, r2, MuLe.refl _, r3⟩
    · rename_i n' f hc
      obtain ⟨hle, ⟨hfit, hmx⟩, rfl, rfl⟩ := h
      intro C ρ μ a w hs hst
      have h2 := aeval_rel hs x
      rw [hx] at h2
      obtain ⟨v', w', ρ', hr, r1, r2, r3⟩ := append_obj hu htok hst (hget_some hob) hsz he (fun r hr => by rw [hc] at hr; cases hr) (by rw [hc]; exact hle) h2 (hsrc ρ μ w _ (aeval_rel hs y) hst.rep) hfit hmx
        (f := fun j => match std.ltB j n with | true => f j | false => g (std.subN j n)) (fun k hk => by simp [std, hk, hc, Cont.f]) (fun k => by simp only [std]; rw [show decide (n + k < n) = false from decide_eq_false (by omega)]; simp) o.type
      exact ⟨v', w', ρ', μ, .inl (run a w _ _ hr), r1, r2, MuLe.refl _, r3⟩

end
end Vx

namespace Vx
open Go
section
variable {P : Program} {T : Tab} {N : Nat} {s : Slots} {H : Hp}

def optI : Option AV → Option Value → Prop
  | none, none => True
  | some (.int k i), some v => v = .int k i
  | _, _ => False

theorem run_bound {k : IntKind} {i : Int} {y : Nat} {c : BoundsCode} (h0 : 0 ≤ i) (h1 : i ≤ y) (w : World) : (Instr.sliceBound (.int k i) y c).run P w = .ok i.toNat w := by
  simp [Instr.sliceBound, asIntOf, h0, h1]

theorem abounds_sound {n : Nat} {lo hi : Option AV} {k : Option Nat → Nat → Out} {K : AV → Hp → Prop} (h : (abounds std n lo hi k).sat K) :
    ∃ l m, (k l m).sat K ∧ l.getD 0 + m ≤ n ∧ ∀ (b : Bool) (cap : Nat) (lo' hi' : Option Value) (w : World), n ≤ cap → (∀ q i, lo = some (.int q i) → lo' = some (.int q i)) → (lo = none → lo' = none) → (∀ q i, hi = some (.int q i) → hi' = some (.int q i)) → (hi = none → hi' = none) →
      (Instr.sliceBounds b n cap lo' hi' none).run P w = .ok (l.getD 0, l.getD 0 + m, cap) w := by
  unfold abounds at h
  split at h
  · refine ⟨none, n, h, by simp, fun b cap lo' hi' w hc a1 a2 a3 a4 => ?_⟩
    rw [a2 rfl, a4 rfl]
    simp [Instr.sliceBounds]
  · rename_i q l
    obtain ⟨⟨h0, h1⟩, h⟩ := h
    have h1' : l ≤ (n : Int) := h1
    refine ⟨some l.toNat, n - l.toNat, h, by simp only [Option.getD_some]; omega, fun b cap lo' hi' w hc a1 a2 a3 a4 => ?_⟩
    rw [a1 _ _ rfl, a4 rfl]
    simp [Instr.sliceBounds, run_bound h0 h1']
    omega
  · rename_i q l
    obtain ⟨⟨h0, h1⟩, h⟩ := h
    have h1' : l ≤ (n : Int) := h1
    refine ⟨none, l.toNat, h, by simp only [Option.getD_none]; omega, fun b cap lo' hi' w hc a1 a2 a3 a4 => ?_⟩
    rw [a2 rfl, a3 _ _ rfl]
    simp [Instr.sliceBounds, run_bound h0 (show l ≤ (cap : Int) by omega)]
  · rename_i q l q' l'
    obtain ⟨⟨h0, h1⟩, ⟨h2, h3⟩, h⟩ := h
    have h3' : l' ≤ (n : Int) := h3
    have h1' : l ≤ l' := h1
    refine ⟨some l.toNat, l'.toNat - l.toNat, h, by simp only [Option.getD_some]; omega, fun b cap lo' hi' w hc a1 a2 a3 a4 => ?_⟩
    rw [a1 _ _ rfl, a3 _ _ rfl]
    simp [Instr.sliceBounds, run_bound h2 (show l' ≤ (cap : Int) by omega), run_bound h0 (show l ≤ ((l'.toNat : Nat) : Int) by omega)]
    omega
  · exact h.elim

theorem opt_int {ρ : Rho} {μ : Mu} {a : Act} (hs : RelS ρ μ N s a) (lo : Option Operand) : (∀ q i, lo.map (aeval s) = some (.int q i) → lo.map a.eval = some (.int q i)) ∧ (lo.map (aeval s) = none → lo.map a.eval = none) := by
  cases lo with
  | none => simp
  | some x =>
    refine ⟨fun q i h => ?_, fun h => by simp at h⟩
    simp only [Option.map_some, Option.some.injEq] at h ⊢
    have := aeval_rel hs x
    rw [h] at this
    exact this.int_inv

theorem op_slice (hT : TabOk P T) {o : Oper} {t : Nat} {x : Operand} {lo hi : Option Operand} (ho : o.op = .slice t x lo hi none) {r : AV} {H' : Hp} (h : (aslice T std H t (aeval s x) (lo.map (aeval s)) (hi.map (aeval s))).is r H') : OpOk P N o s H r H' := by
  unfold aslice at h
  split at h
  case h_4 => exact h.elim
  · rename_i e sz n f hd hx
    have hu : P.underlying t = some (.slice e) := Tok.td hT hd
    split at h
    case h_2 => exact h.elim
    rename_i te hte
    obtain ⟨ie, _, hie, hsz, _⟩ := (hT _ _ hte).info
    split at h
    case h_2 => exact h.elim
    rename_i hb
    have := Nat.eq_of_beq_eq_true hb
    subst this
    obtain ⟨l, m, ⟨rfl, rfl⟩, hle, hrun⟩ := abounds_sound (P := P) h
    refine OpOk.pure fun ρ μ a w hs _ => ?_
    have h2 := aeval_rel hs x
    rw [hx] at h2
    generalize hv : a.eval x = v at h2
    obtain ⟨a1, a2⟩ := opt_int hs lo
    obtain ⟨a3, a4⟩ := opt_int hs hi
    cases h2 with
    | rows _ _ _ _ ad c _ b o' ws hlen hsz0 hrel hmem hc hm =>
      have hr := hrun true c _ _ w hc a1 a2 a3 a4
      refine ⟨.slice (if c = l.getD 0 then ad else ad.map (·.add (l.getD 0 * te.size))) m (c - l.getD 0), ?_, ?_⟩
      · simp [execOp, ho, hv, Instr.sliceAt, run_underlying hu, Instr.slice, hr, run_sizeOf' hie, hsz]
      · have hf : ∀ k, shiftF std f l k = f (l.getD 0 + k) := by intro k; cases l <;> simp [shiftF, std]
        refine .rows _ _ _ _ _ _ _ b (o' + l.getD 0 * te.size) (fun i j => ws (l.getD 0 + i) j) (fun i hi => by rw [hf]; exact hlen _ (by omega)) hsz0 (fun i j hi hj => by rw [hf]; exact hrel _ _ (by omega) hj) (fun i j hi hj => ?_) (by omega) (by omega)
        obtain ⟨e1, e2⟩ := hmem (l.getD 0 + i) j (by omega) hj
        have hne : ¬ c = l.getD 0 := by omega
        rw [if_neg hne, e1]
        refine ⟨by simp [add_at], ?_⟩
        rw [Nat.add_mul] at e2
        rwa [show o' + l.getD 0 * te.size + i * te.size + j = o' + (l.getD 0 * te.size + i * te.size) + j by omega]
  · rename_i e o' i n hd hx
    have hu : P.underlying t = some (.slice e) := Tok.td hT hd
    split at h
    case h_2 => exact h.elim
    rename_i te ob hte hob
    obtain ⟨ie, _, hie, hsz, _⟩ := (hT _ _ hte).info
    split at h
    case h_2 => exact h.elim
    rename_i hb
    have hszq := Nat.eq_of_beq_eq_true hb
    obtain ⟨l, m, ⟨rfl, rfl⟩, hle, hrun⟩ := abounds_sound (P := P) h
    refine OpOk.pure fun ρ μ a w hs hrep => ?_
    have h2 := aeval_rel hs x
    rw [hx] at h2
    generalize hv : a.eval x = v at h2
    obtain ⟨a1, a2⟩ := opt_int hs lo
    obtain ⟨a3, a4⟩ := opt_int hs hi
    cases h2 with
    | sl _ _ _ _ _ c xo L hL hc hn hxo =>
      obtain ⟨L', cs, hat⟩ := hrep.at_ (hget_some hob) hL
      obtain rfl : L' = L := Option.some.inj (hat.loc.symm.trans hL)
      have hsL : te.size = L'.sz := by rw [← hszq]; exact hat.sz
      have hr := hrun true c _ _ w hn a1 a2 a3 a4
      have hf : shiftN std i l = i + l.getD 0 := by cases l <;> simp [shiftN, std]
      rw [hf]
      refine ⟨.slice (some ⟨L'.b, (if c = l.getD 0 then xo else xo + l.getD 0 * L'.sz), none⟩) m (c - l.getD 0), ?_, .sl _ _ _ _ _ _ _ L' hL (by omega) (by omega) ?_⟩
      · by_cases hcl : c = l.getD 0
        · subst hcl
          simp [execOp, ho, hv, Instr.sliceAt, run_underlying hu, Instr.slice, hr, run_sizeOf' hie]
        · simp [execOp, ho, hv, Instr.sliceAt, run_underlying hu, Instr.slice, hr, run_sizeOf' hie, hsz, hsL, hcl, add_at]
      · by_cases hcl : c = l.getD 0
        · left; omega
        · right
          rw [if_neg hcl, Nat.add_mul]
          rcases hxo with h | h
          · omega
          · omega
    | slNil =>
      have hr := hrun true 0 _ _ w (Nat.le_refl _) a1 a2 a3 a4
      have hl0 : l.getD 0 = 0 := by omega
      have hm0 : m = 0 := by omega
      subst hm0
      rw [hl0] at hr
      exact ⟨.slice none 0 0, by simp [execOp, ho, hv, Instr.sliceAt, run_underlying hu, Instr.slice, hr, run_sizeOf' hie], .slNil ..⟩
  · rename_i b hd hx
    have hu : P.underlying t = some .string := Tok.td hT hd
    obtain ⟨l, m, ⟨rfl, rfl⟩, hle, hrun⟩ := abounds_sound (P := P) h
    refine OpOk.pure fun ρ μ a w hs hrep => ?_
    have h2 := aeval_rel hs x
    rw [hx] at h2
    obtain ⟨a1, a2⟩ := opt_int hs lo
    obtain ⟨a3, a4⟩ := opt_int hs hi
    have hr := hrun false b.size _ _ w (Nat.le_refl _) a1 a2 a3 a4
    simp only [std] at hr
    refine ⟨.string (b.extract (l.getD 0) (l.getD 0 + m)), ?_, ?_⟩
    · simp [execOp, ho, h2.str_inv, Instr.sliceAt, run_underlying hu, Instr.slice, hr]
    · have : subS std b m l = b.extract (l.getD 0) (l.getD 0 + m) := by cases l <;> simp [subS, std]
      rw [this]
      exact .str ..

/-! ### Results -/
def aresults (T : Tab) (O : Ops) (s : Slots) (H : Hp) : List ResultVar → (List AV → Out) → Out
  | [], k => k []
  | .tmp t :: r, k => aresults T O s H r fun l => k (look s t :: l)
  | .cell c t :: r, k => (match aload T O H t (look s c) with
    | .ok v _ => aresults T O s H r fun l => k (v :: l)
    | .need p (.ok v _) => .need p (aresults T O s H r fun l => k (v :: l))
    | _ => .stop)
def tupled : List AV → AV
  | [x] => x
  | l => .tup l
def resOne (a : Act) : ResultVar → Sem Value
  | .tmp t => pure (a.tmps.getD t undef)
  | .cell c t => do loadVar t (← asAddr (a.tmps.getD c undef))
theorem results_eq (fn : Func) (a : Act) : results fn a.tmps = (fn.results.mapM (resOne a) >>= fun vs => pure (if h : vs.size = 1 then vs[0] else .tuple vs)) := rfl

theorem aresults_sound (hT : TabOk P T) {ρ : Rho} {μ : Mu} {a : Act} {w : World} (hs : RelS ρ μ N s a) (hrep : Rep ρ μ H w) : ∀ (rs : List ResultVar) (k : List AV → Out) {K : AV → Hp → Prop}, (aresults T std s H rs k).sat K →
    ∃ l, (k l).sat K ∧ ∃ vs : List Value, (rs.mapM (resOne a)).run P w = .ok vs w ∧ vs.length = l.length ∧ ∀ j, j < l.length → RelV ρ μ (l.getD j .top) (vs.getD j undef)
  | [], k, K, h => ⟨[], h, [], by simp, rfl, fun j hj => by simp at hj⟩
  | .tmp t :: r, k, K, h => by
    obtain ⟨l, h1, vs, h2, h3, h4⟩ := aresults_sound hT hs hrep r _ h
    refine ⟨_, h1, a.tmps.getD t undef :: vs, ?_, by simp [h3], fun j hj => ?_⟩
    · rw [List.mapM_cons]
      simp only [resOne, Sem.run_bind, Sem.run_pure, Result.andThen_ok]
      rw [h2]
      rfl
    · cases j with
      | zero => simpa using hs.v t
      | succ j => simpa using h4 j (by simpa using hj)
  | .cell c t :: r, k, K, h => by
    have fin : ∀ v, (aload T std H t (look s c)).sat (fun v' _ => v' = v) → (aresults T std s H r fun l => k (v :: l)).sat K → ∃ l, (k l).sat K ∧ ∃ vs : List Value, ((ResultVar.cell c t :: r).mapM (resOne a)).run P w = .ok vs w ∧ vs.length = l.length ∧ ∀ j, j < l.length → RelV ρ μ (l.getD j .top) (vs.getD j undef) := by
      intro v hv h
      obtain ⟨l, h1, vs, h2, h3, h4⟩ := aresults_sound hT hs hrep r _ h
      obtain ⟨x, u, ad, rfl, hr, hu, hrun⟩ := aload_sound hT hrep (hs.v c) hv
      refine ⟨_, h1, u :: vs, ?_, by simp [h3], fun j hj => ?_⟩
      · rw [List.mapM_cons]
        simp only [resOne, Sem.run_bind, hu, asAddr, Sem.run_pure, Result.andThen_ok, hrun]
        rw [h2]
        rfl
      · cases j with
        | zero => simpa using hr
        | succ j => simpa using h4 j (by simpa using hj)
    simp only [aresults] at h
    split at h
    · rename_i v H1 hl
      exact fin v (by rw [hl]; rfl) h
    · rename_i p v H1 hl
      exact fin v (by rw [hl]; exact ⟨h.1, rfl⟩) h.2
    · exact h.elim

/-- The end of a call. -/
def aend (T : Tab) (O : Ops) (s : Slots) (H : Hp) (rs : List ResultVar) : Out := aresults T O s H rs fun l => .ok (tupled l) H

variable {f : FuncId} {C : Ctx} {Q : Md} {k : List Item}
theorem end_rel (hT : TabOk P T) {ρ : Rho} {μ : Mu} {a : Act} {w : World} (hs : RelS ρ μ N s a) (hst : St C ρ μ H w) (fn : Func) {r : AV} {H' : Hp} (h : (aend T std s H fn.results.toList).is r H') :
    ∃ v ρ' μ', (results fn a.tmps).run P w = .ok v w ∧ RelV ρ' μ' r v ∧ St C ρ' μ' H' w := by
  obtain ⟨l, ⟨rfl, rfl⟩, vs, h2, h3, h4⟩ := aresults_sound hT hs hst.rep _ _ h
  have hm : (fn.results.mapM (resOne a)).run P w = .ok vs.toArray w := by
    rw [Array.mapM_eq_mapM_toList]
    simp only [Sem.run_map]
    rw [h2]
    rfl
  refine ⟨_, ρ, μ, by rw [results_eq, Sem.run_bind, hm]; rfl, ?_, hst⟩
  match l, vs, h3 with
  | [], [], _ => exact .tup _ _ [] #[] rfl (fun j hj => by simp at hj)
  | [x], [v], _ => simpa [tupled] using h4 0 (by simp)
  | x :: y :: l, u :: v :: vs, h3 =>
    simp only [tupled]
    have : ¬ (u :: v :: vs).toArray.size = 1 := by simp
    rw [dif_neg this]
    refine .tup _ _ _ _ (by simpa using h3) fun j hj => ?_
    have := h4 j hj
    simpa using this

/-- What is to be shown where a call ends. -/
def atEnd (T : Tab) (O : Ops) (rs : List ResultVar) (s : Slots) (H : Hp) (ret : Bool) : Md → Prop
  | .norm Q => (aend T O s H rs).sat Q
  | .late Q => (aend T O s H rs).sat Q
  | .may Q _ => (aend T O s H rs).sat Q
  | .state E _ => E s H
  | .done E => match rs with | [] => E H | _ => False
  | .upto _ _ _ => False
  | .iter _ Q _ => match rs with | [] => Q H | _ => False
  | .round _ Q => Q (match ret with | true => some .ret | false => none) H
/-- What a mode asks of the frame. -/
def Md.fits (C : Ctx) : Md → Prop
  | .round l _ => InRound C l
  | _ => True
theorem V.ends (hT : TabOk P T) {fn : Func} (hf : P.funcs[f]? = some fn) (hm : Q.fits C) : (atEnd T std fn.results.toList s H true Q → V P f N C Q (.code .ret :: k) s H) ∧ (atEnd T std fn.results.toList s H false Q → V P f N C Q [] s H) := by
  have hn : ∀ Qn, (Q = .norm Qn ∨ Q = .late Qn ∨ ∃ R, Q = .may Qn R) → (aend T std s H fn.results.toList).sat Qn → V P f N C Q (.code .ret :: k) s H ∧ V P f N C Q [] s H := by
    intro Qn hQ h
    obtain ⟨r, H', hq, h⟩ := Out.sat_one h
    exact V.ret_of hf hq hQ fun C ρ μ a w hs hst => end_rel hT hs hst fn h
  cases Q with
  | norm Qn => exact ⟨fun h => (hn Qn (.inl rfl) h).1, fun h => (hn Qn (.inl rfl) h).2⟩
  | late Qn => exact ⟨fun h => (hn Qn (.inr (.inl rfl)) h).1, fun h => (hn Qn (.inr (.inl rfl)) h).2⟩
  | may Qn R => exact ⟨fun h => (hn Qn (.inr (.inr ⟨R, rfl⟩)) h).1, fun h => (hn Qn (.inr (.inr ⟨R, rfl⟩)) h).2⟩
  | state E R => exact ⟨fun h => (V.retState h).1, fun h => (V.retState (k := k) h).2⟩
  | iter l QN QS =>
    simp only [atEnd]
    have hr : ∀ {p : Prop}, (match fn.results.toList with | [] => p | _ => False) → fn.results = #[] ∧ p := by
      intro p h
      cases hl : fn.results.toList with
      | nil => rw [hl] at h; exact ⟨by simpa using hl, h⟩
      | cons x y => rw [hl] at h; exact h.elim
    exact ⟨fun h => (V.retIter hf (hr h).1 (hr h).2).1, fun h => (V.retIter (k := k) hf (hr h).1 (hr h).2).2⟩
  | done E =>
    simp only [atEnd]
    have hr : ∀ {p : Prop}, (match fn.results.toList with | [] => p | _ => False) → fn.results = #[] ∧ p := by
      intro p h
      cases hl : fn.results.toList with
      | nil => rw [hl] at h; exact ⟨by simpa using hl, h⟩
      | cons x y => rw [hl] at h; exact h.elim
    exact ⟨fun h => (V.retDone hf (hr h).1 (hr h).2).1, fun h => (V.retDone (k := k) hf (hr h).1 (hr h).2).2⟩
  | upto kd todo E => exact ⟨fun h => h.elim, fun h => h.elim⟩
  | round l QR => exact ⟨fun h => V.leave (some .ret) trivial h hm, fun h => V.leave none trivial h hm⟩
theorem V.leaves {l : Nat} {QR : Option Code → Hp → Prop} {id : Nat} (hm : InRound C l) (hx : exitTo id k = none) (h : QR (some (.exit id)) H) : V P f N C (.round l QR) (.code (.exit id) :: k) s H :=
  V.leave (some (.exit id)) ⟨rfl, hx⟩ h hm

end
end Vx
