/- Part 1 of 10 of what this claim's proof stands on: a theory of programs on data, and the contracts of the functions that the law reaches. It holds no condition of its own. -/
import Derived.WalkKit
import Derived.Laws.AppendOwn
import Derived.Orders
import Derived.Deep.Draws
import Derived.Below
import Derived.Still
namespace Go.Proofs.YtnakjijahkaoaaaDoor
open Go Go.RowKit
inductive Ty where
 | int (k : IntKind)
 | bool
 | str
 | unit
 | pair (a b : Ty)
 | st (b : Ty)
 | arr (n : Nat) (e : Ty)
 | slc (e : Ty)
 | fn (a r : Ty)
 | ref (t : Ty)
 | mp (k v : Ty)
 deriving DecidableEq
abbrev af : Ty := .int .i64
@[reducible] def den : Ty → Type
 | .int _ => Int
 | .bool => Bool
 | .str => ByteArray
 | .unit => Unit
 | .pair a b => den a × den b
 | .st b => den b
 | .arr _ e => List (den e)
 | .slc e => List (den e)
 | .fn a r => Option (den a → den r)
 | .ref t => den t
 | .mp k v => List (den k × den v)
def siz : Ty → Nat
 | .int _ => 1
 | .bool => 1
 | .str => 1
 | .unit => 0
 | .pair a b => siz a + siz b
 | .st b => siz b
 | .arr n e => n * siz e
 | .slc _ => 1
 | .fn _ _ => 1
 | .ref _ => 1
 | .mp _ _ => 1
def isAgg : Ty → Bool
 | .st _ => true
 | .arr _ _ => true
 | _ => false
def aq (t : Ty) (cs : List Value) : Value := if isAgg t then .agg cs.toArray else cs.headD undef
structure Lat (O : Nat → Prop) (w : World) (O' : Nat → Prop) (w' : World) : Prop where
 size : w.heap.size ≤ w'.heap.size
 keep : ∀ b, b < w.heap.size → ¬ O b → w'.heap[b]? = w.heap[b]? ∧ ¬ O' b
theorem Lat.refl (O : Nat → Prop) (w : World) : Lat O w O w := ⟨Nat.le_refl _, fun _ _ h => ⟨rfl, h⟩⟩
theorem Lat.trans {O O' O'' : Nat → Prop} {w w' w'' : World} (h : Lat O w O' w') (k : Lat O' w' O'' w'') : Lat O w O'' w'' :=
 ⟨Nat.le_trans h.size k.size, fun b hb hO => by
  have h1 := h.keep b hb hO
  have h2 := k.keep b (Nat.lt_of_lt_of_le hb h.size) h1.2
  exact ⟨h2.1.trans h1.1, h2.2⟩⟩
structure Kept (w w' : World) : Prop where
 os : w'.os = w.os
 tape : w'.tape = w.tape
 output : w'.output = w.output
 size : w.heap.size ≤ w'.heap.size
 block : ∀ b, b < w.heap.size → w'.heap[b]? = w.heap[b]?
theorem Kept.refl (w : World) : Kept w w := ⟨rfl, rfl, rfl, Nat.le_refl _, fun _ _ => rfl⟩
theorem Kept.trans {a b c : World} (h : Kept a b) (k : Kept b c) : Kept a c :=
 ⟨k.os.trans h.os, k.tape.trans h.tape, k.output.trans h.output, Nat.le_trans h.size k.size, fun i hi => (k.block i (Nat.lt_of_lt_of_le hi h.size)).trans (h.block i hi)⟩
theorem Kept.lat {w w' : World} (h : Kept w w') (O : Nat → Prop) : Lat O w O w' := ⟨h.size, fun b hb hO => ⟨h.block b hb, hO⟩⟩
theorem Kept.alloc (w : World) (o : Obj) : Kept w (w.alloc o) := ⟨rfl, rfl, rfl, by simp, fun b hb => Below.heap_alloc w o b hb⟩
theorem Kept.drew (w : World) : Kept w w.drew := ⟨rfl, rfl, rfl, Nat.le_refl _, fun _ _ => rfl⟩
def dm {α β : Type} (R : Value → α → Prop) (S : Value → β → Prop) : List MapEntry → List (α × β) → Prop
 | [], [] => True
 | m :: ms, x :: xs => R m.key x.1 ∧ S m.val x.2 ∧ dm R S ms xs
 | _, _ => False
def ah {α : Type} (R : List Value → α → Prop) (n : Nat) : List Value → List α → Prop
 | cs, [] => cs = []
 | cs, x :: xs => R (cs.take n) x ∧ ah R n (cs.drop n) xs
def fW (P : Program) (f : FuncId) : Prop := ∀ (args : Array Value) (w : World), (callFunc f args).run P w = .ok (.enter f args) w
def InK (k : IntKind) (x : Int) : Prop := k.min ≤ x ∧ x ≤ k.max
inductive Ib where
 | cells
 | chain
 | result
def Rep (P : Program) : (t : Ty) → Ib → (Nat → Prop) → World → List Value → den t → Prop
  | .int k, .cells, _, _, cs, x => cs = [.int k x] ∧ InK k x
  | .bool, .cells, _, _, cs, x => cs = [.bool x]
  | .str, .cells, _, _, cs, x => cs = [.string x] ∧ x.size ≤ maxLen
  | .unit, .cells, _, _, cs, _ => cs = []
  | .unit, .chain, _, _, cs, _ => cs = []
  | .unit, .result, _, _, cs, _ => cs = [.tuple #[]]
  | .pair a b, .cells, O, w, cs, x => Rep P a .cells O w (cs.take (siz a)) x.1 ∧ Rep P b .cells O w (cs.drop (siz a)) x.2
  | .pair a b, .chain, O, w, vs, x => ∃ rest cs, vs = aq a cs :: rest ∧ Rep P a .cells O w cs x.1 ∧ Rep P b .chain O w rest x.2
  | .pair a b, .result, O, w, vs, x => ∃ rest cs, vs = [if b = .unit then aq a cs else .tuple (aq a cs :: rest).toArray] ∧ Rep P a .cells O w cs x.1 ∧ Rep P b .chain O w rest x.2
  | .st b, .cells, O, w, cs, x => Rep P b .cells O w cs x
  | .arr n e, .cells, O, w, cs, x => x.length = n ∧ ah (fun cs x => Rep P e .cells O w cs x) (siz e) cs x
  | .slc e, .cells, O, w, cs, x => ∃ a c L, cs = [.slice a x.length c] ∧ x.length ≤ c ∧ c ≤ maxLen ∧ L.length = x.length * siz e ∧ ah (fun cs x => Rep P e .cells O w cs x) (siz e) L x ∧
      (x ≠ [] → ∃ ad, a = some ad ∧ ¬ O ad.block ∧ ad.block < w.heap.size ∧ ∀ j u, L[j]? = some u → w.cell? (ad.add j) = some u) ∧ (a = none → c = 0)
  | .fn _ _, .cells, _, _, cs, none => cs = [.nilFunc]
  | .fn a r, .cells, O, w, cs, some g => ∃ f first captured, cs = [.func (.func f) first captured] ∧ fW P f ∧
      ∀ O' w', Lat O w O' w' → (∀ g, O' g → g < w'.heap.size) → ∀ vs x, Rep P a .chain O' w' vs x → Calls P f (first ++ vs.toArray ++ captured) w' fun e w'' =>
        ∃ v, e = .returned v ∧ Kept w' w'' ∧ Rep P r .result O' w'' [v] (g x)
  | .ref t, .cells, O, w, cs, x => ∃ ad L, cs = [.pointer (some ad)] ∧ ¬ O ad.block ∧ ad.block < w.heap.size ∧ (∀ j u, L[j]? = some u → w.cell? (ad.add j) = some u) ∧ Rep P t .cells O w L x
  | .mp k v, .cells, O, w, cs, x => ∃ r, cs = [.map r] ∧ (r = none → x = []) ∧ ∀ g, r = some g → ¬ O g ∧ g < w.heap.size ∧ ∃ es ck, w.heap[g]? = some (.map es ck) ∧ (es.toList.map (·.key)).Nodup ∧
      dm (fun u z => ∃ cs, u = aq k cs ∧ Rep P k .cells O w cs z) (fun u z => ∃ cs, u = aq v cs ∧ Rep P v .cells O w cs z) es.toList x
  | _, _, _, _, _, _ => False
theorem ah.imp {α : Type} {R R' : List Value → α → Prop} {n : Nat} (h : ∀ cs x, R cs x → R' cs x) : ∀ {cs : List Value} {xs : List α}, ah R n cs xs → ah R' n cs xs
 | _, [], hh => hh
 | _, _ :: _, hh => ⟨h _ _ hh.1, ah.imp h hh.2⟩
theorem dm.imp {α β : Type} {R R' : Value → α → Prop} {S S' : Value → β → Prop} (h : ∀ u x, R u x → R' u x) (k : ∀ u x, S u x → S' u x) : ∀ {ms : List MapEntry} {xs : List (α × β)}, dm R S ms xs → dm R' S' ms xs
 | [], [], _ => trivial
 | _ :: _, _ :: _, hh => ⟨h _ _ hh.1, k _ _ hh.2.1, dm.imp h k hh.2.2⟩
 | [], _ :: _, hh => hh.elim
 | _ :: _, [], hh => hh.elim
theorem wM {O O' : Nat → Prop} {w w' : World} (h : Lat O w O' w') {a : Addr} (hO : ¬ O a.block) (hb : a.block < w.heap.size) : w'.cell? a = w.cell? a :=
 World.cell?_of_block (h.keep _ hb hO).1
theorem cC (a : Addr) (n : Nat) : (a.add n).block = a.block := by unfold Addr.add; split <;> rfl
theorem Rep.lat {P : Program} {O O' : Nat → Prop} {w w' : World} (h : Lat O w O' w') : ∀ {t : Ty} {m : Ib} {cs : List Value} {x : den t}, Rep P t m O w cs x → Rep P t m O' w' cs x := by
 intro t
 induction t with
 | int k => intro m cs x hh; cases m <;> exact hh
 | bool => intro m cs x hh; cases m <;> exact hh
 | str => intro m cs x hh; cases m <;> exact hh
 | unit => intro m cs x hh; cases m <;> exact hh
 | pair a b iha ihb =>
  intro m cs x hh
  cases m with
  | cells => exact ⟨iha hh.1, ihb hh.2⟩
  | chain => obtain ⟨rest, cs', e, h1, h2⟩ := hh; exact ⟨rest, cs', e, iha h1, ihb h2⟩
  | result => obtain ⟨rest, cs', e, h1, h2⟩ := hh; exact ⟨rest, cs', e, iha h1, ihb h2⟩
 | st b ih => intro m cs x hh; cases m <;> first | exact ih hh | exact hh
 | arr n e ih => intro m cs x hh; cases m <;> first | exact ⟨hh.1, hh.2.imp fun _ _ k => ih k⟩ | exact hh
 | slc e ih =>
  intro m cs x hh
  cases m with
  | cells =>
   obtain ⟨a, c, L, e1, h2, h3, h4, h5, h6, h7⟩ := hh
   refine ⟨a, c, L, e1, h2, h3, h4, h5.imp fun _ _ k => ih k, fun hx => ?_, h7⟩
   obtain ⟨ad, ha, hO, hb, hc⟩ := h6 hx
   exact ⟨ad, ha, (h.keep _ hb hO).2, Nat.lt_of_lt_of_le hb h.size, fun j u hj => by
    rw [wM h (by rw [cC]; exact hO) (by rw [cC]; exact hb)]; exact hc j u hj⟩
  | chain => exact hh
  | result => exact hh
 | fn a r _ _ =>
  intro m cs x hh
  cases m with
  | cells =>
   cases x with
   | none => exact hh
   | some g =>
    obtain ⟨f, first, captured, e1, h2, h3⟩ := hh
    exact ⟨f, first, captured, e1, h2, fun O'' w'' hl => h3 O'' w'' (h.trans hl)⟩
  | chain => exact hh
  | result => exact hh
 | ref t ih =>
  intro m cs x hh
  cases m with
  | cells =>
   obtain ⟨ad, L, e1, hO, hb, hc, hr⟩ := hh
   exact ⟨ad, L, e1, (h.keep _ hb hO).2, Nat.lt_of_lt_of_le hb h.size, fun j u hj => by
    rw [wM h (by rw [cC]; exact hO) (by rw [cC]; exact hb)]; exact hc j u hj, ih hr⟩
  | chain => exact hh
  | result => exact hh
 | mp k v ihk ihv =>
  intro m cs x hh
  cases m with
  | cells =>
   obtain ⟨r, e1, h1, h2⟩ := hh
   refine ⟨r, e1, h1, fun g hg => ?_⟩
   obtain ⟨hO, hb, es, ck, hc, hn, he⟩ := h2 g hg
   exact ⟨(h.keep _ hb hO).2, Nat.lt_of_lt_of_le hb h.size, es, ck, by rw [(h.keep _ hb hO).1]; exact hc, hn,
    he.imp (fun _ _ ⟨cs, e, r⟩ => ⟨cs, e, ihk r⟩) (fun _ _ ⟨cs, e, r⟩ => ⟨cs, e, ihv r⟩)⟩
  | chain => exact hh
  | result => exact hh
theorem ah.length {α : Type} {R : List Value → α → Prop} {n : Nat} : ∀ {cs : List Value} {xs : List α}, (∀ cs x, R cs x → cs.length = n) → ah R n cs xs → cs.length = xs.length * n
 | _, [], _, hh => by simp [show _ = [] from hh]
 | cs, x :: xs, hR, hh => by
  have h1 := hR _ _ hh.1
  have h2 := ah.length hR hh.2
  simp only [List.length_take, List.length_drop, List.length_cons] at *
  rw [Nat.add_mul, Nat.one_mul]
  omega
theorem Rep.length {P : Program} {O : Nat → Prop} {w : World} : ∀ {t : Ty} {cs : List Value} {x : den t}, Rep P t .cells O w cs x → cs.length = siz t := by
 intro t
 induction t with
 | int k => intro cs x hh; simp [Rep] at hh; simp [hh, siz]
 | bool => intro cs x hh; simp [Rep] at hh; simp [hh, siz]
 | str => intro cs x hh; simp [Rep] at hh; simp [hh, siz]
 | unit => intro cs x hh; simp [Rep] at hh; simp [hh, siz]
 | pair a b iha ihb =>
  intro cs x hh
  have h1 := iha hh.1
  have h2 := ihb hh.2
  simp only [List.length_take, List.length_drop, siz] at *
  omega
 | st b ih => intro cs x hh; exact ih hh
 | arr n e ih => intro cs x hh; rw [hh.2.length (fun _ _ k => ih k), hh.1]; rfl
 | slc e ih => intro cs x hh; obtain ⟨a, c, L, e1, _⟩ := hh; simp [e1, siz]
 | fn a r _ _ =>
  intro cs x hh
  cases x with
  | none => have e : cs = [.nilFunc] := hh; simp [e, siz]
  | some g => obtain ⟨f, _, _, e1, _⟩ := hh; simp [e1, siz]
 | ref t _ => intro cs x hh; obtain ⟨ad, L, e1, _⟩ := hh; simp [e1, siz]
 | mp k v _ _ => intro cs x hh; obtain ⟨r, e1, _⟩ := hh; simp [e1, siz]
def aw (P : Program) (t : Ty) (O : Nat → Prop) (w : World) (v : Value) (x : den t) : Prop := ∃ cs, v = aq t cs ∧ Rep P t .cells O w cs x
theorem aw.lat {P : Program} {O O' : Nat → Prop} {w w' : World} (h : Lat O w O' w') {t : Ty} {v : Value} {x : den t} (hv : aw P t O w v x) : aw P t O' w' v x :=
 let ⟨cs, e, r⟩ := hv; ⟨cs, e, r.lat h⟩
end Go.Proofs.YtnakjijahkaoaaaDoor
namespace Go.Proofs.YtnakjijahkaoaaaDoor
open Go Go.RowKit
def zero : (t : Ty) → den t
 | .int _ => (0 : Int)
 | .bool => false
 | .str => ByteArray.empty
 | .unit => ()
 | .pair a b => (zero a, zero b)
 | .st b => zero b
 | .arr n e => List.replicate n (zero e)
 | .slc _ => []
 | .fn _ _ => none
 | .ref t => zero t
 | .mp _ _ => []
def eqL {α : Type} (f : α → α → Bool) : List α → List α → Bool
 | [], [] => true
 | x :: xs, y :: ys => f x y && eqL f xs ys
 | _, _ => false
def eqI (x y : Int) : Bool := decide (x = y)
def eqO (x y : Bool) : Bool := x == y
def eqS (x y : ByteArray) : Bool := decide (x = y)
def el (e : Ty) (xs : List (den e)) (n : Int) : den e := xs.getD n.toNat (zero e)
def ln {e : Ty} (xs : List (den e)) : Int := xs.length
def inB (n m : Int) : Prop := 0 ≤ n ∧ n < m
def bI (a b : Int) : Int := if b < a then b else a
def Fg (a b : Int) : Int := if a < b then b else a
def ax (s : ByteArray) : Int := s.size
def a6 (s : ByteArray) (l h : Int) : ByteArray := s.extract l.toNat h.toNat
def sAt (s : ByteArray) (n : Int) : Int := ((s.data[n.toNat]?).getD 0).toNat
def eJ {e : Ty} (xs : List (den e)) (l h : Int) : List (den e) := (xs.take h.toNat).drop l.toNat
def bv (l h n : Int) : Prop := 0 ≤ l ∧ l ≤ h ∧ h ≤ n
def my {e : Ty} (xs : List (den e)) (n : Int) (y : den e) : List (den e) := xs.set n.toNat y
def nz (b : Int) : Prop := b ≠ 0
def ge0 (b : Int) : Prop := 0 ≤ b
def Bk (a b : Int) : Prop := a = b
def sP (n : Int) : Int := 0 - n
def aK (s : ByteArray) : List Int := s.data.toList.map fun b => (b.toNat : Int)
def aj (xs : List Int) : ByteArray := ⟨(xs.map fun n => UInt8.ofNat n.toNat).toArray⟩
def eqb : (t : Ty) → den t → den t → Bool
 | .int _, x, y => eqI x y
 | .bool, x, y => eqO x y
 | .str, x, y => eqS x y
 | .unit, _, _ => true
 | .pair a b, x, y => eqb a x.1 y.1 && eqb b x.2 y.2
 | .st b, x, y => eqb b x y
 | .arr _ e, x, y => eqL (eqb e) x y
 | .slc _, _, _ => false
 | .fn _ _, _, _ => false
 | .ref _, _, _ => false
 | .mp _ _, _, _ => false
inductive Sel where
 | fld (i : Nat)
 | idx (i : Int)
inductive K where
 | any
 | nilsl
 | val (t : Ty) (x : den t)
 | clip (e : Ty) (xs : List (den e))
 | grd (s : Nat) (w : Bool) (cs : List (Bool × Bool)) (k : K)
 | opt (cs : List (Bool × Bool)) (k : K)
 | tup (t : Ty) (x : den t)
 | ref (t : Ty) (x : den t)
 | ptr (id : Nat) (base : Ty) (path : List Sel)
 | sl (id : Nat) (e : Ty)
 | fnc (f : Nat)
 | knil
 | kcons (a b : K)
 | agg (b : Ty) (c : K)
 | clo (f : Nat) (c : K)
 | vw (id : Nat) (e : Ty) (lo n : Nat)
 | sel (c : Bool) (a b : K)
 | pm (id : Nat)
 | nilmp
 | ifc (t : Nat) (k : K)
 | nilif
 | yld (id : Nat)
 | asl (id : Nat) (base : Ty) (p : List Sel) (m : Nat) (e : Ty) (lo n : Nat)
 | lit (b : Bool)
inductive Bx where
 | cell (t : Ty) (x : den t)
 | row (e : Ty) (xs : List (den e))
 | full (e : Ty) (n : Nat) (zs : List (den e))
 | obj (t : Ty) (k : K)
 | mpd (k v : Ty) (l : List (den k × den v))
 | mpk (k : Ty) (l : K)
 | itr (k v : Ty) (left : List (den k × den v)) (cur : Option (den k × den v))
 | lop (st : LoopState) (pend : Option Code) (s : List (Nat × K)) (f : Nat) (params : Array Nat) (assign body : Code)
 | dfr
inductive BS where
 | no
 | dead
 | live (x : Bx)
def Kt : K → K
 | .val (.pair a _) p => .val a p.1
 | _ => .any
def Ky : K → K
 | .val (.pair _ b) p => .val b p.2
 | _ => .any
def Kx : K → K
 | .val (.st b) x => .val b x
 | _ => .any
def cp : K → Nat → K
 | k, 0 => Kt k
 | k, i + 1 => cp (Ky k) i
def dT (t t' : Ty) (x : den t') : Option (den t) := if h : t' = t then some (h ▸ x) else none
def be (t : Ty) : K → Option (den t)
 | .val t' x => dT t t' x
 | .nilsl => match t with
  | .slc _ => some []
  | _ => none
 | .clip e xs => dT t (.slc e) xs
 | .ref u x => dT t (.ref u) x
 | _ => none
def nav : K → List Sel → K
 | k, [] => k
 | k, .fld i :: p => nav (cp (Kx k) i) p
 | .val (.arr _ e) xs, .idx n :: p => nav (.val e (el e xs n)) p
 | _, .idx _ :: _ => .any
def mY : (b : Ty) → den b → Nat → ((t : Ty) → den t → Option (den t)) → Option (den b)
 | .pair a _, x, 0, f => match f a x.1 with | some y => some (y, x.2) | none => none
 | .pair _ b, x, i + 1, f => match mY b x.2 i f with | some y => some (x.1, y) | none => none
 | _, _, _, _ => none
def lE (v : K) : List Sel → (t : Ty) → den t → Option (den t)
 | [], t, _ => be t v
 | .fld i :: p, t, x => match t, x with
  | .st b, x => mY b x i (fun t y => lE v p t y)
  | _, _ => none
 | .idx n :: p, t, x => match t, x with
  | .arr _ e, xs => match lE v p e (el e xs n) with
   | some y => some (my (e := e) xs n y)
   | none => none
  | _, _ => none
def Bx.nav : Bx → List Sel → K
 | .cell t x, p => Go.Proofs.YtnakjijahkaoaaaDoor.nav (.val t x) p
 | .row e xs, .idx n :: p => Go.Proofs.YtnakjijahkaoaaaDoor.nav (.val e (el e xs n)) p
 | _, _ => .any
def Bx.upd : Bx → List Sel → K → Option Bx
 | .cell t x, p, v =>
  match lE v p t x with
  | some z => some (.cell t z)
  | none => none
 | .row e xs, .idx n :: p, v =>
  match lE v p e (el e xs n) with
  | some y => some (.row e (my (e := e) xs n y))
  | none => none
 | _, _, _ => none
def tc (bx : Bx) (base : Ty) : Bool :=
 match bx with
 | .cell t _ => decide (base = t)
 | .row e _ => decide (base = .slc e)
 | _ => false
def xR (bx : Bx) (p : List Sel) : List Prop :=
 match bx, p with
 | .row _ xs, .idx n :: _ => [inB n (ln xs)]
 | _, _ => []
def bU : Ty → Nat → Option Ty
 | .pair a _, 0 => some a
 | .pair _ b, i + 1 => bU b i
 | _, _ => none
def ci : Ty → List Sel → Option Ty
 | t, [] => some t
 | .st b, .fld i :: p => match bU b i with | some t => ci t p | none => none
 | .arr _ e, .idx _ :: p => ci e p
 | .slc e, .idx _ :: p => ci e p
 | _, _ => none
def ba : Ty → Nat → Nat
 | .pair _ _, 0 => 0
 | .pair a b, i + 1 => siz a + ba b i
 | _, _ => 0
def az : Ty → List Sel → Nat
 | _, [] => 0
 | .st b, .fld i :: p => ba b i + (match bU b i with | some t => az t p | none => 0)
 | .arr _ e, .idx n :: p => n.toNat * siz e + az e p
 | .slc e, .idx n :: p => n.toNat * siz e + az e p
 | _, _ => 0
structure bh where
 as : Ty
 rs : Ty
 g : den as → den rs
 pre : den as → Prop
 tot : Bool := false
structure qp where
 e : Ty
 arg : Bool
 as : Ty
 ret : Bool
 pre : List (den e) → den as → Prop
 g : List (den e) → den as → List (den e)
structure aF where
 T : List (Nat × Ty)
 F : List (Nat × bh)
 G : List (Nat × (t : Ty) × den t) := []
 own : List Nat := []
 n : Nat := 100000
 R : List (Nat × qp) := []
 ovl : List Nat := []
def aF.ty (D : aF) (t : TypeId) : Option Ty := D.T.lookup t
structure Env where
 s : Nat → K
 b : Nat → BS
 lim : Nat
def jQ (g : Option (Nat × Bool)) : K → K
 | .grd s w _ k => match g with | some (s', w') => if s' = s then (if w' = w then k else .any) else .any | none => .any
 | .opt _ _ => .any
 | .lit b => .val .bool b
 | k => k
def Bm : Value → K
 | .int k n => if k.min ≤ n ∧ n ≤ k.max then .val (.int k) n else .any
 | .bool b => .val .bool b
 | .string s => if s.size ≤ 1000000 then .val .str s else .any
 | .slice none 0 0 => .nilsl
 | .map none => .nilmp
 | _ => .any
def rd (D : aF) (s : Nat → K) (g : Option (Nat × Bool)) : Operand → K
 | .tmp t => jQ g (s t)
 | .const v => Bm v
 | .global x => match D.G.lookup x with | some ⟨t, y⟩ => .ref t y | none => .any
 | .func f => match D.F.lookup f with
  | some S => if S.tot then .val (.fn S.as S.rs) (some S.g) else .fnc f
  | none => .fnc f
def Bb {a r : Ty} (g : den (.fn a r)) (x : den a) : den r := match g with | some h => h x | none => zero r
def Iy {a r : Ty} (g : den (.fn a r)) : Prop := ∃ h, g = some h
def cL : (t : Ty) → List K → Option (den t)
 | .unit, [] => some ()
 | .pair a b, k :: ks => match be a k, cL b ks with | some x, some y => some (x, y) | _, _ => none
 | _, _ => none
def pB : Nat → (as : Ty) → List K → Option ((a : Ty) × (den a → den as))
 | 0, as, ks => match cL as ks with | some x => some ⟨.unit, fun _ => x⟩ | none => none
 | n + 1, .pair p b, ks => match pB n b ks with | some ⟨a, h⟩ => some ⟨.pair p a, fun y => (y.1, h y.2)⟩ | none => none
 | _ + 1, _, _ => none
def md : Ty → Nat
 | .pair _ b => md b + 1
 | _ => 0
def nV : K → Option Bool
 | .val .bool b => some b
 | _ => none
def er : K → Option Int
 | .val (.int _) n => some n
 | _ => none
def BE (op : BinOp) (k : IntKind) (a b : Int) : Option (K × List Prop) :=
 match op with
 | .add => some (.val (.int k) (k.wrap (a + b)), [])
 | .sub => some (.val (.int k) (k.wrap (a - b)), [])
 | .mul => some (.val (.int k) (k.wrap (a * b)), [])
 | .quo => some (.val (.int k) (k.wrap (a.tdiv b)), [nz b])
 | .rem => some (.val (.int k) (a.tmod b), [nz b])
 | .and => some (.val (.int k) (k.wrap (BitVec.ofInt k.bits a &&& BitVec.ofInt k.bits b).toNat), [])
 | .or => some (.val (.int k) (k.wrap (BitVec.ofInt k.bits a ||| BitVec.ofInt k.bits b).toNat), [])
 | .xor => some (.val (.int k) (k.wrap (BitVec.ofInt k.bits a ^^^ BitVec.ofInt k.bits b).toNat), [])
 | .andNot => some (.val (.int k) (k.wrap (BitVec.ofInt k.bits a &&& ~~~BitVec.ofInt k.bits b).toNat), [])
 | .eql => some (.val .bool (decide (a = b)), [])
 | .neq => some (.val .bool (!decide (a = b)), [])
 | .lss => some (.val .bool (decide (a < b)), [])
 | .leq => some (.val .bool (decide (a ≤ b)), [])
 | .gtr => some (.val .bool (decide (b < a)), [])
 | .geq => some (.val .bool (decide (b ≤ a)), [])
 | _ => none
def wa (op : BinOp) (k : IntKind) (a b : Int) : Option (K × List Prop) :=
 match op with
 | .shl => some (.val (.int k) (k.wrap (a * 2 ^ (min b.toNat k.bits))), [ge0 b])
 | .shr => some (.val (.int k) (a.fdiv (2 ^ (min b.toNat k.bits))), [ge0 b])
 | _ => none
def BT (op : BinOp) (a b : ByteArray) : Option (K × List Prop) :=
 match op with
 | .add => some (.val .str (a ++ b), [a.size + b.size ≤ 1099511627776])
 | .eql => some (.val .bool (eqb .str a b), [])
 | .neq => some (.val .bool (!eqb .str a b), [])
 | .lss => some (.val .bool (Op.bytesLess a.toList b.toList), [])
 | _ => none
def EH (op : BinOp) (a b : Bool) : Option (K × List Prop) :=
 match op with
 | .eql => some (.val .bool (eqO a b), [])
 | .neq => some (.val .bool (!eqO a b), [])
 | _ => none
def lM : Ty → Bool
 | .int _ => true
 | .bool => true
 | .str => true
 | .unit => true
 | .pair a b => lM a && lM b
 | .st b => lM b
 | .arr _ e => lM e
 | _ => false
def B5 (op : BinOp) (t : Ty) (a b : den t) : Option (K × List Prop) :=
 if lM t && isAgg t then
  match op with
  | .eql => some (.val .bool (eqb t a b), [])
  | .neq => some (.val .bool (!eqb t a b), [])
  | _ => none
 else none
def Jr : BinOp → Bool
 | .shl => true
 | .shr => true
 | _ => false
def bop (tx : Option Ty) (op : BinOp) (x y : K) : Option (K × List Prop) :=
 match x, y with
 | .val (.int k) a, .val (.int k') b => if Jr op then wa op k a b else if k = k' then BE op k a b else none
 | .val .str a, .val .str b => BT op a b
 | .val .bool a, .val .bool b => if tx = some .bool then EH op a b else none
 | .val t a, y => if tx = some t then (match be t y with | some b => B5 op t a b | none => none) else none
 | _, _ => none
abbrev Chg := List (Nat × BS)
def aJ (b : Nat → BS) (id : Nat) : Bool := match b id with | .no => true | _ => false
def ak (b : Nat → BS) (id : Nat) : Option Bx := match b id with | .live x => some x | _ => none
def jv (r : Operand → K) (e : Ty) : List (den e) → List (Nat × Operand) → Option (List (den e))
 | xs, [] => some xs
 | xs, (i, o) :: l => if i < xs.length then (match be e (r o) with
  | some y => jv r e (xs.set i y) l
  | none => none) else none
def nO (r : Operand → K) (b : Ty) : den b → List (Nat × Operand) → Option (den b)
 | x, [] => some x
 | x, (i, o) :: l => match mY b x i (fun t _ => be t (r o)) with
  | some y => nO r b y l
  | none => none
def sh : (t : Ty) → den t → K
 | .pair a .unit, x => .val a x.1
 | .pair a (.pair b c), x => .tup (.pair a (.pair b c)) x
 | _, _ => .any
def nh (b : Nat → BS) (e : Ty) (k : K) : Option (List (den e)) :=
 match k with
 | .sl id _ => match ak b id with
  | some (.row e' xs) => if h : e' = e then some (h ▸ xs) else none
  | _ => none
 | k => be (.slc e) k
def qy (b : Nat → BS) (t : Ty) (k : K) : Option Int :=
 match t, k with
 | .str, .val .str s => some (ax s)
 | .slc _, .val (.slc e) xs => some (ln (e := e) xs)
 | .slc _, .clip _ xs => some (ln xs)
 | .slc _, .nilsl => some 0
 | .slc _, .sl id _ => match ak b id with
  | some (.row _ xs) => some (ln xs)
  | _ => none
 | .arr n _, .val (.arr _ _) _ => some n
 | _, _ => none
def Ck (x y : K) : Option K :=
 match x, y with
 | .val (.int k) a, .val (.int k') b => if k = k' then some (.val (.int k) (bI a b)) else none
 | _, _ => none
def CU (x y : K) : Option K :=
 match x, y with
 | .val (.int k) a, .val (.int k') b => if k = k' then some (.val (.int k) (Fg a b)) else none
 | _, _ => none
def ul (f : K → K → Option K) : K → List K → Option K
 | k, [] => some k
 | k, l :: ls => match f k l with | some m => ul f m ls | none => none
def cJ : Nat := 1073741824
def cg (D : aF) (o : Oper) (r : Operand → K) (b : Nat → BS) (id : Nat) : Option (K × Chg × List Prop) :=
 match o.op with
 | .move x | .assign x => some (r x, [], [])
 | .alloc e => match D.ty e with
  | some t => if aJ b id then some (.ptr id t [], [(id, .live (.cell t (zero t)))], []) else none
  | none => none
 | .box e x => match D.ty e with
  | some t => match be t (r x) with
   | some v => if aJ b id then some (.ptr id t [], [(id, .live (.cell t v))], []) else none
   | none => none
  | none => none
 | .build e parts => match D.ty e with
  | some (.st bd) => match nO r bd (zero bd) parts.toList with
   | some v => some (.val (.st bd) v, [], [])
   | none => none
  | some (.arr n e) => match jv r e (List.replicate n (zero e)) parts.toList with
   | some xs => some (.val (.arr n e) xs, [], [])
   | none => none
  | _ => none
 | .buildSlice t n parts => match D.ty t with
  | some (.slc e) => if 16777216 < n * siz e then none else match jv r e (List.replicate n (zero e)) parts.toList with
   | some xs => match o.dst with
    | some d => if D.own.contains d then (if aJ b id then some (.sl id e, [(id, .live (.row e xs))], []) else none) else some (.val (.slc e) xs, [], [])
    | none => none
   | none => none
  | _ => none
 | .load t a => match D.ty t with
  | some t => match r a with
   | .ptr i base p => match ak b i with
    | some bx => if tc bx base then (if ci base p = some t then (match be t (bx.nav p) with | some v => some (.val t v, [], xR bx p) | none => none) else none) else none
    | none => none
   | .ref t' x => if t' = t then some (.val t' x, [], []) else none
   | _ => none
  | none => none
 | .store t a v => match D.ty t with
  | some t => match r a with
   | .ptr i base p => match ak b i with
    | some bx => if tc bx base then (if ci base p = some t then (match be t (r v) with
     | some y => match bx.upd p (.val t y) with
      | some bx' => some (.any, [(i, .live bx')], xR bx p)
      | none => none
     | none => none) else none) else none
    | none => none
   | _ => none
  | none => none
 | .nilCheck x => match r x with
  | .ptr i base p => some (.ptr i base p, [], [])
  | .ref t y => some (.ref t y, [], [])
  | _ => none
 | .binOp op tx x y _ => match bop (D.ty tx) op (r x) (r y) with
  | some (k, ps) => some (k, [], ps)
  | none => none
 | .unOp op _ x => match op, r x with
  | .not, .val .bool c => some (.val .bool (!c), [], [])
  | .neg, .val (.int k) n => some (.val (.int k) (k.wrap (sP n)), [], [])
  | _, _ => none
 | .convert src dst x => match D.ty dst, r x with
  | some (.int k), .val (.int _) n => if (D.ty src).isSome then some (.val (.int k) (k.wrap n), [], []) else none
  | some .str, .val (.slc (.int .u8)) xs => if D.ty src = some (.slc (.int .u8)) then some (.val .str (aj xs), [], []) else none
  | _, _ => none
 | .field tx x i => match D.ty tx, r x with
  | some (.st b'), .val (.st bd) y => if b' = bd then (match cp (.val bd y) i with
   | .val t z => some (.val t z, [], [])
   | _ => none) else none
  | _, _ => none
 | .fieldAddr s x i => match D.ty s with
  | some (.st bd) => match r x with
   | .ptr j base p => if ci base p = some (.st bd) then (match bU bd i with
    | some _ => some (.ptr j base (p ++ [.fld i]), [], [])
    | none => none) else none
   | .ref (.st b') y => if b' = bd then (match cp (.val b' y) i with
    | .val t z => some (.ref t z, [], [])
    | _ => none) else none
   | _ => none
  | _ => none
 | .indexAddr tx x i => match D.ty tx, r i with
  | some (.slc e), .val (.int _) n => match r x with
   | .val (.slc e') xs => if e' = e then some (.ref e' (el e' xs n), [], [inB n (ln (e := e') xs)]) else none
   | .clip e' xs => if e' = e then some (.ref e' (el e' xs n), [], [inB n (ln (e := e') xs)]) else none
   | .sl j e' => if e' = e then (match ak b j with
    | some (.row e'' xs) => if e'' = e then some (.ptr j (.slc e') [.idx n], [], [inB n (ln xs)]) else none
    | _ => none) else none
   | _ => none
  | some (.arr m e), .val (.int _) n => match r x with
   | .ref (.arr m' e') xs => if m' = m ∧ e' = e then some (.ref e' (el e' xs n), [], [inB n (m : Nat)]) else none
   | .ptr j base p => if ci base p = some (.arr m e) then some (.ptr j base (p ++ [.idx n]), [], [inB n (m : Nat)]) else none
   | _ => none
  | _, _ => none
 | .index tx x i => match D.ty tx, r x, r i with
  | some (.arr m e), .val (.arr m' e') xs, .val (.int _) n => if m' = m ∧ e' = e then some (.val e' (el e' xs n), [], [inB n (m : Nat)]) else none
  | some .str, .val .str s, .val (.int _) n => some (.val (.int .u8) (sAt s n), [], [inB n (ax s)])
  | _, _, _ => none
 | .extract x i => match r x with
  | .tup t y => match cp (.val t y) i with
   | .val u z => some (.val u z, [], [])
   | _ => none
  | _ => none
 | .slice tx x lo hi mx =>
  match (match lo with | none => some 0 | some o => er (r o)), mx with
  | some l, none => match D.ty tx, r x with
   | some .str, .val .str s => match (match hi with | none => some (ax s) | some o => er (r o)) with
    | some h => some (.val .str (a6 s l h), [], [bv l h (ax s)])
    | none => none
   | some (.slc e), .val (.slc e') xs => if e' = e then (match (match hi with | none => some (ln (e := e') xs) | some o => er (r o)) with
    | some h => some (.val (.slc e') (eJ (e := e') xs l h), [], [bv l h (ln (e := e') xs)])
    | none => none) else none
   | some (.slc e), .clip e' xs => if e' = e then (match (match hi with | none => some (ln (e := e') xs) | some o => er (r o)) with
    | some h => some (.val (.slc e') (eJ (e := e') xs l h), [], [bv l h (ln (e := e') xs)])
    | none => none) else none
   | some (.arr m e), .ref (.arr m' e') xs => if m' = m ∧ e' = e then (match (match hi with | none => some (m : Int) | some o => er (r o)) with
    | some h => some (.val (.slc e') (eJ (e := e') xs l h), [], [bv l h (m : Int)])
    | none => none) else none
   | _, _ => none
  | some l, some mo => match D.ty tx, hi with
   | some (.slc e), some ho => match be (.slc e) (r x), er (r ho), er (r mo) with
    | some xs, some h, some m => some (.clip e (eJ (e := e) xs 0 h), [], [Bk l 0, Bk h m, bv 0 h (ln (e := e) xs)])
    | _, _, _ => none
   | _, _ => none
  | none, _ => none
 | .call c => match c.callee with
  | .builtin .len => match c.args.toList, (c.argTypes[0]?).bind D.ty with
   | [x], some t => match qy b t (r x) with | some n => some (.val af n, [], []) | none => none
   | _, _ => none
  | .builtin .min => match c.args.toList with
   | x :: l => match ul Ck (r x) (l.map r) with | some k => some (k, [], []) | none => none
   | _ => none
  | .builtin .max => match c.args.toList with
   | x :: l => match ul CU (r x) (l.map r) with | some k => some (k, [], []) | none => none
   | _ => none
  | .builtin .append => match c.args.toList, c.argTypes.toList with
   | [x, y], [t, t'] => if t' = t then (match D.ty t with
    | some (.slc e) => match nh b e (r y) with
     | some ys => match r x with
      | .sl j _ => match ak b j with
       | some (.row e' xs) => match dT (.slc e) (.slc e') xs with
        | some xs => if aJ b id then some (.sl id e, [(j, .dead), (id, .live (.row e ((xs : List (den e)) ++ ys)))], [((xs : List (den e)) ++ ys).length ≤ cJ]) else none
        | none => none
       | _ => none
      | .nilsl => if aJ b id then some (.sl id e, [(id, .live (.row e ys))], [ys.length ≤ cJ]) else none
      | .clip e' xs => match dT (.slc e) (.slc e') xs with
       | some xs => if aJ b id then some (.sl id e, [(id, .live (.row e ((xs : List (den e)) ++ ys)))], [((xs : List (den e)) ++ ys).length ≤ cJ, (xs : List (den e)) = [] ∨ ys ≠ []]) else none
       | none => none
      | _ => none
     | none => none
    | _ => none) else none
   | _, _ => none
  | .value (.func f) => match D.F.lookup f with
   | some S => match cL S.as (c.args.toList.map r) with
    | some x => some (sh S.rs (S.g x), [], [S.pre x])
    | none => none
   | none => none
  | .value x => match r x with
   | .val (.fn a rs) g => match cL a (c.args.toList.map r) with
    | some y => some (sh rs (Bb (a := a) (r := rs) g y), [], [Iy (a := a) (r := rs) g])
    | none => none
   | _ => none
  | _ => none
 | .makeFunc (.func f) first captured => if first.size = 0 then (match D.F.lookup f with
  | some S => match pB (md S.as - captured.size) S.as (captured.toList.map r) with
   | some ⟨a, h⟩ => some (.val (.fn a S.rs) (some fun y => S.g (h y)), [], [∀ y, S.pre (h y)])
   | none => none
  | none => none) else none
 | _ => none
end Go.Proofs.YtnakjijahkaoaaaDoor
namespace Go.Proofs.YtnakjijahkaoaaaDoor
open Go Go.RowKit
def nog : K → Bool
 | .grd _ _ _ _ => false
 | .opt _ _ => false
 | .kcons a b => nog a && nog b
 | .agg _ c => nog c
 | .clo _ c => nog c
 | .sel _ a b => nog a && nog b
 | .ifc _ k => nog k
 | _ => true
def strip (k : K) : K := if nog k then k else .any
def nP : K → Nat → K
 | .kcons a _, 0 => a
 | .kcons _ b, i + 1 => nP b i
 | _, _ => .any
def Cv : K → Nat → Bool
 | .kcons _ _, 0 => true
 | .kcons _ b, i + 1 => Cv b i
 | _, _ => false
def kf : K → Nat → K → Option K
 | .kcons _ b, 0, k => some (.kcons k b)
 | .kcons a b, i + 1, k => match kf b i k with | some b' => some (.kcons a b') | none => none
 | _, _, _ => none
def kY : List K → K
 | [] => .knil
 | k :: l => .kcons k (kY l)
def eF (b : Nat → BS) (e : Ty) (id : Nat) : Option (Nat × List (den e)) :=
 match ak b id with
 | some (.row e' xs) => match dT (.slc e) (.slc e') xs with | some ys => some (ys.length, ys) | none => none
 | some (.full e' n zs) => match dT (.slc e) (.slc e') zs with | some ys => some (n, ys) | none => none
 | _ => none
structure Vw (e : Ty) where
 id : Nat
 lo : Nat
 n : Nat
 kn : List (den e)
def cz (b : Nat → BS) (e : Ty) : K → Option (Vw e)
 | .sl id _ => match eF b e id with | some (n, zs) => some ⟨id, 0, n, zs⟩ | none => none
 | .vw id e' lo n => if e' = e then (match eF b e id with | some (_, zs) => some ⟨id, lo, n, zs⟩ | none => none) else none
 | _ => none
def eD (b : Nat → BS) (e : Ty) (id : Nat) (zs : List (den e)) : Bx :=
 match ak b id with
 | some (.full _ n _) => .full e n zs
 | _ => .row e zs
def Vw.part {e : Ty} (v : Vw e) : List (den e) := (v.kn.drop v.lo).take v.n
def Vw.ok {e : Ty} (v : Vw e) : Prop := v.lo + v.n ≤ v.kn.length
def over {α : Type} (zs : List α) (i : Nat) (ys : List α) : List α := zs.take i ++ ys ++ zs.drop (i + ys.length)
def nU (b : Nat → BS) (e : Ty) (k : K) : Option (List (den e) × List Prop) :=
 match cz b e k with
 | some v => some (v.part, [v.ok])
 | none => match be (.slc e) k with
  | some ys => some (ys, [])
  | none => none
def CJ (b : Nat → BS) (e : Ty) (k : K) : Option (List (den e) × List Prop) :=
 match nU b e k with
 | some q => some q
 | none => match e, k with
  | .int .u8, .val .str s => some (aK s, [])
  | _, _ => none
def asB (b : Nat → BS) : (t : Ty) → K → Option (den t)
 | .slc e, .sl id _ => match ak b id with
  | some (.row e' xs) => dT (.slc e) (.slc e') xs
  | _ => none
 | t, k => be t k
def jT (b : Nat → BS) : (t : Ty) → List K → Option (den t)
 | .unit, [] => some ()
 | .pair a c, k :: ks => match asB b a k, jT b c ks with | some x, some y => some (x, y) | _, _ => none
 | _, _ => none
def iT : Ty → Bool
 | .int _ => true
 | .bool => true
 | .str => true
 | .unit => true
 | .pair a b => iT a && iT b
 | .st b => iT b
 | .arr _ e => iT e
 | _ => false
inductive Eff where
 | one (k : K) (ch : Chg) (ps : List Prop)
 | ex (α : Type) (p : α → Prop) (k : α → K) (ch : α → Chg)
def one (q : Option (K × Chg × List Prop)) : Option Eff := match q with | some (k, ch, ps) => some (.one k ch ps) | none => none
def G5 (k : K) : Bool := match k with | .nilsl => true | _ => false
def ze (b : Nat → BS) (k : K) : Option (Bool ⊕ Prop) :=
 match k with
 | .nilsl => some (.inl true)
 | .val (.slc _) xs => some (.inr (xs = []))
 | .clip _ xs => some (.inr (xs = []))
 | .sl id _ => match ak b id with
  | some (.row _ xs) => some (.inr (xs = []))
  | _ => none
 | _ => none
def dU (D : aF) (o : Oper) (r : Operand → K) (b : Nat → BS) (id : Nat) : Option Eff :=
 match o.op with
 | .extract x i => match r x with
  | .kcons a c => if Cv (.kcons a c) i then some (.one (nP (.kcons a c) i) [] []) else none
  | _ => none
 | .makeFunc (.func f) first captured => if first.size = 0 then some (.one (.clo f (kY (captured.toList.map r))) [] []) else none
 | .binOp op tx x y _ => match D.ty tx with
  | some (.slc _) => if G5 (r y) then (match op, ze b (r x) with
   | .eql, some (.inl c) => some (.one (.val .bool c) [] [])
   | .neq, some (.inl c) => some (.one (.val .bool (!c)) [] [])
   | .eql, some (.inr p) => some (.ex Bool (fun c => c = true → p) (fun c => .val .bool c) (fun _ => []))
   | .neq, some (.inr p) => some (.ex Bool (fun c => c = true → p) (fun c => .val .bool (!c)) (fun _ => []))
   | _, _ => none) else none
  | _ => none
 | .slice tx x lo hi mx => match D.ty tx with
  | some (.slc e) => match cz b e (r x) with
   | some v => match (match lo with | none => some 0 | some q => er (r q)), (match hi with | none => some (v.n : Int) | some q => er (r q)) with
    | some l, some h => match mx with
     | none => some (.one (.vw v.id e (v.lo + l.toNat) (h.toNat - l.toNat)) [] [v.ok, bv l h ((v.kn.length - v.lo : Nat) : Int)])
     | some q => match er (r q) with
      | some m => if hi.isSome then some (.one .any [] [v.ok, bv l h m, m ≤ ((v.kn.length - v.lo : Nat) : Int)]) else none
      | none => none
    | _, _ => none
   | none => match be (.slc e) (r x), mx with
    | some xs, some q => match (match lo with | none => some 0 | some q => er (r q)), (match hi with | none => some (ln (e := e) xs) | some q => er (r q)), er (r q) with
     | some l, some h, some m => if hi.isSome then some (.one .any [] [bv l h m, m ≤ ln (e := e) xs]) else none
     | _, _, _ => none
    | _, _ => none
  | some (.arr m e) => match r x, mx with
   | .ptr j base p, none => if ci base p = some (.arr m e) then (match (match lo with | none => some 0 | some q => er (r q)), (match hi with | none => some (m : Int) | some q => er (r q)) with
    | some l, some h => some (.one (.asl j base p m e l.toNat (h.toNat - l.toNat)) [] [bv l h m])
    | _, _ => none) else none
   | _, _ => none
  | _ => none
 | .call c => match c.callee with
  | .builtin .len => match c.args.toList, (c.argTypes[0]?).bind D.ty with
   | [x], some (.slc e) => match cz b e (r x) with
    | some v => some (.one (.val af (v.n : Nat)) [] [])
    | none => none
   | _, _ => none
  | .builtin .cap => match c.args.toList, (c.argTypes[0]?).bind D.ty with
   | [x], some (.slc e) => match r x with
    | .sl j _ => match ak b j with
     | some (.row e' xs) => match dT (.slc e) (.slc e') xs with
      | some xs => some (.ex (List (den e)) (fun sp => ((xs : List (den e)) ++ sp).length ≤ maxLen) (fun sp => .val af (((xs : List (den e)) ++ sp).length : Nat)) (fun sp => [(j, .live (.full e (xs : List (den e)).length (xs ++ sp)))]))
      | none => none
     | _ => none
    | _ => none
   | _, _ => none
  | .builtin .copy => match c.args.toList, (c.argTypes[0]?).bind D.ty with
   | [x, y], some (.slc e) => match cz b e (r x), nU b e (r y) with
    | some v, some (ys, ps) => some (.one (.val af (min ys.length v.n : Nat)) [(v.id, .live (eD b e v.id (over v.kn v.lo (ys.take v.n))))] (v.ok :: ps))
    | none, _ => (match r x, CJ b e (r y) with
     | .asl j base p m e' lo n, some (ys, ps) => if e' = e then (match ak b j with
      | some (.cell t z) => if t = base then (match be (.arr m e) (nav (.val t z) p) with
       | some old => (match Bx.upd (.cell t z) p (.val (.arr m e) (over (α := den e) old lo (ys.take n))) with
        | some bx => some (.one (.val af (min ys.length n : Nat)) [(j, .live bx)] ps)
        | none => none)
       | none => none) else none
      | _ => none) else none
     | _, _ => none)
    | _, _ => none
   | _, _ => none
  | .builtin .clear => match c.args.toList, (c.argTypes[0]?).bind D.ty with
   | [x], some (.slc e) => match cz b e (r x) with
    | some v => some (.one .any [(v.id, .live (eD b e v.id (over v.kn v.lo (List.replicate v.n (zero e)))))] [v.ok])
    | none => none
   | _, _ => none
  | .builtin .append => match c.args.toList, c.argTypes.toList with
   | [x, y], [t, t'] => match D.ty t with
    | some (.slc e) => match r x, cz b e (r x) with
     | .vw j _ _ _, some v =>
      if t' = t then (match nU b e (r y), ak b j with
       | some (ys, ps), some (.row _ _) => some (.one (.vw v.id e v.lo (v.n + ys.length)) [(v.id, .live (eD b e v.id (over v.kn (v.lo + v.n) ys)))] ([v.ok, v.lo + v.n + ys.length ≤ v.kn.length] ++ ps))
       | _, _ => none)
      else (match D.ty t', er (r y), ak b j with
       | some (.int _), some n, some (.full _ _ _) => if aJ b id && decide (v.lo = 0) then some (.one (.sl id e) [(id, .live (.row e (v.part ++ List.replicate n.toNat (zero e))))] [v.ok, 0 < n, v.kn.length < v.n + n.toNat, v.n + n.toNat ≤ cJ]) else none
       | _, _, _ => none)
     | _, _ => none
    | _ => none
   | _, _ => none
  | .value (.func f) =>
   if D.ovl.contains f then (match c.args.toList with
    | [x, y] => match r x, r y with
     | .val (.slc e1) _, .vw j e2 _ _ => if decide (1 ≤ siz e1) && (eF b e2 j).isSome && !decide (e2 = .int .u8) then some (.one (.val .bool false) [] []) else none
     | _, _ => none
    | _ => none) else
   match D.R.lookup f with
   | some S => match S.arg, c.args.toList with
    | true, x :: l => match cz b S.e (match r x with | .nilsl => .any | k => k), cL S.as (l.map r) with
     | some v, some y => if S.ret then (if aJ b id then some (.one (.sl id S.e) [(v.id, .dead), (id, .live (.row S.e (S.g v.part y)))] [v.ok, S.pre v.part y]) else none) else none
     | _, _ => none
    | false, l => match cL S.as (l.map r) with
     | some y => if S.ret && aJ b id then some (.one (.sl id S.e) [(id, .live (.row S.e (S.g [] y)))] [S.pre [] y]) else none
     | none => none
    | _, _ => none
   | none => match D.F.lookup f with
    | some S => if iT S.rs then (match jT b S.as (c.args.toList.map r) with
     | some x => some (.one (sh S.rs (S.g x)) [] [S.pre x])
     | none => none) else none
    | none => none
  | _ => none
 | _ => none
def bK (o : Oper) : Bool :=
 match o.op with
 | .extract _ _ => true
 | .slice _ _ _ _ _ => true
 | .call c => match c.callee with
  | .builtin .append => true
  | .builtin .copy => true
  | .builtin .clear => true
  | .value (.func _) => true
  | _ => false
 | _ => false
def tf : Ty → Bool
 | .pair (.slc _) _ => true
 | .pair _ b => tf b
 | _ => false
def bW (D : aF) (o : Oper) (r : Operand → K) (b : Nat → BS) (id : Nat) : Option (K × Chg × List Prop) :=
 match cg D o r b id with
 | some q => some q
 | none => if bK o then (match dU D o r b id with
  | some (.one k ch ps) => some (k, ch, ps)
  | _ => none) else none
def kZ : Ty → K
 | .pair a b => .kcons (kZ a) (kZ b)
 | .unit => .knil
 | .st b => if iT b then .val (.st b) (zero b) else .agg b (kZ b)
 | .slc _ => .nilsl
 | .mp _ _ => .nilmp
 | t => .val t (zero t)
def Ba (t : Ty) : K → Bool
 | .val t' _ => decide (t' = t)
 | .nilsl => match t with | .slc _ => true | _ => false
 | .clip _ _ => match t with | .slc _ => true | _ => false
 | .vw _ _ _ _ => match t with | .slc _ => true | _ => false
 | .pm _ => match t with | .mp _ _ => true | _ => false
 | .nilmp => match t with | .mp _ _ => true | _ => false
 | .agg b _ => decide (t = .st b)
 | _ => false
def iV (b : Nat → BS) (t : Ty) (k : K) : Bool :=
 match k with
 | .sl id _ => (match t with | .slc _ => true | _ => false) && (match ak b id with | some (.row _ _) => true | some (.full _ _ _) => true | _ => false)
 | k => Ba t k
def yn : Ty → K → List Sel → Option K
 | _, k, [] => some k
 | .st b', .agg b c, .fld i :: p => if b' = b then (match bU b i with | some u => yn u (nP c i) p | none => none) else none
 | t, .val t' x, s :: p => if t' = t then (match ci t (s :: p) with
  | some u => (match be u (nav (.val t' x) (s :: p)) with | some y => some (.val u y) | none => none)
  | none => none) else none
 | _, _, _ => none
def ij (bb : Nat → BS) : Ty → K → List Sel → K → Option K
 | t, _, [], v => if iV bb t v then some v else none
 | .st b', .agg b c, .fld i :: p, v => if b' = b then (match bU b i with
  | some u => (match ij bb u (nP c i) p v with
   | some k' => (match kf c i k' with | some c' => some (.agg b c') | none => none)
   | none => none)
  | none => none) else none
 | t, .val t' x, s :: p, v => if t' = t then (match lE v (s :: p) t' x with | some z => some (.val t' z) | none => none) else none
 | _, _, _, _ => none
def jp (r : Operand → K) (b : Ty) : K → List (Nat × Operand) → Option K
 | c, [] => some c
 | c, (i, o) :: l => match bU b i with
  | some u => if Ba u (r o) then (match kf c i (r o) with | some c' => jp r b c' l | none => none) else none
  | none => none
def mV : Ty → Bool
 | .int _ => true
 | .bool => true
 | .str => true
 | .arr _ (.int _) => true
 | _ => false
def js {k v : Ty} (l : List (den k × den v)) (x : den k) : Option (den v) := match l.find? (fun q => eqb k x q.1) with | some q => some q.2 | none => none
def cw {k v : Ty} (l : List (den k × den v)) (x : den k) : den v := (js (k := k) (v := v) l x).getD (zero v)
def bZ {k v : Ty} (l : List (den k × den v)) (x : den k) : Bool := (js (k := k) (v := v) l x).isSome
def cY {k v : Ty} : List (den k × den v) → den k → den v → List (den k × den v)
 | [], x, y => [(x, y)]
 | q :: l, x, y => if eqb k x q.1 then (x, y) :: l else q :: cY l x y
def xM (k v k' v' : Ty) (l : List (den k' × den v')) : Option (List (den k × den v)) := if h : k' = k ∧ v' = v then some (h.1 ▸ h.2 ▸ l) else none
def kg (b : Nat → BS) (k v : Ty) : K → Option (List (den k × den v))
 | .nilmp => some []
 | .pm j => match ak b j with
  | some (.mpd k' v' l) => xM k v k' v' l
  | _ => none
 | .val (.mp k' v') l => xM k v k' v' l
 | _ => none
def d7 (D : aF) (o : Oper) : Bool :=
 match o.dst, o.op with
 | some d, .alloc _ => D.own.contains d
 | some d, .slice _ _ _ _ none => D.own.contains d
 | _, _ => false
def ay (b : Nat → BS) : Chg → Nat → BS
 | [] => b
 | (i, x) :: l => ay (fun n => if n = i then x else b n) l
def m6 (b : Nat → BS) (id : Nat) : K → Option (K × Chg × List Prop)
 | .vw j e lo n => match ak b j with
  | some (.row e' xs) => match dT (.slc e) (.slc e') xs with
   | some xs => if aJ b id then some (.sl id e, [(j, .dead), (id, .live (.row e (((xs : List (den e)).drop lo).take n)))], [lo + n ≤ (xs : List (den e)).length]) else none
   | none => none
  | _ => none
 | _ => none
def fN (D : aF) (t : TypeId) (kx : K) (q : K) (b : Nat → BS) : Option (Nat × BS) :=
 match D.ty t, kx with
 | some u, .ptr i base p => match ak b i with
  | some (.obj t0 k) => if t0 = base then (if ci base p = some u then (if iV b u q && nog q then (match ij b base k p q with | some k' => some (i, .live (.obj base k')) | none => none) else none) else none) else none
  | _ => none
 | _, _ => none
def Bf {k v : Ty} (c : Option (den k × den v)) : den k × den v := c.getD (zero k, zero v)
def cG (D : aF) (o : Oper) (r : Operand → K) (b : Nat → BS) (id : Nat) : Option Eff :=
 match o.op with
 | .alloc e => match D.ty e with
  | some (.st bd) => if aJ b id then some (.one (.ptr id (.st bd) []) [(id, .live (.obj (.st bd) (.agg bd (kZ bd))))] []) else none
  | _ => none
 | .box e x => match D.ty e, r x with
  | some (.st bd), .agg bd' c => if bd' = bd then (if aJ b id && nog c then some (.one (.ptr id (.st bd) []) [(id, .live (.obj (.st bd) (.agg bd c)))] []) else none) else none
  | _, _ => none
 | .build e parts => match D.ty e with
  | some (.st bd) => match jp r bd (kZ bd) parts.toList with
   | some c => some (.one (.agg bd c) [] [])
   | none => none
  | _ => none
 | .load t x => match D.ty t, r x with
  | some u, .ptr i base p => match ak b i with
   | some (.obj t0 k) => if t0 = base then (if ci base p = some u then (match yn base k p with | some k' => some (.one k' [] []) | none => none) else none) else none
   | _ => none
  | _, _ => none
 | .store t x v => match m6 b id (r v) with
  | some (q, ch, ps) => (match fN D t (r x) q (ay b ch) with
   | some c => some (.one .any (ch ++ [c]) ps)
   | none => none)
  | none => (match fN D t (r x) (r v) b with
   | some c => some (.one .any [c] [])
   | none => none)
 | .makeMap t none => match D.ty t with
  | some (.mp k v) => if aJ b id then some (.one (.pm id) [(id, .live (.mpd k v []))] []) else none
  | _ => none
 | .lookup t x i ok => match D.ty t with
  | some (.mp k v) => if mV k then (match kg b k v (r x), be k (r i) with
   | some l, some y => some (.one (if ok then .kcons (.val v (cw l y)) (.kcons (.val .bool (bZ l y)) .knil) else .val v (cw l y)) [] [])
   | _, _ => none) else none
  | _ => none
 | .mapUpdate t x i v => match D.ty t with
  | some (.mp kt vt) => if mV kt then (match r x with
   | .pm j => (match kg b kt vt (.pm j), be kt (r i), be vt (r v) with
    | some l, some y, some z => some (.one .any [(j, .live (.mpd kt vt (cY l y z)))] [])
    | _, _, _ => none)
   | _ => none) else none
  | _ => none
 | .insert t x i v => match D.ty t with
  | some (.mp kt vt) => if mV kt then (match r x with
   | .pm j => (match kg b kt vt (.pm j), be kt (r i), be vt (r v) with
    | some l, some y, some z => some (.one .any [(j, .live (.mpd kt vt (cY l y z)))] [])
    | _, _, _ => none)
   | _ => none) else none
  | _ => none
 | .binOp op tx x y _ => match D.ty tx, r y with
  | some (.mp _ _), .nilmp => (match op, r x with
   | .eql, .nilmp => some (.one (.val .bool true) [] [])
   | .eql, .pm _ => some (.one (.val .bool false) [] [])
   | .neq, .nilmp => some (.one (.val .bool false) [] [])
   | .neq, .pm _ => some (.one (.val .bool true) [] [])
   | _, _ => none)
  | _, _ => none
 | .slice tx x (some lo) none none => match D.ty tx, r x, er (r lo) with
  | some (.slc e), .sl j _, some l => match ak b j with
   | some (.row e' xs) => (match dT (.slc e) (.slc e') xs with
    | some xs => if aJ b id then some (.one (.sl id e) [(j, .dead), (id, .live (.row e ((xs : List (den e)).drop l.toNat)))] [bv l (ln (e := e) xs) (ln (e := e) xs)]) else none
    | none => none)
   | _ => none
  | _, _, _ => none
 | .slice tx x none (some hi) none => match D.ty tx, er (r hi) with
  | some (.slc e), some h => (match r x with
   | .nilsl => some (.one .nilsl [] [bv 0 h 0])
   | .sl j _ => (match ak b j with
    | some (.row e' xs) => (match dT (.slc e) (.slc e') xs with
     | some xs => if aJ b id then some (.one (.sl id e) [(j, .dead), (id, .live (.row e ((xs : List (den e)).take h.toNat)))] [bv 0 h (ln (e := e) xs)]) else none
     | none => none)
    | _ => none)
   | _ => none)
  | _, _ => none
 | .range t x => match D.ty t, r x with
  | some (.mp k v), .pm j => (match kg b k v (.pm j) with
   | some l => if aJ b id then some (.one (.ptr id .unit []) [(j, .dead), (id, .live (.itr k v l none))] []) else none
   | none => none)
  | _, _ => none
 | .next x false => match r x with
  | .ptr j .unit [] => match ak b j with
   | some (.itr k v left _) => some (.ex Nat (fun i => left = [] ∨ i < left.length) (fun _ => .kcons (.val .bool (decide (0 < left.length))) .any) (fun i => [(j, .live (.itr k v (left.eraseIdx i) left[i]?))]))
   | _ => none
  | _ => none
 | .entry x => match r x with
  | .ptr j .unit [] => match ak b j with
   | some (.itr k v _ cur) => some (.one (.kcons (.val k (Bf cur).1) (.kcons (.val v (Bf cur).2) .knil)) [] [cur.isSome = true])
   | _ => none
  | _ => none
 | .makeSlice t l c => match D.ty t, r l, r c with
  | some (.slc e), .val (.int _) n, .val (.int _) m => match o.dst with
   | some d => if D.own.contains d then (if aJ b id then some (.one (.sl id e) [(id, .live (.row e (List.replicate (Int.toNat n) (zero e))))] [(m : Int) = n, (0 : Int) ≤ n, Int.toNat n * siz e ≤ 16777216]) else none)
    else some (.one (.val (.slc e) (List.replicate (Int.toNat n) (zero e))) [] [(m : Int) = n, (0 : Int) ≤ n, Int.toNat n * siz e ≤ 16777216])
   | none => none
  | _, _, _ => none
 | .convert src dst x => match D.ty src, D.ty dst, r x with
  | some .str, some (.slc (.int .u8)), .val .str s => match o.dst with
   | some d => if D.own.contains d then (if aJ b id then some (.one (.sl id (.int .u8)) [(id, .live (.row (.int .u8) (aK s)))] [ByteArray.size s ≤ cJ]) else none) else some (.one (.val (.slc (.int .u8)) (aK s)) [] [ByteArray.size s ≤ cJ])
   | none => none
  | some (.slc (.int .u8)), some .str, .sl j _ => match ak b j with
   | some (.row (.int .u8) xs) => some (.one (.val .str (aj xs)) [] [])
   | _ => none
  | _, _, _ => none
 | .sliceToArrayPointer t x => match D.ty t, r x with
  | some (.arr n e), .val (.slc e') xs => if e' = e ∧ 0 < n then some (.one (.ref (.arr n e') (List.take n (xs : List (den e')))) [] [n ≤ (xs : List (den e')).length]) else none
  | _, _ => none
 | .call c => match c.callee with
  | .builtin .cap => match c.args.toList, (c.argTypes[0]?).bind D.ty with
   | [x], some (.slc _) => (match r x with
    | .nilsl => some (.one (.val af 0) [] [])
    | _ => none)
   | _, _ => none
  | .builtin .append => match c.args.toList, c.argTypes.toList with
   | [x, y], [t, t'] => (match D.ty t, D.ty t', r x, er (r y) with
    | some (.slc e), some (.int _), .nilsl, some n => if aJ b id then some (.one (.sl id e) [(id, .live (.row e (List.replicate (Int.toNat n) (zero e))))] [(0 : Int) < n, Int.toNat n ≤ cJ]) else none
    | _, _, _, _ => none)
   | _, _ => none
  | _ => none
 | _ => none
def cB (o : Oper) : Bool :=
 match o.op with
 | .box _ _ => true
 | .build _ _ => true
 | .load _ _ => true
 | .store _ _ _ => true
 | .makeMap _ none => true
 | .lookup _ _ _ _ => true
 | .mapUpdate _ _ _ _ => true
 | _ => false
def zi (q : Option Eff) : Option (K × Chg × List Prop) := match q with | some (.one k ch ps) => some (k, ch, ps) | _ => none
def dK (D : aF) (o : Oper) (r : Operand → K) (b : Nat → BS) (id : Nat) : Option (K × Chg × List Prop) :=
 if d7 D o then zi (cG D o r b id) else
 match bW D o r b id with
 | some q => some q
 | none => if cB o then zi (cG D o r b id) else none
end Go.Proofs.YtnakjijahkaoaaaDoor
