/- Part 1 of 10 of what this claim's proof stands on: a theory of programs on data, and the contracts of the functions that the law reaches. It holds no condition of its own. -/
import Derived.WalkKit
import Derived.Laws.AppendOwn
import Derived.Orders
import Derived.Deep.Draws
import Derived.Below
import Derived.Still
namespace Go.Proofs.Ytimdnodkabnbfaa
open Go Go.RowKit
inductive Ty where
 | int (k : IntKind)
 | bool
 | str
 | unit
 | pair (a b : Ty)
 | st (b : Ty)
 | arr (n : Nat) (e : Ty)
 | slc (e : Ty)
 | fn (a r : Ty)
 | ref (t : Ty)
 | mp (k v : Ty)
 | clo (f : Nat) (c : Ty)
 deriving DecidableEq
abbrev ae : Ty := .int .i64
@[reducible] def den : Ty → Type
 | .int _ => Int
 | .bool => Bool
 | .str => ByteArray
 | .unit => Unit
 | .pair a b => den a × den b
 | .st b => den b
 | .arr _ e => List (den e)
 | .slc e => List (den e)
 | .fn a r => Option (den a → den r)
 | .ref t => den t
 | .mp k v => List (den k × den v)
 | .clo _ c => den c
def siz : Ty → Nat
 | .int _ => 1
 | .bool => 1
 | .str => 1
 | .unit => 0
 | .pair a b => siz a + siz b
 | .st b => siz b
 | .arr n e => n * siz e
 | .slc _ => 1
 | .fn _ _ => 1
 | .ref _ => 1
 | .mp _ _ => 1
 | .clo _ _ => 1
def isAgg : Ty → Bool
 | .st _ => true
 | .arr _ _ => true
 | _ => false
def az (t : Ty) (cs : List Value) : Value := if isAgg t then .agg cs.toArray else cs.headD undef
structure Lat (O : Nat → Prop) (w : World) (O' : Nat → Prop) (w' : World) : Prop where
 size : w.heap.size ≤ w'.heap.size
 keep : ∀ b, b < w.heap.size → ¬ O b → w'.heap[b]? = w.heap[b]? ∧ ¬ O' b
theorem Lat.refl (O : Nat → Prop) (w : World) : Lat O w O w := ⟨Nat.le_refl _, fun _ _ h => ⟨rfl, h⟩⟩
theorem Lat.trans {O O' O'' : Nat → Prop} {w w' w'' : World} (h : Lat O w O' w') (k : Lat O' w' O'' w'') : Lat O w O'' w'' :=
 ⟨Nat.le_trans h.size k.size, fun b hb hO => by
  have h1 := h.keep b hb hO
  have h2 := k.keep b (Nat.lt_of_lt_of_le hb h.size) h1.2
  exact ⟨h2.1.trans h1.1, h2.2⟩⟩
def Qj : Prop := True
structure Tp (w w' : World) : Prop where
 eq : w'.tape = w.tape
 le : Qj → w.drawn ≤ w'.drawn
theorem Tp.refl (w : World) : Tp w w := ⟨rfl, fun _ => Nat.le_refl _⟩
theorem Tp.trans {a b c : World} (k : Tp b c) (h : Tp a b) : Tp a c := ⟨k.eq.trans h.eq, fun d => Nat.le_trans (h.le d) (k.le d)⟩
theorem Tp.same {w w' : World} (h : w'.tape = w.tape) (k : w'.drawn = w.drawn) : Tp w w' := ⟨h, fun _ => Nat.le_of_eq k.symm⟩
structure Kept (w w' : World) : Prop where
 os : w'.os = w.os
 tape : Tp w w'
 output : w'.output = w.output
 size : w.heap.size ≤ w'.heap.size
 block : ∀ b, b < w.heap.size → w'.heap[b]? = w.heap[b]?
theorem Kept.refl (w : World) : Kept w w := ⟨rfl, .refl w, rfl, Nat.le_refl _, fun _ _ => rfl⟩
theorem Kept.trans {a b c : World} (h : Kept a b) (k : Kept b c) : Kept a c :=
 ⟨k.os.trans h.os, k.tape.trans h.tape, k.output.trans h.output, Nat.le_trans h.size k.size, fun i hi => (k.block i (Nat.lt_of_lt_of_le hi h.size)).trans (h.block i hi)⟩
theorem Kept.lat {w w' : World} (h : Kept w w') (O : Nat → Prop) : Lat O w O w' := ⟨h.size, fun b hb hO => ⟨h.block b hb, hO⟩⟩
theorem Kept.alloc (w : World) (o : Obj) : Kept w (w.alloc o) := ⟨rfl, .same rfl rfl, rfl, by simp, fun b hb => Below.heap_alloc w o b hb⟩
theorem Kept.drew (w : World) : Kept w w.drew := ⟨rfl, ⟨rfl, fun _ => Nat.le_succ _⟩, rfl, Nat.le_refl _, fun _ _ => rfl⟩
def fp {α β : Type} (R : Value → α → Prop) (S : Value → β → Prop) : List MapEntry → List (α × β) → Prop
 | [], [] => True
 | m :: ms, x :: xs => R m.key x.1 ∧ S m.val x.2 ∧ fp R S ms xs
 | _, _ => False
def RepAll {α : Type} (R : List Value → α → Prop) (n : Nat) : List Value → List α → Prop
 | cs, [] => cs = []
 | cs, x :: xs => R (cs.take n) x ∧ RepAll R n (cs.drop n) xs
def gx (P : Program) (f : FuncId) : Prop := ∀ (args : Array Value) (w : World), (callFunc f args).run P w = .ok (.enter f args) w
def InK (k : IntKind) (x : Int) : Prop := k.min ≤ x ∧ x ≤ k.max
inductive NW where
 | cells
 | chain
 | result
def Rep (P : Program) : (t : Ty) → NW → (Nat → Prop) → World → List Value → den t → Prop
  | .int k, .cells, _, _, cs, x => cs = [.int k x] ∧ InK k x
  | .bool, .cells, _, _, cs, x => cs = [.bool x]
  | .str, .cells, _, _, cs, x => cs = [.string x] ∧ x.size ≤ maxLen
  | .unit, .cells, _, _, cs, _ => cs = []
  | .unit, .chain, _, _, cs, _ => cs = []
  | .unit, .result, _, _, cs, _ => cs = [.tuple #[]]
  | .pair a b, .cells, O, w, cs, x => Rep P a .cells O w (cs.take (siz a)) x.1 ∧ Rep P b .cells O w (cs.drop (siz a)) x.2
  | .pair a b, .chain, O, w, vs, x => ∃ rest cs, vs = az a cs :: rest ∧ Rep P a .cells O w cs x.1 ∧ Rep P b .chain O w rest x.2
  | .pair a b, .result, O, w, vs, x => ∃ rest cs, vs = [if b = .unit then az a cs else .tuple (az a cs :: rest).toArray] ∧ Rep P a .cells O w cs x.1 ∧ Rep P b .chain O w rest x.2
  | .st b, .cells, O, w, cs, x => Rep P b .cells O w cs x
  | .arr n e, .cells, O, w, cs, x => x.length = n ∧ RepAll (fun cs x => Rep P e .cells O w cs x) (siz e) cs x
  | .slc e, .cells, O, w, cs, x => ∃ a c L, cs = [.slice a x.length c] ∧ x.length ≤ c ∧ c ≤ maxLen ∧ L.length = x.length * siz e ∧ RepAll (fun cs x => Rep P e .cells O w cs x) (siz e) L x ∧
      (x ≠ [] → ∃ ad, a = some ad ∧ ¬ O ad.block ∧ ad.block < w.heap.size ∧ ∀ j u, L[j]? = some u → w.cell? (ad.add j) = some u) ∧ (a = none → c = 0)
  | .fn _ _, .cells, _, _, cs, none => cs = [.nilFunc]
  | .fn a r, .cells, O, w, cs, some g => ∃ f captured, cs = [.func (.func f) #[] captured] ∧ gx P f ∧
      ∀ O' w', Lat O w O' w' → (∀ g, O' g → g < w'.heap.size) → ∀ vs x, Rep P a .chain O' w' vs x → Calls P f (vs.toArray ++ captured) w' fun e w'' =>
        ∃ v, e = .returned v ∧ Kept w' w'' ∧ Rep P r .result O' w'' [v] (g x)
  | .ref t, .cells, O, w, cs, x => ∃ ad L, cs = [.pointer (some ad)] ∧ ¬ O ad.block ∧ ad.block < w.heap.size ∧ (∀ j u, L[j]? = some u → w.cell? (ad.add j) = some u) ∧ Rep P t .cells O w L x
  | .mp k v, .cells, O, w, cs, x => ∃ r, cs = [.map r] ∧ (r = none → x = []) ∧ ∀ g, r = some g → ¬ O g ∧ g < w.heap.size ∧ ∃ es ck, w.heap[g]? = some (.map es ck) ∧ (es.toList.map (·.key)).Nodup ∧
      fp (fun u z => ∃ cs, u = az k cs ∧ Rep P k .cells O w cs z) (fun u z => ∃ cs, u = az v cs ∧ Rep P v .cells O w cs z) es.toList x
  | .clo f c, .cells, O, w, cs, x => ∃ vs : List Value, cs = [.func (.func f) #[] vs.toArray] ∧ Rep P c .chain O w vs x
  | _, _, _, _, _, _ => False
theorem RepAll.imp {α : Type} {R R' : List Value → α → Prop} {n : Nat} (h : ∀ cs x, R cs x → R' cs x) : ∀ {cs : List Value} {xs : List α}, RepAll R n cs xs → RepAll R' n cs xs
 | _, [], hh => hh
 | _, _ :: _, hh => ⟨h _ _ hh.1, RepAll.imp h hh.2⟩
theorem fp.imp {α β : Type} {R R' : Value → α → Prop} {S S' : Value → β → Prop} (h : ∀ u x, R u x → R' u x) (k : ∀ u x, S u x → S' u x) : ∀ {ms : List MapEntry} {xs : List (α × β)}, fp R S ms xs → fp R' S' ms xs
 | [], [], _ => trivial
 | _ :: _, _ :: _, hh => ⟨h _ _ hh.1, k _ _ hh.2.1, fp.imp h k hh.2.2⟩
 | [], _ :: _, hh => hh.elim
 | _ :: _, [], hh => hh.elim
theorem CT {O O' : Nat → Prop} {w w' : World} (h : Lat O w O' w') {a : Addr} (hO : ¬ O a.block) (hb : a.block < w.heap.size) : w'.cell? a = w.cell? a :=
 World.cell?_of_block (h.keep _ hb hO).1
theorem dQ (a : Addr) (n : Nat) : (a.add n).block = a.block := by unfold Addr.add; split <;> rfl
theorem Rep.lat {P : Program} {O O' : Nat → Prop} {w w' : World} (h : Lat O w O' w') : ∀ {t : Ty} {m : NW} {cs : List Value} {x : den t}, Rep P t m O w cs x → Rep P t m O' w' cs x := by
 intro t
 induction t with
 | int k => intro m cs x hh; cases m <;> exact hh
 | bool => intro m cs x hh; cases m <;> exact hh
 | str => intro m cs x hh; cases m <;> exact hh
 | unit => intro m cs x hh; cases m <;> exact hh
 | pair a b iha ihb =>
  intro m cs x hh
  cases m with
  | cells => exact ⟨iha hh.1, ihb hh.2⟩
  | chain => obtain ⟨rest, cs', e, h1, h2⟩ := hh; exact ⟨rest, cs', e, iha h1, ihb h2⟩
  | result => obtain ⟨rest, cs', e, h1, h2⟩ := hh; exact ⟨rest, cs', e, iha h1, ihb h2⟩
 | st b ih => intro m cs x hh; cases m <;> first | exact ih hh | exact hh
 | arr n e ih => intro m cs x hh; cases m <;> first | exact ⟨hh.1, hh.2.imp fun _ _ k => ih k⟩ | exact hh
 | slc e ih =>
  intro m cs x hh
  cases m with
  | cells =>
   obtain ⟨a, c, L, e1, h2, h3, h4, h5, h6, h7⟩ := hh
   refine ⟨a, c, L, e1, h2, h3, h4, h5.imp fun _ _ k => ih k, fun hx => ?_, h7⟩
   obtain ⟨ad, ha, hO, hb, hc⟩ := h6 hx
   exact ⟨ad, ha, (h.keep _ hb hO).2, Nat.lt_of_lt_of_le hb h.size, fun j u hj => by
    rw [CT h (by rw [dQ]; exact hO) (by rw [dQ]; exact hb)]; exact hc j u hj⟩
  | chain => exact hh
  | result => exact hh
 | fn a r _ _ =>
  intro m cs x hh
  cases m with
  | cells =>
   cases x with
   | none => exact hh
   | some g =>
    obtain ⟨f, captured, e1, h2, h3⟩ := hh
    exact ⟨f, captured, e1, h2, fun O'' w'' hl => h3 O'' w'' (h.trans hl)⟩
  | chain => exact hh
  | result => exact hh
 | ref t ih =>
  intro m cs x hh
  cases m with
  | cells =>
   obtain ⟨ad, L, e1, hO, hb, hc, hr⟩ := hh
   exact ⟨ad, L, e1, (h.keep _ hb hO).2, Nat.lt_of_lt_of_le hb h.size, fun j u hj => by
    rw [CT h (by rw [dQ]; exact hO) (by rw [dQ]; exact hb)]; exact hc j u hj, ih hr⟩
  | chain => exact hh
  | result => exact hh
 | mp k v ihk ihv =>
  intro m cs x hh
  cases m with
  | cells =>
   obtain ⟨r, e1, h1, h2⟩ := hh
   refine ⟨r, e1, h1, fun g hg => ?_⟩
   obtain ⟨hO, hb, es, ck, hc, hn, he⟩ := h2 g hg
   exact ⟨(h.keep _ hb hO).2, Nat.lt_of_lt_of_le hb h.size, es, ck, by rw [(h.keep _ hb hO).1]; exact hc, hn,
    he.imp (fun _ _ ⟨cs, e, r⟩ => ⟨cs, e, ihk r⟩) (fun _ _ ⟨cs, e, r⟩ => ⟨cs, e, ihv r⟩)⟩
  | chain => exact hh
  | result => exact hh
 | clo f c ih =>
  intro m cs x hh
  cases m with
  | cells => obtain ⟨vs, e, r⟩ := hh; exact ⟨vs, e, ih r⟩
  | chain => exact hh
  | result => exact hh
theorem RepAll.length {α : Type} {R : List Value → α → Prop} {n : Nat} : ∀ {cs : List Value} {xs : List α}, (∀ cs x, R cs x → cs.length = n) → RepAll R n cs xs → cs.length = xs.length * n
 | _, [], _, hh => by simp [show _ = [] from hh]
 | cs, x :: xs, hR, hh => by
  have h1 := hR _ _ hh.1
  have h2 := RepAll.length hR hh.2
  simp only [List.length_take, List.length_drop, List.length_cons] at *
  rw [Nat.add_mul, Nat.one_mul]
  omega
theorem Rep.length {P : Program} {O : Nat → Prop} {w : World} : ∀ {t : Ty} {cs : List Value} {x : den t}, Rep P t .cells O w cs x → cs.length = siz t := by
 intro t
 induction t with
 | int k => intro cs x hh; simp [Rep] at hh; simp [hh, siz]
 | bool => intro cs x hh; simp [Rep] at hh; simp [hh, siz]
 | str => intro cs x hh; simp [Rep] at hh; simp [hh, siz]
 | unit => intro cs x hh; simp [Rep] at hh; simp [hh, siz]
 | pair a b iha ihb =>
  intro cs x hh
  have h1 := iha hh.1
  have h2 := ihb hh.2
  simp only [List.length_take, List.length_drop, siz] at *
  omega
 | st b ih => intro cs x hh; exact ih hh
 | arr n e ih => intro cs x hh; rw [hh.2.length (fun _ _ k => ih k), hh.1]; rfl
 | slc e ih => intro cs x hh; obtain ⟨a, c, L, e1, _⟩ := hh; simp [e1, siz]
 | fn a r _ _ =>
  intro cs x hh
  cases x with
  | none => have e : cs = [.nilFunc] := hh; simp [e, siz]
  | some g => obtain ⟨f, _, e1, _⟩ := hh; simp [e1, siz]
 | ref t _ => intro cs x hh; obtain ⟨ad, L, e1, _⟩ := hh; simp [e1, siz]
 | mp k v _ _ => intro cs x hh; obtain ⟨r, e1, _⟩ := hh; simp [e1, siz]
 | clo f c _ => intro cs x hh; obtain ⟨vs, e1, _⟩ := hh; simp [e1, siz]
def aB (P : Program) (t : Ty) (O : Nat → Prop) (w : World) (v : Value) (x : den t) : Prop := ∃ cs, v = az t cs ∧ Rep P t .cells O w cs x
theorem aB.lat {P : Program} {O O' : Nat → Prop} {w w' : World} (h : Lat O w O' w') {t : Ty} {v : Value} {x : den t} (hv : aB P t O w v x) : aB P t O' w' v x :=
 let ⟨cs, e, r⟩ := hv; ⟨cs, e, r.lat h⟩
end Go.Proofs.Ytimdnodkabnbfaa
namespace Go.Proofs.Ytimdnodkabnbfaa
open Go Go.RowKit
def zero : (t : Ty) → den t
 | .int _ => (0 : Int)
 | .bool => false
 | .str => ByteArray.empty
 | .unit => ()
 | .pair a b => (zero a, zero b)
 | .st b => zero b
 | .arr n e => List.replicate n (zero e)
 | .slc _ => []
 | .fn _ _ => none
 | .ref t => zero t
 | .mp _ _ => []
 | .clo _ c => zero c
def eqL {α : Type} (f : α → α → Bool) : List α → List α → Bool
 | [], [] => true
 | x :: xs, y :: ys => f x y && eqL f xs ys
 | _, _ => false
def eqI (x y : Int) : Bool := decide (x = y)
def eqO (x y : Bool) : Bool := x == y
def eqS (x y : ByteArray) : Bool := decide (x = y)
def el (e : Ty) (xs : List (den e)) (n : Int) : den e := xs.getD n.toNat (zero e)
def ln {e : Ty} (xs : List (den e)) : Int := xs.length
def inB (n m : Int) : Prop := 0 ≤ n ∧ n < m
def cO (a b : Int) : Int := if b < a then b else a
def s4 (a b : Int) : Int := if a < b then b else a
def CG (s : ByteArray) : Int := s.size
def Io (s : ByteArray) (l h : Int) : ByteArray := s.extract l.toNat h.toNat
def sAt (s : ByteArray) (n : Int) : Int := ((s.data[n.toNat]?).getD 0).toNat
def kb {e : Ty} (xs : List (den e)) (l h : Int) : List (den e) := (xs.take h.toNat).drop l.toNat
def bQ (l h n : Int) : Prop := 0 ≤ l ∧ l ≤ h ∧ h ≤ n
def se {e : Ty} (xs : List (den e)) (n : Int) (y : den e) : List (den e) := xs.set n.toNat y
def nz (b : Int) : Prop := b ≠ 0
def ge0 (b : Int) : Prop := 0 ≤ b
def AW (a b : Int) : Prop := a = b
def PH (n : Int) : Int := 0 - n
def dP (s : ByteArray) : List Int := s.data.toList.map fun b => (b.toNat : Int)
def gY (xs : List Int) : ByteArray := ⟨(xs.map fun n => UInt8.ofNat n.toNat).toArray⟩
def eqb : (t : Ty) → den t → den t → Bool
 | .int _, x, y => eqI x y
 | .bool, x, y => eqO x y
 | .str, x, y => eqS x y
 | .unit, _, _ => true
 | .pair a b, x, y => eqb a x.1 y.1 && eqb b x.2 y.2
 | .st b, x, y => eqb b x y
 | .arr _ e, x, y => eqL (eqb e) x y
 | .slc _, _, _ => false
 | .fn _ _, _, _ => false
 | .ref _, _, _ => false
 | .mp _ _, _, _ => false
 | .clo _ _, _, _ => false
inductive Sel where
 | fld (i : Nat)
 | idx (i : Int)
inductive K where
 | any
 | nilsl
 | val (t : Ty) (x : den t)
 | clip (e : Ty) (xs : List (den e))
 | grd (s : Nat) (w : Bool) (cs : List (Bool × Bool)) (k : K)
 | opt (cs : List (Bool × Bool)) (k : K)
 | tup (t : Ty) (x : den t)
 | ref (t : Ty) (x : den t)
 | ptr (id : Nat) (base : Ty) (path : List Sel)
 | sl (id : Nat) (e : Ty)
 | fnc (f : Nat)
 | knil
 | kcons (a b : K)
 | agg (b : Ty) (c : K)
 | clo (f : Nat) (c : K)
 | vw (id : Nat) (e : Ty) (lo n : Nat)
 | sel (c : Bool) (a b : K)
 | pm (id : Nat)
 | nilmp
 | ifc (t : Nat) (k : K)
 | nilif
 | yld (id : Nat)
 | asl (id : Nat) (base : Ty) (p : List Sel) (m : Nat) (e : Ty) (lo n : Nat)
 | lit (b : Bool)
inductive Bx where
 | cell (t : Ty) (x : den t)
 | row (e : Ty) (xs : List (den e))
 | full (e : Ty) (n : Nat) (zs : List (den e))
 | obj (t : Ty) (k : K)
 | mpd (k v : Ty) (l : List (den k × den v))
 | mpk (k : Ty) (l : K)
 | itr (k v : Ty) (left : List (den k × den v)) (cur : Option (den k × den v))
 | lop (st : LoopState) (pend : Option Code) (s : List (Nat × K)) (f : Nat) (params : Array Nat) (assign body : Code)
 | dfr
inductive BS where
 | no
 | dead
 | live (x : Bx)
def Qn : K → K
 | .val (.pair a _) p => .val a p.1
 | _ => .any
def Ql : K → K
 | .val (.pair _ b) p => .val b p.2
 | _ => .any
def Qm : K → K
 | .val (.st b) x => .val b x
 | _ => .any
def dr : K → Nat → K
 | k, 0 => Qn k
 | k, i + 1 => dr (Ql k) i
def d5 (t t' : Ty) (x : den t') : Option (den t) := if h : t' = t then some (h ▸ x) else none
def Ep (t : Ty) : K → Option (den t)
 | .val t' x => d5 t t' x
 | .nilsl => match t with
  | .slc _ => some []
  | _ => none
 | .clip e xs => d5 t (.slc e) xs
 | .ref u x => d5 t (.ref u) x
 | _ => none
def D3 : (c : Ty) → K → Option (den c)
 | .unit, .knil => some ()
 | .pair a b, .kcons k ks => match Ep a k, D3 b ks with | some x, some y => some (x, y) | _, _ => none
 | _, _ => none
def bt (t : Ty) : K → Option (den t)
 | .clo f k => match t with
  | .clo f' c => if f = f' then D3 c k else none
  | _ => none
 | k => Ep t k
def NP : (t : Ty) → den t → K
 | .ref t, x => .ref t x
 | t, x => .val t x
def kCh : (c : Ty) → den c → K
 | .pair a b, x => .kcons (NP a x.1) (kCh b x.2)
 | _, _ => .knil
def asR : (t : Ty) → den t → K
 | .clo f c, x => .clo f (kCh c x)
 | t, x => .val t x
def nav : K → List Sel → K
 | k, [] => k
 | k, .fld i :: p => nav (dr (Qm k) i) p
 | .val (.arr _ e) xs, .idx n :: p => nav (.val e (el e xs n)) p
 | _, .idx _ :: _ => .any
def tr : (b : Ty) → den b → Nat → ((t : Ty) → den t → Option (den t)) → Option (den b)
 | .pair a _, x, 0, f => match f a x.1 with | some y => some (y, x.2) | none => none
 | .pair _ b, x, i + 1, f => match tr b x.2 i f with | some y => some (x.1, y) | none => none
 | _, _, _, _ => none
def qW (v : K) : List Sel → (t : Ty) → den t → Option (den t)
 | [], t, _ => bt t v
 | .fld i :: p, t, x => match t, x with
  | .st b, x => tr b x i (fun t y => qW v p t y)
  | _, _ => none
 | .idx n :: p, t, x => match t, x with
  | .arr _ e, xs => match qW v p e (el e xs n) with
   | some y => some (se (e := e) xs n y)
   | none => none
  | _, _ => none
def Bx.nav : Bx → List Sel → K
 | .cell t x, p => Go.Proofs.Ytimdnodkabnbfaa.nav (.val t x) p
 | .row e xs, .idx n :: p => Go.Proofs.Ytimdnodkabnbfaa.nav (.val e (el e xs n)) p
 | _, _ => .any
def Bx.upd : Bx → List Sel → K → Option Bx
 | .cell t x, p, v =>
  match qW v p t x with
  | some z => some (.cell t z)
  | none => none
 | .row e xs, .idx n :: p, v =>
  match qW v p e (el e xs n) with
  | some y => some (.row e (se (e := e) xs n y))
  | none => none
 | _, _, _ => none
def wQ (bx : Bx) (base : Ty) : Bool :=
 match bx with
 | .cell t _ => decide (base = t)
 | .row e _ => decide (base = .slc e)
 | _ => false
def Aa (bx : Bx) (p : List Sel) : List Prop :=
 match bx, p with
 | .row _ xs, .idx n :: _ => [inB n (ln xs)]
 | _, _ => []
def cV : Ty → Nat → Option Ty
 | .pair a _, 0 => some a
 | .pair _ b, i + 1 => cV b i
 | _, _ => none
def dg : Ty → List Sel → Option Ty
 | t, [] => some t
 | .st b, .fld i :: p => match cV b i with | some t => dg t p | none => none
 | .arr _ e, .idx _ :: p => dg e p
 | .slc e, .idx _ :: p => dg e p
 | _, _ => none
def bD : Ty → Nat → Nat
 | .pair _ _, 0 => 0
 | .pair a b, i + 1 => siz a + bD b i
 | _, _ => 0
def aJ : Ty → List Sel → Nat
 | _, [] => 0
 | .st b, .fld i :: p => bD b i + (match cV b i with | some t => aJ t p | none => 0)
 | .arr _ e, .idx n :: p => n.toNat * siz e + aJ e p
 | .slc e, .idx n :: p => n.toNat * siz e + aJ e p
 | _, _ => 0
structure bq where
 as : Ty
 rs : Ty
 g : den as → den rs
 pre : den as → Prop
 tot : Bool := false
structure d6 where
 e : Ty
 arg : Bool
 as : Ty
 ret : Bool
 pre : List (den e) → den as → Prop
 g : List (den e) → den as → List (den e)
structure aK where
 T : List (Nat × Ty)
 F : List (Nat × bq)
 G : List (Nat × (t : Ty) × den t) := []
 own : List Nat := []
 n : Nat := 100000
 R : List (Nat × d6) := []
 ovl : List Nat := []
 clp : List (Nat × Ty) := []
def aK.ty (D : aK) (t : TypeId) : Option Ty := D.T.lookup t
structure Env where
 s : Nat → K
 b : Nat → BS
 lim : Nat
def oG (g : Option (Nat × Bool)) : K → K
 | .grd s w _ k => match g with | some (s', w') => if s' = s then (if w' = w then k else .any) else .any | none => .any
 | .opt _ _ => .any
 | .lit b => .val .bool b
 | k => k
def IF : Value → K
 | .int k n => if k.min ≤ n ∧ n ≤ k.max then .val (.int k) n else .any
 | .bool b => .val .bool b
 | .string s => if s.size ≤ 1000000 then .val .str s else .any
 | .slice none 0 0 => .nilsl
 | .map none => .nilmp
 | _ => .any
def rd (D : aK) (s : Nat → K) (g : Option (Nat × Bool)) : Operand → K
 | .tmp t => oG g (s t)
 | .const v => IF v
 | .global x => match D.G.lookup x with | some ⟨t, y⟩ => .ref t y | none => .any
 | .func f => match D.F.lookup f with
  | some S => if S.tot then .val (.fn S.as S.rs) (some S.g) else .fnc f
  | none => .fnc f
def Hc {a r : Ty} (g : den (.fn a r)) (x : den a) : den r := match g with | some h => h x | none => zero r
def Li {a r : Ty} (g : den (.fn a r)) : Prop := ∃ h, g = some h
def dE : (t : Ty) → List K → Option (den t)
 | .unit, [] => some ()
 | .pair a b, k :: ks => match bt a k, dE b ks with | some x, some y => some (x, y) | _, _ => none
 | _, _ => none
def wM : Nat → (as : Ty) → List K → Option ((a : Ty) × (den a → den as))
 | 0, as, ks => match dE as ks with | some x => some ⟨.unit, fun _ => x⟩ | none => none
 | n + 1, .pair p b, ks => match wM n b ks with | some ⟨a, h⟩ => some ⟨.pair p a, fun y => (y.1, h y.2)⟩ | none => none
 | _ + 1, _, _ => none
def lF : Ty → Nat
 | .pair _ b => lF b + 1
 | _ => 0
def uk : K → Option Bool
 | .val .bool b => some b
 | _ => none
def iq : K → Option Int
 | .val (.int _) n => some n
 | _ => none
def Hp (op : BinOp) (k : IntKind) (a b : Int) : Option (K × List Prop) :=
 match op with
 | .add => some (.val (.int k) (k.wrap (a + b)), [])
 | .sub => some (.val (.int k) (k.wrap (a - b)), [])
 | .mul => some (.val (.int k) (k.wrap (a * b)), [])
 | .quo => some (.val (.int k) (k.wrap (a.tdiv b)), [nz b])
 | .rem => some (.val (.int k) (a.tmod b), [nz b])
 | .and => some (.val (.int k) (k.wrap (BitVec.ofInt k.bits a &&& BitVec.ofInt k.bits b).toNat), [])
 | .or => some (.val (.int k) (k.wrap (BitVec.ofInt k.bits a ||| BitVec.ofInt k.bits b).toNat), [])
 | .xor => some (.val (.int k) (k.wrap (BitVec.ofInt k.bits a ^^^ BitVec.ofInt k.bits b).toNat), [])
 | .andNot => some (.val (.int k) (k.wrap (BitVec.ofInt k.bits a &&& ~~~BitVec.ofInt k.bits b).toNat), [])
 | .eql => some (.val .bool (decide (a = b)), [])
 | .neq => some (.val .bool (!decide (a = b)), [])
 | .lss => some (.val .bool (decide (a < b)), [])
 | .leq => some (.val .bool (decide (a ≤ b)), [])
 | .gtr => some (.val .bool (decide (b < a)), [])
 | .geq => some (.val .bool (decide (b ≤ a)), [])
 | _ => none
def CB (op : BinOp) (k : IntKind) (a b : Int) : Option (K × List Prop) :=
 match op with
 | .shl => some (.val (.int k) (k.wrap (a * 2 ^ (min b.toNat k.bits))), [ge0 b])
 | .shr => some (.val (.int k) (a.fdiv (2 ^ (min b.toNat k.bits))), [ge0 b])
 | _ => none
def H0 (op : BinOp) (a b : ByteArray) : Option (K × List Prop) :=
 match op with
 | .add => some (.val .str (a ++ b), [a.size + b.size ≤ 1099511627776])
 | .eql => some (.val .bool (eqb .str a b), [])
 | .neq => some (.val .bool (!eqb .str a b), [])
 | .lss => some (.val .bool (Op.bytesLess a.toList b.toList), [])
 | _ => none
def KI (op : BinOp) (a b : Bool) : Option (K × List Prop) :=
 match op with
 | .eql => some (.val .bool (eqO a b), [])
 | .neq => some (.val .bool (!eqO a b), [])
 | _ => none
def rn : Ty → Bool
 | .int _ => true
 | .bool => true
 | .str => true
 | .unit => true
 | .pair a b => rn a && rn b
 | .st b => rn b
 | .arr _ e => rn e
 | _ => false
def IK (op : BinOp) (t : Ty) (a b : den t) : Option (K × List Prop) :=
 if rn t && isAgg t then
  match op with
  | .eql => some (.val .bool (eqb t a b), [])
  | .neq => some (.val .bool (!eqb t a b), [])
  | _ => none
 else none
def Pt : BinOp → Bool
 | .shl => true
 | .shr => true
 | _ => false
def bop (tx : Option Ty) (op : BinOp) (x y : K) : Option (K × List Prop) :=
 match x, y with
 | .val (.int k) a, .val (.int k') b => if Pt op then CB op k a b else if k = k' then Hp op k a b else none
 | .val .str a, .val .str b => H0 op a b
 | .val .bool a, .val .bool b => if tx = some .bool then KI op a b else none
 | .val t a, y => if tx = some t then (match bt t y with | some b => IK op t a b | none => none) else none
 | _, _ => none
abbrev Chg := List (Nat × BS)
def aX (b : Nat → BS) (id : Nat) : Bool := match b id with | .no => true | _ => false
def ao (b : Nat → BS) (id : Nat) : Option Bx := match b id with | .live x => some x | _ => none
def o7 (r : Operand → K) (e : Ty) : List (den e) → List (Nat × Operand) → Option (List (den e))
 | xs, [] => some xs
 | xs, (i, o) :: l => if i < xs.length then (match bt e (r o) with
  | some y => o7 r e (xs.set i y) l
  | none => none) else none
def tn (r : Operand → K) (b : Ty) : den b → List (Nat × Operand) → Option (den b)
 | x, [] => some x
 | x, (i, o) :: l => match tr b x i (fun t _ => bt t (r o)) with
  | some y => tn r b y l
  | none => none
def vP : (t : Ty) → den t → K
 | .pair a .unit, x => asR a x.1
 | .pair a (.pair b c), x => .tup (.pair a (.pair b c)) x
 | _, _ => .any
def s6 (b : Nat → BS) (e : Ty) (k : K) : Option (List (den e)) :=
 match k with
 | .sl id _ => match ao b id with
  | some (.row e' xs) => if h : e' = e then some (h ▸ xs) else none
  | _ => none
 | k => bt (.slc e) k
def x9 (b : Nat → BS) (t : Ty) (k : K) : Option Int :=
 match t, k with
 | .str, .val .str s => some (CG s)
 | .slc _, .val (.slc e) xs => some (ln (e := e) xs)
 | .slc _, .clip _ xs => some (ln xs)
 | .slc _, .nilsl => some 0
 | .slc _, .sl id _ => match ao b id with
  | some (.row _ xs) => some (ln xs)
  | _ => none
 | .arr n _, .val (.arr _ _) _ => some n
 | _, _ => none
def Ie (x y : K) : Option K :=
 match x, y with
 | .val (.int k) a, .val (.int k') b => if k = k' then some (.val (.int k) (cO a b)) else none
 | _, _ => none
def IZ (x y : K) : Option K :=
 match x, y with
 | .val (.int k) a, .val (.int k') b => if k = k' then some (.val (.int k) (s4 a b)) else none
 | _, _ => none
def AX (f : K → K → Option K) : K → List K → Option K
 | k, [] => some k
 | k, l :: ls => match f k l with | some m => AX f m ls | none => none
def bV : Nat := 1073741824
def dp (D : aK) (o : Oper) (r : Operand → K) (b : Nat → BS) (id : Nat) : Option (K × Chg × List Prop) :=
 match o.op with
 | .move x | .assign x => some (r x, [], [])
 | .alloc e => match D.ty e with
  | some t => if aX b id then some (.ptr id t [], [(id, .live (.cell t (zero t)))], []) else none
  | none => none
 | .box e x => match D.ty e with
  | some t => match bt t (r x) with
   | some v => if aX b id then some (.ptr id t [], [(id, .live (.cell t v))], []) else none
   | none => none
  | none => none
 | .build e parts => match D.ty e with
  | some (.st bd) => match tn r bd (zero bd) parts.toList with
   | some v => some (.val (.st bd) v, [], [])
   | none => none
  | some (.arr n e) => match o7 r e (List.replicate n (zero e)) parts.toList with
   | some xs => some (.val (.arr n e) xs, [], [])
   | none => none
  | _ => none
 | .buildSlice t n parts => match D.ty t with
  | some (.slc e) => if 16777216 < n * siz e then none else match o7 r e (List.replicate n (zero e)) parts.toList with
   | some xs => match o.dst with
    | some d => if D.own.contains d then (if aX b id then some (.sl id e, [(id, .live (.row e xs))], []) else none) else some (.val (.slc e) xs, [], [])
    | none => none
   | none => none
  | _ => none
 | .load t a => match D.ty t with
  | some t => match r a with
   | .ptr i base p => match ao b i with
    | some bx => if wQ bx base then (if dg base p = some t then (match bt t (bx.nav p) with | some v => some (.val t v, [], Aa bx p) | none => none) else none) else none
    | none => none
   | .ref t' x => if t' = t then some (.val t' x, [], []) else none
   | _ => none
  | none => none
 | .store t a v => match D.ty t with
  | some t => match r a with
   | .ptr i base p => match ao b i with
    | some bx => if wQ bx base then (if dg base p = some t then (match bt t (r v) with
     | some y => match bx.upd p (.val t y) with
      | some bx' => some (.any, [(i, .live bx')], Aa bx p)
      | none => none
     | none => none) else none) else none
    | none => none
   | _ => none
  | none => none
 | .nilCheck x => match r x with
  | .ptr i base p => some (.ptr i base p, [], [])
  | .ref t y => some (.ref t y, [], [])
  | _ => none
 | .binOp op tx x y _ => match bop (D.ty tx) op (r x) (r y) with
  | some (k, ps) => some (k, [], ps)
  | none => none
 | .unOp op _ x => match op, r x with
  | .not, .val .bool c => some (.val .bool (!c), [], [])
  | .neg, .val (.int k) n => some (.val (.int k) (k.wrap (PH n)), [], [])
  | _, _ => none
 | .convert src dst x => match D.ty dst, r x with
  | some (.int k), .val (.int _) n => if (D.ty src).isSome then some (.val (.int k) (k.wrap n), [], []) else none
  | some .str, .val (.slc (.int .u8)) xs => if D.ty src = some (.slc (.int .u8)) then some (.val .str (gY xs), [], []) else none
  | _, _ => none
 | .field tx x i => match D.ty tx, r x with
  | some (.st b'), .val (.st bd) y => if b' = bd then (match dr (.val bd y) i with
   | .val t z => some (.val t z, [], [])
   | _ => none) else none
  | _, _ => none
 | .fieldAddr s x i => match D.ty s with
  | some (.st bd) => match r x with
   | .ptr j base p => if dg base p = some (.st bd) then (match cV bd i with
    | some _ => some (.ptr j base (p ++ [.fld i]), [], [])
    | none => none) else none
   | .ref (.st b') y => if b' = bd then (match dr (.val b' y) i with
    | .val t z => some (.ref t z, [], [])
    | _ => none) else none
   | _ => none
  | _ => none
 | .indexAddr tx x i => match D.ty tx, r i with
  | some (.slc e), .val (.int _) n => match r x with
   | .val (.slc e') xs => if e' = e then some (.ref e' (el e' xs n), [], [inB n (ln (e := e') xs)]) else none
   | .clip e' xs => if e' = e then some (.ref e' (el e' xs n), [], [inB n (ln (e := e') xs)]) else none
   | .sl j e' => if e' = e then (match ao b j with
    | some (.row e'' xs) => if e'' = e then some (.ptr j (.slc e') [.idx n], [], [inB n (ln xs)]) else none
    | _ => none) else none
   | _ => none
  | some (.arr m e), .val (.int _) n => match r x with
   | .ref (.arr m' e') xs => if m' = m ∧ e' = e then some (.ref e' (el e' xs n), [], [inB n (m : Nat)]) else none
   | .ptr j base p => if dg base p = some (.arr m e) then some (.ptr j base (p ++ [.idx n]), [], [inB n (m : Nat)]) else none
   | _ => none
  | _, _ => none
 | .index tx x i => match D.ty tx, r x, r i with
  | some (.arr m e), .val (.arr m' e') xs, .val (.int _) n => if m' = m ∧ e' = e then some (.val e' (el e' xs n), [], [inB n (m : Nat)]) else none
  | some .str, .val .str s, .val (.int _) n => some (.val (.int .u8) (sAt s n), [], [inB n (CG s)])
  | _, _, _ => none
 | .extract x i => match r x with
  | .tup t y => match dr (.val t y) i with
   | .val u z => some (.val u z, [], [])
   | _ => none
  | _ => none
 | .slice tx x lo hi mx =>
  match (match lo with | none => some 0 | some o => iq (r o)), mx with
  | some l, none => match D.ty tx, r x with
   | some .str, .val .str s => match (match hi with | none => some (CG s) | some o => iq (r o)) with
    | some h => some (.val .str (Io s l h), [], [bQ l h (CG s)])
    | none => none
   | some (.slc e), .val (.slc e') xs => if e' = e then (match (match hi with | none => some (ln (e := e') xs) | some o => iq (r o)) with
    | some h => some (.val (.slc e') (kb (e := e') xs l h), [], [bQ l h (ln (e := e') xs)])
    | none => none) else none
   | some (.slc e), .clip e' xs => if e' = e then (match (match hi with | none => some (ln (e := e') xs) | some o => iq (r o)) with
    | some h => some (.val (.slc e') (kb (e := e') xs l h), [], [bQ l h (ln (e := e') xs)])
    | none => none) else none
   | some (.arr m e), .ref (.arr m' e') xs => if m' = m ∧ e' = e then (match (match hi with | none => some (m : Int) | some o => iq (r o)) with
    | some h => some (.val (.slc e') (kb (e := e') xs l h), [], [bQ l h (m : Int)])
    | none => none) else none
   | _, _ => none
  | some l, some mo => match D.ty tx, hi with
   | some (.slc e), some ho => match bt (.slc e) (r x), iq (r ho), iq (r mo) with
    | some xs, some h, some m => some (.clip e (kb (e := e) xs 0 h), [], [AW l 0, AW h m, bQ 0 h (ln (e := e) xs)])
    | _, _, _ => none
   | _, _ => none
  | none, _ => none
 | .call c => match c.callee with
  | .builtin .len => match c.args.toList, (c.argTypes[0]?).bind D.ty with
   | [x], some t => match x9 b t (r x) with | some n => some (.val ae n, [], []) | none => none
   | _, _ => none
  | .builtin .min => match c.args.toList with
   | x :: l => match AX Ie (r x) (l.map r) with | some k => some (k, [], []) | none => none
   | _ => none
  | .builtin .max => match c.args.toList with
   | x :: l => match AX IZ (r x) (l.map r) with | some k => some (k, [], []) | none => none
   | _ => none
  | .builtin .append => match c.args.toList, c.argTypes.toList with
   | [x, y], [t, t'] => if t' = t then (match D.ty t with
    | some (.slc e) => match s6 b e (r y) with
     | some ys => match r x with
      | .sl j _ => match ao b j with
       | some (.row e' xs) => match d5 (.slc e) (.slc e') xs with
        | some xs => if aX b id then some (.sl id e, [(j, .dead), (id, .live (.row e ((xs : List (den e)) ++ ys)))], [((xs : List (den e)) ++ ys).length ≤ bV]) else none
        | none => none
       | _ => none
      | .nilsl => if aX b id then some (.sl id e, [(id, .live (.row e ys))], [ys.length ≤ bV]) else none
      | .clip e' xs => match d5 (.slc e) (.slc e') xs with
       | some xs => if aX b id then some (.sl id e, [(id, .live (.row e ((xs : List (den e)) ++ ys)))], [((xs : List (den e)) ++ ys).length ≤ bV, (xs : List (den e)) = [] ∨ ys ≠ []]) else none
       | none => none
      | _ => none
     | none => none
    | _ => none) else none
   | _, _ => none
  | .value (.func f) => match D.F.lookup f with
   | some S => match dE S.as (c.args.toList.map r) with
    | some x => some (vP S.rs (S.g x), [], [S.pre x])
    | none => none
   | none => none
  | .value x => match r x with
   | .val (.fn a rs) g => match dE a (c.args.toList.map r) with
    | some y => some (vP rs (Hc (a := a) (r := rs) g y), [], [Li (a := a) (r := rs) g])
    | none => none
   | _ => none
  | _ => none
 | .makeFunc (.func f) first captured => if first.size = 0 then (match D.F.lookup f with
  | some S => match wM (lF S.as - captured.size) S.as (captured.toList.map r) with
   | some ⟨a, h⟩ => some (.val (.fn a S.rs) (some fun y => S.g (h y)), [], [∀ y, S.pre (h y)])
   | none => none
  | none => none) else none
 | _ => none
end Go.Proofs.Ytimdnodkabnbfaa
namespace Go.Proofs.Ytimdnodkabnbfaa
open Go Go.RowKit
def nog : K → Bool
 | .grd _ _ _ _ => false
 | .opt _ _ => false
 | .kcons a b => nog a && nog b
 | .agg _ c => nog c
 | .clo _ c => nog c
 | .sel _ a b => nog a && nog b
 | .ifc _ k => nog k
 | _ => true
def strip (k : K) : K := if nog k then k else .any
def sS : K → Nat → K
 | .kcons a _, 0 => a
 | .kcons _ b, i + 1 => sS b i
 | _, _ => .any
def Id : K → Nat → Bool
 | .kcons _ _, 0 => true
 | .kcons _ b, i + 1 => Id b i
 | _, _ => false
def p9 : K → Nat → K → Option K
 | .kcons _ b, 0, k => some (.kcons k b)
 | .kcons a b, i + 1, k => match p9 b i k with | some b' => some (.kcons a b') | none => none
 | _, _, _ => none
def ql : List K → K
 | [] => .knil
 | k :: l => .kcons k (ql l)
def it (b : Nat → BS) (e : Ty) (id : Nat) : Option (Nat × List (den e)) :=
 match ao b id with
 | some (.row e' xs) => match d5 (.slc e) (.slc e') xs with | some ys => some (ys.length, ys) | none => none
 | some (.full e' n zs) => match d5 (.slc e) (.slc e') zs with | some ys => some (n, ys) | none => none
 | _ => none
structure Vw (e : Ty) where
 id : Nat
 lo : Nat
 n : Nat
 kn : List (den e)
def dK (b : Nat → BS) (e : Ty) : K → Option (Vw e)
 | .sl id _ => match it b e id with | some (n, zs) => some ⟨id, 0, n, zs⟩ | none => none
 | .vw id e' lo n => if e' = e then (match it b e id with | some (_, zs) => some ⟨id, lo, n, zs⟩ | none => none) else none
 | _ => none
def iu (b : Nat → BS) (e : Ty) (id : Nat) (zs : List (den e)) : Bx :=
 match ao b id with
 | some (.full _ n _) => .full e n zs
 | _ => .row e zs
def Vw.part {e : Ty} (v : Vw e) : List (den e) := (v.kn.drop v.lo).take v.n
def Vw.ok {e : Ty} (v : Vw e) : Prop := v.lo + v.n ≤ v.kn.length
def over {α : Type} (zs : List α) (i : Nat) (ys : List α) : List α := zs.take i ++ ys ++ zs.drop (i + ys.length)
def uF (b : Nat → BS) (e : Ty) (k : K) : Option (List (den e) × List Prop) :=
 match dK b e k with
 | some v => some (v.part, [v.ok])
 | none => match bt (.slc e) k with
  | some ys => some (ys, [])
  | none => none
def Iv (b : Nat → BS) (e : Ty) (k : K) : Option (List (den e) × List Prop) :=
 match uF b e k with
 | some q => some q
 | none => match e, k with
  | .int .u8, .val .str s => some (dP s, [])
  | _, _ => none
def asB (b : Nat → BS) : (t : Ty) → K → Option (den t)
 | .slc e, .sl id _ => match ao b id with
  | some (.row e' xs) => d5 (.slc e) (.slc e') xs
  | _ => none
 | t, k => bt t k
def oJ (b : Nat → BS) : (t : Ty) → List K → Option (den t)
 | .unit, [] => some ()
 | .pair a c, k :: ks => match asB b a k, oJ b c ks with | some x, some y => some (x, y) | _, _ => none
 | _, _ => none
def Ap (b : Nat → BS) : (t : Ty) → K → Option (den t)
 | .ref t, .ptr id _ [] => match ao b id with
  | some (.cell u x) => d5 (.ref t) (.ref u) x
  | _ => none
 | t, k => bt t k
def qg (b : Nat → BS) : (t : Ty) → K → Option (den t)
 | .unit, .knil => some ()
 | .pair a c, .kcons k ks => match Ap b a k, qg b c ks with | some x, some y => some (x, y) | _, _ => none
 | _, _ => none
def ka (b : Nat → BS) : (t : Ty) → List K → K → Option (den t)
 | t, [], cap => qg b t cap
 | .pair a c, k :: ks, cap => match asB b a k, ka b c ks cap with | some x, some y => some (x, y) | _, _ => none
 | _, _, _ => none
def oB (D : aK) (o : Oper) : Bool := match o.dst with | some d => D.own.contains d | none => false
def eZ : Ty → Bool
 | .int _ => true
 | .bool => true
 | .str => true
 | .unit => true
 | .pair a b => eZ a && eZ b
 | .st b => eZ b
 | .arr _ e => eZ e
 | _ => false
inductive Eff where
 | one (k : K) (ch : Chg) (ps : List Prop)
 | ex (α : Type) (p : α → Prop) (k : α → K) (ch : α → Chg)
def one (q : Option (K × Chg × List Prop)) : Option Eff := match q with | some (k, ch, ps) => some (.one k ch ps) | none => none
def L5 (k : K) : Bool := match k with | .nilsl => true | _ => false
def FC (b : Nat → BS) (k : K) : Option (Bool ⊕ Prop) :=
 match k with
 | .nilsl => some (.inl true)
 | .val (.slc _) xs => some (.inr (xs = []))
 | .clip _ xs => some (.inr (xs = []))
 | .sl id _ => match ao b id with
  | some (.row _ xs) => some (.inr (xs = []))
  | _ => none
 | _ => none
def fO (D : aK) (o : Oper) (r : Operand → K) (b : Nat → BS) (id : Nat) : Option Eff :=
 match o.op with
 | .extract x i => match r x with
  | .kcons a c => if Id (.kcons a c) i then some (.one (sS (.kcons a c) i) [] []) else none
  | _ => none
 | .makeFunc (.func f) first captured => if first.size = 0 then some (.one (.clo f (ql (captured.toList.map r))) [] []) else none
 | .binOp op tx x y _ => match D.ty tx with
  | some (.slc _) => if L5 (r y) then (match op, FC b (r x) with
   | .eql, some (.inl c) => some (.one (.val .bool c) [] [])
   | .neq, some (.inl c) => some (.one (.val .bool (!c)) [] [])
   | .eql, some (.inr p) => some (.ex Bool (fun c => c = true → p) (fun c => .val .bool c) (fun _ => []))
   | .neq, some (.inr p) => some (.ex Bool (fun c => c = true → p) (fun c => .val .bool (!c)) (fun _ => []))
   | _, _ => none) else none
  | _ => none
 | .slice tx x lo hi mx => match D.ty tx with
  | some (.slc e) => match dK b e (r x) with
   | some v => match (match lo with | none => some 0 | some q => iq (r q)), (match hi with | none => some (v.n : Int) | some q => iq (r q)) with
    | some l, some h => match mx with
     | none => some (.one (.vw v.id e (v.lo + l.toNat) (h.toNat - l.toNat)) [] [v.ok, bQ l h ((v.kn.length - v.lo : Nat) : Int)])
     | some q => match iq (r q) with
      | some m => if hi.isSome then some (.one .any [] [v.ok, bQ l h m, m ≤ ((v.kn.length - v.lo : Nat) : Int)]) else none
      | none => none
    | _, _ => none
   | none => match bt (.slc e) (r x), mx with
    | some xs, some q => match (match lo with | none => some 0 | some q => iq (r q)), (match hi with | none => some (ln (e := e) xs) | some q => iq (r q)), iq (r q) with
     | some l, some h, some m => if hi.isSome then some (.one .any [] [bQ l h m, m ≤ ln (e := e) xs]) else none
     | _, _, _ => none
    | _, _ => none
  | some (.arr m e) => match r x, mx with
   | .ptr j base p, none => if dg base p = some (.arr m e) then (match (match lo with | none => some 0 | some q => iq (r q)), (match hi with | none => some (m : Int) | some q => iq (r q)) with
    | some l, some h => some (.one (.asl j base p m e l.toNat (h.toNat - l.toNat)) [] [bQ l h m])
    | _, _ => none) else none
   | _, _ => none
  | _ => none
 | .call c => match c.callee with
  | .builtin .len => match c.args.toList, (c.argTypes[0]?).bind D.ty with
   | [x], some (.slc e) => match dK b e (r x) with
    | some v => some (.one (.val ae (v.n : Nat)) [] [])
    | none => none
   | _, _ => none
  | .builtin .cap => match c.args.toList, (c.argTypes[0]?).bind D.ty with
   | [x], some (.slc e) => match r x with
    | .sl j _ => match ao b j with
     | some (.row e' xs) => match d5 (.slc e) (.slc e') xs with
      | some xs => some (.ex (List (den e)) (fun sp => ((xs : List (den e)) ++ sp).length ≤ maxLen) (fun sp => .val ae (((xs : List (den e)) ++ sp).length : Nat)) (fun sp => [(j, .live (.full e (xs : List (den e)).length (xs ++ sp)))]))
      | none => none
     | _ => none
    | _ => none
   | _, _ => none
  | .builtin .copy => match c.args.toList, (c.argTypes[0]?).bind D.ty with
   | [x, y], some (.slc e) => match dK b e (r x), uF b e (r y) with
    | some v, some (ys, ps) => some (.one (.val ae (min ys.length v.n : Nat)) [(v.id, .live (iu b e v.id (over v.kn v.lo (ys.take v.n))))] (v.ok :: ps))
    | none, _ => (match r x, Iv b e (r y) with
     | .asl j base p m e' lo n, some (ys, ps) => if e' = e then (match ao b j with
      | some (.cell t z) => if t = base then (match bt (.arr m e) (nav (.val t z) p) with
       | some old => (match Bx.upd (.cell t z) p (.val (.arr m e) (over (α := den e) old lo (ys.take n))) with
        | some bx => some (.one (.val ae (min ys.length n : Nat)) [(j, .live bx)] ps)
        | none => none)
       | none => none) else none
      | _ => none) else none
     | _, _ => none)
    | _, _ => none
   | _, _ => none
  | .builtin .clear => match c.args.toList, (c.argTypes[0]?).bind D.ty with
   | [x], some (.slc e) => match dK b e (r x) with
    | some v => some (.one .any [(v.id, .live (iu b e v.id (over v.kn v.lo (List.replicate v.n (zero e)))))] [v.ok])
    | none => none
   | _, _ => none
  | .builtin .append => match c.args.toList, c.argTypes.toList with
   | [x, y], [t, t'] => match D.ty t with
    | some (.slc e) => match r x, dK b e (r x) with
     | .vw j _ _ _, some v =>
      if t' = t then (match uF b e (r y), ao b j with
       | some (ys, ps), some (.row _ _) => some (.one (.vw v.id e v.lo (v.n + ys.length)) [(v.id, .live (iu b e v.id (over v.kn (v.lo + v.n) ys)))] ([v.ok, v.lo + v.n + ys.length ≤ v.kn.length] ++ ps))
       | _, _ => none)
      else (match D.ty t', iq (r y), ao b j with
       | some (.int _), some n, some (.full _ _ _) => if aX b id && decide (v.lo = 0) then some (.one (.sl id e) [(id, .live (.row e (v.part ++ List.replicate n.toNat (zero e))))] [v.ok, 0 < n, v.kn.length < v.n + n.toNat, v.n + n.toNat ≤ bV]) else none
       | _, _, _ => none)
     | _, _ => none
    | _ => none
   | _, _ => none
  | .value (.func f) =>
   if D.ovl.contains f then (match c.args.toList with
    | [x, y] => match r x, r y with
     | .val (.slc e1) _, .vw j e2 _ _ => if decide (1 ≤ siz e1) && (it b e2 j).isSome && !decide (e2 = .int .u8) then some (.one (.val .bool false) [] []) else none
     | _, _ => none
    | _ => none) else
   match D.R.lookup f with
   | some S => match S.arg, c.args.toList with
    | true, x :: l => match dK b S.e (match r x with | .nilsl => .any | k => k), dE S.as (l.map r) with
     | some v, some y => if S.ret then (if aX b id then some (.one (.sl id S.e) [(v.id, .dead), (id, .live (.row S.e (S.g v.part y)))] [v.ok, S.pre v.part y]) else none) else (match r x with
      | .sl j _ => (match ao b j with
       | some (.row e' xs) => (match d5 (.slc S.e) (.slc e') xs with
        | some xs => some (.one .any [(j, .live (.row S.e (S.g xs y)))] [S.pre xs y])
        | none => none)
       | _ => none)
      | _ => none)
     | none, some y => if S.ret then none else (match r x with
      | .nilsl => some (.one .any [] [S.pre [] y])
      | _ => none)
     | _, _ => none
    | false, l => match dE S.as (l.map r) with
     | some y => if S.ret && aX b id then some (.one (.sl id S.e) [(id, .live (.row S.e (S.g [] y)))] [S.pre [] y]) else none
     | none => none
    | _, _ => none
   | none => match D.F.lookup f with
    | some S => if eZ S.rs then (match oJ b S.as (c.args.toList.map r) with
     | some x => some (.one (vP S.rs (S.g x)) [] [S.pre x])
     | none => none) else none
    | none => match D.clp.lookup f with
     | some e => (match c.args.toList with
      | [x] => (match bt (.slc e) (r x) with
       | some xs => some (.one (.clip e xs) [] [])
       | none => none)
      | _ => none)
     | none => none
  | .value (.tmp t) => if oB D o then (match r (.tmp t) with
   | .clo f cap => (match D.F.lookup f with
    | some S => if eZ S.rs then (match ka b S.as (c.args.toList.map r) cap with
     | some x => some (.one (vP S.rs (S.g x)) [] [S.pre x])
     | none => none) else none
    | none => none)
   | _ => none) else none
  | _ => none
 | _ => none
def cy (o : Oper) : Bool :=
 match o.op with
 | .extract _ _ => true
 | .slice _ _ _ _ _ => true
 | .call c => match c.callee with
  | .builtin .append => true
  | .builtin .copy => true
  | .builtin .clear => true
  | .value (.func _) => true
  | .value (.tmp _) => true
  | _ => false
 | _ => false
def zM : Ty → Bool
 | .pair (.slc _) _ => true
 | .pair _ b => zM b
 | _ => false
def c6 (D : aK) (o : Oper) (r : Operand → K) (b : Nat → BS) (id : Nat) : Option (K × Chg × List Prop) :=
 match dp D o r b id with
 | some q => some q
 | none => if cy o then (match fO D o r b id with
  | some (.one k ch ps) => some (k, ch, ps)
  | _ => none) else none
def kZ : Ty → K
 | .pair a b => .kcons (kZ a) (kZ b)
 | .unit => .knil
 | .st b => if eZ b then .val (.st b) (zero b) else .agg b (kZ b)
 | .slc _ => .nilsl
 | .mp _ _ => .nilmp
 | t => .val t (zero t)
def K0 (t : Ty) : K → Bool
 | .val t' _ => decide (t' = t)
 | .nilsl => match t with | .slc _ => true | _ => false
 | .clip _ _ => match t with | .slc _ => true | _ => false
 | .vw _ _ _ _ => match t with | .slc _ => true | _ => false
 | .pm _ => match t with | .mp _ _ => true | _ => false
 | .nilmp => match t with | .mp _ _ => true | _ => false
 | .agg b _ => decide (t = .st b)
 | _ => false
def e9 (b : Nat → BS) (t : Ty) (k : K) : Bool :=
 match k with
 | .sl id _ => (match t with | .slc _ => true | _ => false) && (match ao b id with | some (.row _ _) => true | some (.full _ _ _) => true | _ => false)
 | k => K0 t k
def Dq : Ty → K → List Sel → Option K
 | _, k, [] => some k
 | .st b', .agg b c, .fld i :: p => if b' = b then (match cV b i with | some u => Dq u (sS c i) p | none => none) else none
 | t, .val t' x, s :: p => if t' = t then (match dg t (s :: p) with
  | some u => (match bt u (nav (.val t' x) (s :: p)) with | some y => some (.val u y) | none => none)
  | none => none) else none
 | _, _, _ => none
def mz (bb : Nat → BS) : Ty → K → List Sel → K → Option K
 | t, _, [], v => if e9 bb t v then some v else none
 | .st b', .agg b c, .fld i :: p, v => if b' = b then (match cV b i with
  | some u => (match mz bb u (sS c i) p v with
   | some k' => (match p9 c i k' with | some c' => some (.agg b c') | none => none)
   | none => none)
  | none => none) else none
 | t, .val t' x, s :: p, v => if t' = t then (match qW v (s :: p) t' x with | some z => some (.val t' z) | none => none) else none
 | _, _, _, _ => none
def nZ (bb : Nat → BS) (r : Operand → K) (b : Ty) : K → List (Nat × Operand) → Option K
 | c, [] => some c
 | c, (i, o) :: l => match cV b i with
  | some u => if e9 bb u (r o) then (match p9 c i (r o) with | some c' => nZ bb r b c' l | none => none) else none
  | none => none
def sV : Ty → Bool
 | .int _ => true
 | .bool => true
 | .str => true
 | .arr _ (.int _) => true
 | _ => false
def s7 {k v : Ty} (l : List (den k × den v)) (x : den k) : Option (den v) := match l.find? (fun q => eqb k x q.1) with | some q => some q.2 | none => none
def uJ {k v : Ty} (l : List (den k × den v)) (x : den k) : den v := (s7 (k := k) (v := v) l x).getD (zero v)
def sk {k v : Ty} (l : List (den k × den v)) (x : den k) : Bool := (s7 (k := k) (v := v) l x).isSome
def nJ {k v : Ty} : List (den k × den v) → den k → den v → List (den k × den v)
 | [], x, y => [(x, y)]
 | q :: l, x, y => if eqb k x q.1 then (x, y) :: l else q :: nJ l x y
def DR (k v k' v' : Ty) (l : List (den k' × den v')) : Option (List (den k × den v)) := if h : k' = k ∧ v' = v then some (h.1 ▸ h.2 ▸ l) else none
def pX (b : Nat → BS) (k v : Ty) : K → Option (List (den k × den v))
 | .nilmp => some []
 | .pm j => match ao b j with
  | some (.mpd k' v' l) => DR k v k' v' l
  | _ => none
 | .val (.mp k' v') l => DR k v k' v' l
 | _ => none
def eX (D : aK) (o : Oper) : Bool :=
 match o.dst, o.op with
 | some d, .alloc _ => D.own.contains d
 | some d, .box _ _ => D.own.contains d
 | some d, .slice _ _ _ _ none => D.own.contains d
 | some d, .build _ _ => D.own.contains d
 | _, _ => false
def aG (b : Nat → BS) : Chg → Nat → BS
 | [] => b
 | (i, x) :: l => aG (fun n => if n = i then x else b n) l
def ti (b : Nat → BS) (id : Nat) : K → Option (K × Chg × List Prop)
 | .vw j e lo n => match ao b j with
  | some (.row e' xs) => match d5 (.slc e) (.slc e') xs with
   | some xs => if aX b id then some (.sl id e, [(j, .dead), (id, .live (.row e (((xs : List (den e)).drop lo).take n)))], [lo + n ≤ (xs : List (den e)).length]) else none
   | none => none
  | _ => none
 | _ => none
def j7 (D : aK) (t : TypeId) (kx : K) (q : K) (b : Nat → BS) : Option (Nat × BS) :=
 match D.ty t, kx with
 | some u, .ptr i base p => match ao b i with
  | some (.obj t0 k) => if t0 = base then (if dg base p = some u then (if e9 b u q && nog q then (match mz b base k p q with | some k' => some (i, .live (.obj base k')) | none => none) else none) else none) else none
  | _ => none
 | _, _ => none
def G8 {k v : Ty} (c : Option (den k × den v)) : den k × den v := c.getD (zero k, zero v)
def dT (D : aK) (o : Oper) (r : Operand → K) (b : Nat → BS) (id : Nat) : Option Eff :=
 match o.op with
 | .alloc e => match D.ty e with
  | some (.st bd) => if aX b id then some (.one (.ptr id (.st bd) []) [(id, .live (.obj (.st bd) (.agg bd (kZ bd))))] []) else none
  | some (.slc el) => if oB D o && aX b id then some (.one (.ptr id (.slc el) []) [(id, .live (.obj (.slc el) .nilsl))] []) else none
  | _ => none
 | .box e x => match D.ty e, r x with
  | some (.st bd), .agg bd' c => if bd' = bd then (if aX b id && nog c then some (.one (.ptr id (.st bd) []) [(id, .live (.obj (.st bd) (.agg bd c)))] []) else none) else none
  | some (.slc el), k => if oB D o && aX b id && nog k && e9 b (.slc el) k then some (.one (.ptr id (.slc el) []) [(id, .live (.obj (.slc el) k))] []) else none
  | _, _ => none
 | .build e parts => match D.ty e with
  | some (.st bd) => match nZ (if oB D o then b else fun _ => .no) r bd (kZ bd) parts.toList with
   | some c => some (.one (.agg bd c) [] [])
   | none => none
  | _ => none
 | .load t x => match D.ty t, r x with
  | some u, .ptr i base p => match ao b i with
   | some (.obj t0 k) => if t0 = base then (if dg base p = some u then (match Dq base k p with | some k' => some (.one k' [] []) | none => none) else none) else none
   | _ => none
  | _, _ => none
 | .store t x v => match ti b id (r v) with
  | some (q, ch, ps) => (match j7 D t (r x) q (aG b ch) with
   | some c => some (.one .any (ch ++ [c]) ps)
   | none => none)
  | none => (match j7 D t (r x) (r v) b with
   | some c => some (.one .any [c] [])
   | none => none)
 | .makeMap t none => match D.ty t with
  | some (.mp k v) => if aX b id then some (.one (.pm id) [(id, .live (.mpd k v []))] []) else none
  | _ => none
 | .lookup t x i ok => match D.ty t with
  | some (.mp k v) => if sV k then (match pX b k v (r x), bt k (r i) with
   | some l, some y => some (.one (if ok then .kcons (.val v (uJ l y)) (.kcons (.val .bool (sk l y)) .knil) else .val v (uJ l y)) [] [])
   | _, _ => none) else none
  | _ => none
 | .mapUpdate t x i v => match D.ty t with
  | some (.mp kt vt) => if sV kt then (match r x with
   | .pm j => (match pX b kt vt (.pm j), bt kt (r i), bt vt (r v) with
    | some l, some y, some z => some (.one .any [(j, .live (.mpd kt vt (nJ l y z)))] [])
    | _, _, _ => none)
   | _ => none) else none
  | _ => none
 | .insert t x i v => match D.ty t with
  | some (.mp kt vt) => if sV kt then (match r x with
   | .pm j => (match pX b kt vt (.pm j), bt kt (r i), bt vt (r v) with
    | some l, some y, some z => some (.one .any [(j, .live (.mpd kt vt (nJ l y z)))] [])
    | _, _, _ => none)
   | _ => none) else none
  | _ => none
 | .binOp op tx x y _ => match D.ty tx, r y with
  | some (.mp _ _), .nilmp => (match op, r x with
   | .eql, .nilmp => some (.one (.val .bool true) [] [])
   | .eql, .pm _ => some (.one (.val .bool false) [] [])
   | .neq, .nilmp => some (.one (.val .bool false) [] [])
   | .neq, .pm _ => some (.one (.val .bool true) [] [])
   | _, _ => none)
  | _, _ => none
 | .slice tx x (some lo) none none => match D.ty tx, r x, iq (r lo) with
  | some (.slc e), .sl j _, some l => match ao b j with
   | some (.row e' xs) => (match d5 (.slc e) (.slc e') xs with
    | some xs => if aX b id then some (.one (.sl id e) [(j, .dead), (id, .live (.row e ((xs : List (den e)).drop l.toNat)))] [bQ l (ln (e := e) xs) (ln (e := e) xs)]) else none
    | none => none)
   | _ => none
  | _, _, _ => none
 | .slice tx x none (some hi) none => match D.ty tx, iq (r hi) with
  | some (.slc e), some h => (match r x with
   | .nilsl => some (.one .nilsl [] [bQ 0 h 0])
   | .sl j _ => (match ao b j with
    | some (.row e' xs) => (match d5 (.slc e) (.slc e') xs with
     | some xs => if aX b id then some (.one (.sl id e) [(j, .dead), (id, .live (.row e ((xs : List (den e)).take h.toNat)))] [bQ 0 h (ln (e := e) xs)]) else none
     | none => none)
    | _ => none)
   | _ => none)
  | _, _ => none
 | .range t x => match D.ty t, r x with
  | some (.mp k v), .pm j => (match pX b k v (.pm j) with
   | some l => if aX b id then some (.one (.ptr id .unit []) [(j, .dead), (id, .live (.itr k v l none))] []) else none
   | none => none)
  | _, _ => none
 | .next x false => match r x with
  | .ptr j .unit [] => match ao b j with
   | some (.itr k v left _) => some (.ex Nat (fun i => left = [] ∨ i < left.length) (fun _ => .kcons (.val .bool (decide (0 < left.length))) .any) (fun i => [(j, .live (.itr k v (left.eraseIdx i) left[i]?))]))
   | _ => none
  | _ => none
 | .entry x => match r x with
  | .ptr j .unit [] => match ao b j with
   | some (.itr k v _ cur) => some (.one (.kcons (.val k (G8 cur).1) (.kcons (.val v (G8 cur).2) .knil)) [] [cur.isSome = true])
   | _ => none
  | _ => none
 | .makeSlice t l c => match D.ty t, r l, r c with
  | some (.slc e), .val (.int _) n, .val (.int _) m => match o.dst with
   | some d => if D.own.contains d then (if aX b id then some (.one (.sl id e) [(id, .live (.row e (List.replicate (Int.toNat n) (zero e))))] [(m : Int) = n, (0 : Int) ≤ n, Int.toNat n * siz e ≤ 16777216]) else none)
    else some (.one (.val (.slc e) (List.replicate (Int.toNat n) (zero e))) [] [(m : Int) = n, (0 : Int) ≤ n, Int.toNat n * siz e ≤ 16777216])
   | none => none
  | _, _, _ => none
 | .convert src dst x => match D.ty src, D.ty dst, r x with
  | some .str, some (.slc (.int .u8)), .val .str s => match o.dst with
   | some d => if D.own.contains d then (if aX b id then some (.one (.sl id (.int .u8)) [(id, .live (.row (.int .u8) (dP s)))] [ByteArray.size s ≤ bV]) else none) else some (.one (.val (.slc (.int .u8)) (dP s)) [] [ByteArray.size s ≤ bV])
   | none => none
  | some (.slc (.int .u8)), some .str, .sl j _ => match ao b j with
   | some (.row (.int .u8) xs) => some (.one (.val .str (gY xs)) [] [])
   | _ => none
  | _, _, _ => none
 | .sliceToArrayPointer t x => match D.ty t, r x with
  | some (.arr n e), .val (.slc e') xs => if e' = e ∧ 0 < n then some (.one (.ref (.arr n e') (List.take n (xs : List (den e')))) [] [n ≤ (xs : List (den e')).length]) else none
  | _, _ => none
 | .call c => match c.callee with
  | .builtin .cap => match c.args.toList, (c.argTypes[0]?).bind D.ty with
   | [x], some (.slc _) => (match r x with
    | .nilsl => some (.one (.val ae 0) [] [])
    | _ => none)
   | _, _ => none
  | .builtin .append => match c.args.toList, c.argTypes.toList with
   | [x, y], [t, t'] => (match D.ty t, D.ty t', r x, iq (r y) with
    | some (.slc e), some (.int _), .nilsl, some n => if aX b id then some (.one (.sl id e) [(id, .live (.row e (List.replicate (Int.toNat n) (zero e))))] [(0 : Int) < n, Int.toNat n ≤ bV]) else none
    | _, _, _, _ => none)
   | _, _ => none
  | _ => none
 | _ => none
def L2 (D : aK) (o : Oper) (r : Operand → K) (b : Nat → BS) : Option (K × Chg × List Prop) :=
 match o.op with
 | .store t x v => match D.ty t, r v with
  | some (.slc e), .sl j _ => match ao b j with
   | some (.row e' xs) => (match d5 (.slc e) (.slc e') xs with
    | some xs => (match r x with
     | .ptr i base p => (match ao (aG b [(j, .dead)]) i with
      | some bx => if wQ bx base then (if dg base p = some (.slc e) then (match bx.upd p (.val (.slc e) xs) with
       | some bx' => some (.any, [(j, .dead), (i, .live bx')], Aa bx p)
       | none => none) else none) else none
      | none => none)
     | _ => none)
    | none => none)
   | _ => none
  | _, _ => none
 | _ => none
def dL (o : Oper) : Bool :=
 match o.op with
 | .box _ _ => true
 | .build _ _ => true
 | .load _ _ => true
 | .store _ _ _ => true
 | .makeMap _ none => true
 | .lookup _ _ _ _ => true
 | .mapUpdate _ _ _ _ => true
 | _ => false
def Fr (q : Option Eff) : Option (K × Chg × List Prop) := match q with | some (.one k ch ps) => some (k, ch, ps) | _ => none
def gw (D : aK) (o : Oper) (r : Operand → K) (b : Nat → BS) (id : Nat) : Option (K × Chg × List Prop) :=
 if eX D o then Fr (dT D o r b id) else
 match c6 D o r b id with
 | some q => some q
 | none => if dL o then Fr (dT D o r b id) else none
end Go.Proofs.Ytimdnodkabnbfaa
