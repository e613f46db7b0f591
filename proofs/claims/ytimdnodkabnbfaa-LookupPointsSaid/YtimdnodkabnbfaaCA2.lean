/- Part 2 of 10 of what this claim's proof stands on: a theory of programs on data, and the contracts of the functions that the law reaches. It holds no condition of its own. -/
import Derived.Test.YtimdnodkabnbfaaCA1
import Derived.Laws.Slices
import Derived.MapKept
import Derived.Maps.Keyed
import Derived.ChangeKeysEq
import Derived.Laws.StructEq
import Derived.Laws.Closers25b
import Derived.Laws.BytesArg
import Derived.Laws.Append
namespace Go.Proofs.Ytimdnodkabnbfaa
open Go Go.RowKit
def fF (d : Nat) : K → K
 | .grd g w cs k => if g = d then .opt cs k else .grd g w cs k
 | k => k
def put (s : Nat → K) (d : Option Nat) (k : K) : Nat → K :=
 match d with
 | none => s
 | some d => fun n => if n = d then k else fF d (s n)
def fm (N : Nat) (o : Oper) : Bool :=
 match o.dst with
 | none => true
 | some d => decide (d < N)
def kT (ops : Array Oper) (o : Oper) : Option (Option (Nat × Bool)) :=
 match o.guard with
 | none => some none
 | some (j, w) => match (ops[j]?).bind (·.dst) with
  | some d => some (some (d, w))
  | none => none
def gK : K → Option (List (Bool × Bool) × Bool)
 | .val .bool c => some ([], c)
 | .grd _ _ cs (.val .bool c) => some (cs, c)
 | .opt cs (.val .bool c) => some (cs, c)
 | _ => none
def dV : List (Bool × Bool) → Prop → Prop
 | [], p => p
 | (c, w) :: l, p => c = w → dV l p
def sc (l : List (Bool × Bool)) (c w : Bool) : List (Bool × Bool) := l ++ [(c, w)]
def rdl (D : aK) (looks : List Nat) (s : Nat → K) (g : Option (Nat × Bool)) (x : Operand) : K :=
 match x with
 | .tmp t => if looks.contains t then oG g (s t) else .any
 | x => rd D s g x
def Ic : K → K → K
 | .any, k => k
 | k, _ => k
def A7 (c x y : K) : Option K :=
 match uk c, x with
 | some t, .val u p => match bt u y with
  | some q => some (.val u (cond t p q))
  | none => none
 | _, _ => none
def db (D : aK) (ops : Array Oper) (o : Oper) (s : Nat → K) (b : Nat → BS) (lim : Nat) : Option (K × Chg × List Prop) :=
  if fm D.n o then
    match kT ops o with
    | none => none
    | some none =>
      match o.op with
      | .pick (.tmp ct) x y => match A7 (rdl D (o.looksAt ops) s none (.tmp ct)) (rdl D (o.looksAt ops) s (some (ct, true)) x) (rdl D (o.looksAt ops) s (some (ct, false)) y) with
        | some k => some (k, [], [])
        | none => none
      | .pick _ _ _ => none
      | _ => match gw D o (rdl D (o.looksAt ops) s none) b (lim + o.dst.getD 0) with
        | some (k, ch, ps) => some (strip k, ch, ps)
        | none => none
    | some (some (d, w)) =>
      if o.dst = some d then none else
      match gK (s d) with
      | none => none
      | some (cs, c) =>
        match o.op with
        | .pick (.tmp ct) x y => match A7 (rdl D (o.looksAt ops) s (some (d, w)) (.tmp ct))
            (Ic (rdl D (o.looksAt ops) s (some (ct, true)) x) (rdl D (o.looksAt ops) s (some (d, w)) x))
            (Ic (rdl D (o.looksAt ops) s (some (ct, false)) y) (rdl D (o.looksAt ops) s (some (d, w)) y)) with
          | some k => some (.grd d w (sc cs c w) k, [], [])
          | none => none
        | .pick _ _ _ => none
        | _ => match gw D o (rdl D (o.looksAt ops) s (some (d, w))) b (lim + o.dst.getD 0) with
          | some (k, [], ps) => some (.grd d w (sc cs c w) (strip k), [], ps.map (dV (sc cs c w)))
          | _ => none
  else none
def vop (D : aK) (ops : Array Oper) (o : Oper) (env : Env) : Option (Env × List Prop) :=
 match db D ops o env.s env.b env.lim with
 | some (k, ch, ps) => some ({ s := put env.s o.dst k, b := aG env.b ch, lim := env.lim }, ps)
 | none => none
def Fw (D : aK) (ops : Array Oper) : List Oper → Env → Option (Env × List Prop)
 | [], env => some (env, [])
 | o :: l, env => match vop D ops o env with
  | none => none
  | some (env', ps) => match Fw D ops l env' with
   | none => none
   | some (env'', qs) => some (env'', ps ++ qs)
def dq (D : aK) (o : Oper) : Nat :=
 match o.op with
 | .alloc _ => if o.dst.isSome then 2 else 3
 | .box _ _ => if o.dst.isSome then 2 else 3
 | .buildSlice _ _ _ => match o.dst with
  | some d => if D.own.contains d then 2 else 0
  | none => 3
 | .load _ _ => 1
 | .indexAddr _ _ _ => 1
 | .store _ _ _ => 3
 | .call c => match c.callee with
  | .builtin .len => 1
  | .builtin .append => 3
  | .builtin _ => 0
  | _ => 0
 | _ => 0
def dO (D : aK) (o : Oper) : Nat :=
 match o.op with
 | .slice _ _ _ _ _ => 1
 | .call c => match c.callee with
  | .builtin .copy => 3
  | .builtin .clear => 3
  | .value (.func f) => match D.R.lookup f with | some S => (if S.arg || o.dst.isNone || (D.F.lookup f).isSome || D.ovl.contains f then 3 else 2) | none => if D.ovl.contains f then 1 else match D.F.lookup f with
   | some S => if eZ S.rs && zM S.as then 1 else 0
   | none => 0
  | .value (.tmp _) => if oB D o then 1 else 0
  | _ => dq D o
 | _ => dq D o
def lR (o : Oper) : Option Nat :=
 match o.op with
 | .lookup _ _ _ _ => some 1
 | .makeMap _ _ => some (if o.dst.isSome then 2 else 3)
 | .mapUpdate _ _ _ _ => some 3
 | .range _ _ => some 3
 | .next _ _ => some 3
 | .entry _ => some 3
 | _ => none
def cls (D : aK) (o : Oper) : Nat :=
 if eX D o then 3 else
 match lR o with
 | some c => c
 | none => dO D o
def qB (D : aK) (x y : Oper) : Bool :=
 cls D x == 0 || cls D y == 0 || (cls D x == 1 && (cls D y == 1 || cls D y == 2)) || (cls D x == 2 && cls D y == 2)
def kf (o : Oper) : List Nat := (o.after.toList.filter fun e => Region.binds .any e).map fun e => e.on
def tU : List Nat → List Nat
 | [] => []
 | x :: l => if l.contains x then tU l else x :: tU l
def L4 (ops : Array Oper) (acc : List (Nat × List Nat)) (i : Nat) : List Nat :=
 match ops[i]? with
 | some o => tU (kf o ++ (kf o).flatMap fun d => (acc.lookup d).getD [])
 | none => []
def sM (ops : Array Oper) : List Nat → List (Nat × List Nat) → List (Nat × List Nat)
 | [], acc => acc
 | i :: l, acc => sM ops l ((i, L4 ops acc i) :: acc)
def nO (D : aK) (ops : Array Oper) (anc : List (Nat × List Nat)) : List Nat → List Nat → Bool
 | _, [] => true
 | pre, i :: l => (match ops[i]? with
  | none => true
  | some oi => ((kf oi).all fun d => pre.contains d) &&
   pre.all fun j => (match ops[j]? with | some oj => qB D oj oi && oj.apart ops oi | none => true) || ((anc.lookup i).getD []).contains j) && nO D ops anc (i :: pre) l
def fV : List Nat → Bool
 | [] => true
 | x :: l => !l.contains x && fV l
def so (D : aK) (ops : Array Oper) (ord : List Nat) : Bool :=
 fV ord && (ord.all fun i => decide (i < ops.size)) && ((List.range ops.size).all fun i => ord.contains i) && nO D ops (sM ops ord []) [] ord
def E1 (D : aK) (ops : Array Oper) : Nat → List Nat → List Nat → List Nat
 | 0, _, _ => []
 | n + 1, done, rest =>
  let ready := rest.filter fun i => match ops[i]? with | some o => (kf o).all fun d => done.contains d | none => true
  match (match ready.find? fun i => (match ops[i]? with | some o => decide (cls D o ≤ 1) | none => true) with | some i => some i | none => ready.head?) with
  | some i => i :: E1 D ops n (i :: done) (rest.filter fun j => !(j == i))
  | none => []
def A0 (D : aK) (draw : Bool) (ops : Array Oper) : Option (List Nat) :=
 if draw then (if so D ops (List.range ops.size) then some (List.range ops.size) else if so D ops (E1 D ops ops.size [] (List.range ops.size)) then some (E1 D ops ops.size [] (List.range ops.size)) else none) else some (List.range ops.size)
def f7 (D : aK) (ops : Array Oper) : List Nat → Env → Option (Env × List Prop)
 | [], env => some (env, [])
 | i :: l, env => match ops[i]? with
  | none => f7 D ops l env
  | some o => match vop D ops o env with
   | none => none
   | some (env', ps) => match f7 D ops l env' with
    | none => none
    | some (env'', qs) => some (env'', ps ++ qs)
structure EC where
 keep : List Nat
 own : List (Nat × Ty) := []
structure Ann where
 loops : List (Nat × EC) := []
 frz : List (Nat × List Nat) := []
 gy : Bool := false
 piv : List (Nat × Nat) := []
def dc : Code → Option Nat
 | .region id _ _ => some id
 | .seq a b => match dc a with | some i => some i | none => dc b
 | .block _ b => dc b
 | .loop b => dc b
 | .cond _ a b => match dc a with | some i => some i | none => dc b
 | _ => none
def xx (key : Nat) : Code → List Item → Option (List Item)
 | .loop b, k => match dc b with
  | some i => if i = key then some (.code b :: .inLoop b :: k) else xx key b (.inLoop b :: k)
  | none => xx key b (.inLoop b :: k)
 | .seq a b, k => match xx key a (.code b :: k) with | some r => some r | none => xx key b k
 | .cond _ a b, k => match xx key a k with | some r => some r | none => xx key b k
 | .block id b, k => xx key b (.inBlock id :: k)
 | .rangeFunc _ _ _ c, _ => xx key c []
 | _, _ => none
def lp (fn : Func) (key : Nat) : List Item := (xx key (fn.body.getD .skip) []).getD []
def aA (fn : Func) : List Item := [.code (fn.body.getD .skip)]
inductive a6 where
 | bad (why : Nat)
 | ret (k : K)
 | ite (c : Bool) (t e : a6)
 | req (p : Prop) (t : a6)
 | loop (todo : List Item) (s : List (Nat × K)) (b : List (Nat × Bx))
def LN : List Prop → a6 → a6
 | [], t => t
 | p :: ps, t => .req p (LN ps t)
def ofS (l : List (Nat × K)) (n : Nat) : K := match l.lookup n with | some k => k | none => .any
def ofB (l : List (Nat × Bx)) (n : Nat) : BS := match l.lookup n with | some x => .live x | none => .no
def Env.of (s : List (Nat × K)) (b : List (Nat × Bx)) : Env := ⟨ofS s, ofB b, 1000⟩
def KT : (b : Ty) → K → Option (den b)
 | .unit, .knil => some ()
 | .pair a b, .kcons x y => match bt a x, KT b y with
  | some u, some v => some (u, v)
  | _, _ => none
 | _, _ => none
def xq (b : Nat → BS) (s : Nat → K) (n : Nat) : Option (Nat → BS) :=
  match s (n % 1000) with
  | .ptr id _ [] => match ao b id with
    | some (.obj (.st t) (.agg bd c)) => if n / 1000 = 100 then (if bd = t then (match KT t c with
        | some x => some (aG b [(id, .live (.cell (.st t) x))])
        | none => none) else none)
      else match sS c (n / 1000 - 1) with
        | .sl j _ => match ao b j with
          | some (.row e xs) => (match p9 c (n / 1000 - 1) (.val (.slc e) xs) with
            | some c' => some (aG b [(j, .dead), (id, .live (.obj (.st t) (.agg bd c')))])
            | none => none)
          | _ => none
        | _ => none
    | _ => none
  | _ => none
def un (b : Nat → BS) (s : Nat → K) (n : Nat) : Option ((Nat → K) × (Nat → BS)) :=
 if 1000 ≤ n then (xq b s n).map fun b => (s, b) else
 match s n with
 | .sl id _ => match ao b id with
  | some (.row e xs) => some (put s (some n) (.val (.slc e) xs), aG b [(id, .dead)])
  | _ => none
 | .ptr id _ [] => match ao b id with
  | some (.cell t x) => some (put s (some n) (.ref t x), aG b [(id, .dead)])
  | _ => none
 | _ => none
def oo (l : List Nat) (env : Env) : Option Env :=
 match l with
 | [] => some env
 | n :: l => match un env.b env.s n with
  | some (s, b) => oo l { env with s, b }
  | none => none
def sG (s : Nat → K) : List Nat → List (Nat × Nat) → List (Nat × Nat)
 | [], acc => acc
 | n :: l, acc => match s n with
  | .ptr id _ _ => if (acc.lookup id).isSome then sG s l acc else sG s l (acc ++ [(id, n)])
  | .sl id _ => if (acc.lookup id).isSome then sG s l acc else sG s l (acc ++ [(id, n)])
  | _ => sG s l acc
def Cr (σ : List (Nat × Nat)) : K → K
 | .ptr id t p => match σ.lookup id with | some j => .ptr j t p | none => .any
 | .sl id e => match σ.lookup id with | some j => .sl j e | none => .any
 | .val t x => .val t x
 | .clip e xs => .clip e xs
 | .nilsl => .nilsl
 | .ref t x => .ref t x
 | .fnc f => .fnc f
 | _ => .any
def Fg : Bx → Bool
 | .cell _ _ => true
 | .row _ _ => true
 | _ => false
def p7 (b : Nat → BS) : List (Nat × Nat) → Option (List (Nat × Bx))
 | [] => some []
 | (i, j) :: l => match ao b i, p7 b l with
  | some x, some r => if Fg x then some ((j, x) :: r) else none
  | _, _ => none
def IW (n : Nat) (e : Ty) (env : Env) : Option Env :=
 match env.s n with
 | .nilsl => if aX env.b n then some { env with s := put env.s (some n) (.sl n e), b := aG env.b [(n, .live (.row e []))] } else none
 | .sl id e' => some { env with s := put env.s (some n) (.sl id e') }
 | _ => none
def Ii (n : Nat) (e : Ty) (env : Env) : Option Env :=
 match env.s n with
 | .nilsl => some { env with s := put env.s (some n) (.val (.slc e) []) }
 | .val t x => some { env with s := put env.s (some n) (.val t x) }
 | .clip e xs => some { env with s := put env.s (some n) (.val (.slc e) xs) }
 | .sl _ _ => match un env.b env.s n with
  | some (s, b) => some { env with s, b }
  | none => none
 | _ => none
def I1 (n i : Nat) (e : Ty) (env : Env) : Option Env :=
 match env.s n with
 | .ptr id _ [] => match ao env.b id with
  | some (.obj t (.agg b c)) => (match sS c i with
   | .nilsl => if aX env.b (700 + n) then (match p9 c i (.sl (700 + n) e) with
    | some c' => some { env with b := aG env.b [(700 + n, .live (.row e [])), (id, .live (.obj t (.agg b c')))] }
    | none => none) else none
   | .sl _ _ => some env
   | _ => none)
  | _ => none
 | _ => none
def CM (n : Nat) (t : Ty) (env : Env) : Option Env :=
 match t with
 | .ref e => Ii n e env
 | .mp (.arr i _) e => I1 n i e env
 | e => IW n e env
def zR : List (Nat × Ty) → Env → Option Env
 | [], env => some env
 | (n, e) :: l, env => match CM n e env with
  | some env => zR l env
  | none => none
def wA (A : EC) (todo : List Item) (env : Env) : a6 :=
 match zR A.own env with
 | none => .bad 1
 | some env =>
  let σ := sG env.s A.keep []
  if fV (σ.map (·.1)) && fV (σ.map (·.2)) then
   match p7 env.b σ with
   | some bs => .loop todo (A.keep.map fun n => (n, Cr σ (env.s n))) bs
   | none => .bad 2
  else .bad 13
def DZ (env : Env) : ResultVar → Option K
 | .tmp t => match env.s t with
  | .val u x => some (.val u x)
  | .clip e xs => some (.val (.slc e) xs)
  | .nilsl => some .nilsl
  | .lit b => some (.val .bool b)
  | .clo f k => some (.clo f k)
  | .sl id _ => match ao env.b id with
   | some (.row e xs) => some (.val (.slc e) xs)
   | _ => none
  | .pm id => match ao env.b id with
   | some (.mpd k v l) => some (.val (.mp k v) l)
   | _ => none
  | _ => none
 | .cell t _ => match env.s t with
  | .ptr id _ [] => match ao env.b id with
   | some (.cell u x) => some (.val u x)
   | _ => none
  | _ => none
def DK (env : Env) : List ResultVar → Option (List K)
 | [] => some []
 | r :: l => match DZ env r, DK env l with
  | some k, some ks => some (k :: ks)
  | _, _ => none
def Bc (D : aK) : List ResultVar → List K → Bool
 | [], _ => true
 | .tmp _ :: l, _ :: ks => Bc D l ks
 | .cell _ ty :: l, .val u _ :: ks => decide (D.ty ty = some u) && Bc D l ks
 | _, _ => false
def xV (D : aK) (rs : Ty) (fn : Func) (env : Env) : a6 :=
 match DK env fn.results.toList with
 | some ks => if Bc D fn.results.toList ks then (match dE rs ks with
  | some x => .ret (.val rs x)
  | none => .bad 3) else .bad 14
 | none => .bad 4
def gn (D : aK) (A : Ann) (rs : Ty) (fn : Func) : Nat → List Item → Env → a6
 | 0, _, _ => .bad 5
 | n + 1, todo, env =>
  match todo with
  | [] => xV D rs fn env
  | .code c :: k =>
   match c with
   | .skip => gn D A rs fn n k env
   | .region id ops draw =>
    match A0 D draw ops with
    | none => .bad 12
    | some ord => match oo ((A.frz.lookup id).getD []) env with
     | none => .bad 6
     | some env => match f7 D ops ord env with
      | none => .bad (1000 + id)
      | some (env', ps) => LN ps (gn D A rs fn n k { env' with lim := env'.lim + 1000 })
   | .seq a b => gn D A rs fn n (.code a :: .code b :: k) env
   | .cond x a b => match uk (rd D env.s none x) with
    | some t => .ite t (gn D A rs fn n (.code a :: k) env) (gn D A rs fn n (.code b :: k) env)
    | none => .bad 7
   | .block id b => gn D A rs fn n (.code b :: .inBlock id :: k) env
   | .loop b => match (dc b).bind (fun i => List.lookup i A.loops) with
    | some L => wA L (.code b :: .inLoop b :: k) env
    | none => .bad 8
   | .exit id => match exitTo id k with
    | some k' => gn D A rs fn n k' env
    | none => .bad 9
   | .ret => xV D rs fn env
   | _ => .bad 10
  | .inBlock _ :: k => gn D A rs fn n k env
  | .inLoop b :: k => match (dc b).bind (fun i => List.lookup i A.loops) with
   | some L => wA L (.code b :: .inLoop b :: k) env
   | none => .bad 8
  | _ => .bad 11
end Go.Proofs.Ytimdnodkabnbfaa
namespace Go.Proofs.Ytimdnodkabnbfaa
open Go Go.RowKit
def aQ : Ty → List Value
 | .int k => [.int k 0]
 | .bool => [.bool false]
 | .str => [.string ByteArray.empty]
 | .unit => []
 | .pair a b => aQ a ++ aQ b
 | .st b => aQ b
 | .arr n e => (List.replicate n (aQ e)).flatten
 | .slc _ => [.slice none 0 0]
 | .fn _ _ => [.nilFunc]
 | .ref _ => [undef]
 | .mp _ _ => [.map none]
 | .clo _ _ => [undef]
def zv : Value → Value → Bool
 | .int k n, .int k' n' => k == k' && n == n'
 | .bool a, .bool b => a == b
 | .string s, .string s' => s.size == 0 && s'.size == 0
 | .slice none 0 0, .slice none 0 0 => true
 | .nilFunc, .nilFunc => true
 | .map none, .map none => true
 | _, _ => false
theorem Qe {a b : Value} (h : zv a b = true) : a = b := by
 unfold zv at h
 split at h
 ·simp at h; rw [h.1, h.2]
 ·simp at h; rw [h]
 ·simp at h; rw [h.1, h.2]
 ·rfl
 ·rfl
 ·rfl
 ·cases h
def zvs : List Value → List Value → Bool
 | [], [] => true
 | x :: xs, y :: ys => zv x y && zvs xs ys
 | _, _ => false
theorem Na : ∀ {a b : List Value}, zvs a b = true → a = b
 | [], [], _ => rfl
 | x :: xs, y :: ys, h => by simp only [zvs, Bool.and_eq_true] at h; rw [Qe h.1, Na h.2]
 | [], _ :: _, h => by cases h
 | _ :: _, [], h => by cases h
def DQ : Value → Bool
 | .agg _ => true
 | _ => false
def plain : Ty → Bool
 | .int _ => true
 | .bool => true
 | .str => true
 | .unit => true
 | .pair a b => plain a && plain b
 | .st b => plain b
 | .arr _ e => plain e
 | .slc e => plain e
 | .fn _ _ => true
 | .ref _ => false
 | .mp _ _ => true
 | .clo _ _ => false
def dF (T : Nat → Option Ty) : List Field → Ty → Nat → Bool
 | [], .unit, _ => true
 | f :: fs, .pair a b, off => f.offset == off && decide (T f.type = some a) && f.name != "_" && decide (1 ≤ siz a) && dF T fs b (off + siz a)
 | _, _, _ => false
def cq (P : Program) (T : Nat → Option Ty) (id : TypeId) (t : Ty) : Bool :=
 match P.underlying id, t with
 | some (.int k), .int k' => k == k'
 | some .bool, .bool => true
 | some .string, .str => true
 | some (.struct fs), .st b => dF T fs.toList b 0 && !P.stoodInHeld id
 | some (.array n e), .arr m te => n == m && decide (T e = some te) && (decide (1 ≤ siz te) && decide (m ≤ 1000000))
 | some (.slice e), .slc te => decide (T e = some te) && decide (1 ≤ siz te)
 | some (.func _ _ _), .fn _ _ => true
 | some (.map kt vt), .mp k v => decide (T kt = some k) && decide (T vt = some v) && decide (1 ≤ siz k) && decide (1 ≤ siz v)
 | _, _ => false
def PG (P : Program) (T : Nat → Option Ty) (id : TypeId) (t : Ty) : Bool :=
 match P.info? id with
 | some i => i.size == siz t && decide (i.bytes ≤ 65536) && plain t && cq P T id t &&
  (!isAgg t || !P.eqGuardType P.depth id) && (match i.zero with | some z => DQ z == isAgg t && zvs z.cells.toList (aQ t) | none => false)
 | none => false
def AE (P : Program) (T : List (Nat × Ty)) : Bool := T.all fun (id, t) => PG P (fun i => T.lookup i) id t
section
variable {P : Program} {T : Nat → Option Ty} {id : TypeId}
theorem fD {k : IntKind} (h : cq P T id (.int k) = true) : P.underlying id = some (.int k) := by
 rcases hd : P.underlying id with _ | d
 ·simp [cq, hd] at h
 ·cases d <;> simp [cq, hd] at h ⊢
  exact h
theorem sq (h : cq P T id .bool = true) : P.underlying id = some .bool := by
 rcases hd : P.underlying id with _ | d
 ·simp [cq, hd] at h
 ·cases d <;> simp [cq, hd] at h ⊢
theorem gg (h : cq P T id .str = true) : P.underlying id = some .string := by
 rcases hd : P.underlying id with _ | d
 ·simp [cq, hd] at h
 ·cases d <;> simp [cq, hd] at h ⊢
theorem jd {b : Ty} (h : cq P T id (.st b) = true) : ∃ fs, P.underlying id = some (.struct fs) ∧ dF T fs.toList b 0 = true ∧ P.stoodInHeld id = false := by
 rcases hd : P.underlying id with _ | d
 ·simp [cq, hd] at h
 ·cases d <;> simp [cq, hd] at h ⊢
  exact h
theorem sn {n : Nat} {te : Ty} (h : cq P T id (.arr n te) = true) : ∃ e, P.underlying id = some (.array n e) ∧ T e = some te ∧ 1 ≤ siz te ∧ n ≤ 1000000 := by
 rcases hd : P.underlying id with _ | d
 ·simp [cq, hd] at h
 ·cases d <;> simp [cq, hd] at h ⊢
  exact ⟨_, ⟨h.1.1, rfl⟩, h.1.2, h.2⟩
theorem ja {n : Nat} {te : Ty} (h : cq P T id (.arr n te) = true) : ∃ e, P.underlying id = some (.array n e) ∧ T e = some te ∧ 1 ≤ siz te :=
 let ⟨e, h1, h2, h3, _⟩ := sn h; ⟨e, h1, h2, h3⟩
theorem aY {te : Ty} (h : cq P T id (.slc te) = true) : ∃ e, P.underlying id = some (.slice e) ∧ T e = some te ∧ 1 ≤ siz te := by
 rcases hd : P.underlying id with _ | d
 ·simp [cq, hd] at h
 ·cases d <;> simp [cq, hd] at h ⊢
  exact h
theorem iQ {t : Ty} (h : cq P T id t = true) : t ≠ .unit ∧ (∀ a b, t ≠ .pair a b) ∧ (∀ a, t ≠ .ref a) := by
 refine ⟨?_, ?_, ?_⟩
 ·rintro rfl
  rcases hd : P.underlying id with _ | d
  ·simp [cq, hd] at h
  ·cases d <;> simp [cq, hd] at h
 ·rintro a b rfl
  rcases hd : P.underlying id with _ | d
  ·simp [cq, hd] at h
  ·cases d <;> simp [cq, hd] at h
 ·rintro a rfl
  rcases hd : P.underlying id with _ | d
  ·simp [cq, hd] at h
  ·cases d <;> simp [cq, hd] at h
end
structure Fit (P : Program) (T : Nat → Option Ty) (id : TypeId) (t : Ty) : Prop where
 info : ∃ i z, P.info? id = some i ∧ i.size = siz t ∧ i.bytes ≤ 65536 ∧ i.zero = some z ∧ z = az t (aQ t)
 plain : plain t = true
 shape : cq P T id t = true
 guard : isAgg t = true → P.eqGuardType P.depth id = false
theorem iY {α : Type} {l : List (Nat × α)} {i : Nat} {x : α} (h : l.lookup i = some x) : (i, x) ∈ l := by
 induction l with
 | nil => cases h
 | cons y l ih =>
  obtain ⟨j, y⟩ := y
  rw [List.lookup_cons] at h
  split at h
  ·rename_i e
   have : i = j := by simpa using e
   subst this
   have : y = x := by simpa using h
   subst this
   exact List.mem_cons_self ..
  ·exact List.mem_cons_of_mem _ (ih h)
theorem CO {t : Ty} {z : Value} (h : DQ z = isAgg t) (hl : z.cells.toList = aQ t) : z = az t (aQ t) := by
 unfold az
 cases hz : isAgg t
 ·rw [hz] at h
  rw [← hl]
  cases z <;> first | rfl | (simp [DQ] at h)
 ·rw [hz] at h
  cases z with
  | agg cs => rw [← hl]; rfl
  | _ => simp [DQ] at h
theorem mw {P : Program} {T : List (Nat × Ty)} (h : AE P T = true) {id : TypeId} {t : Ty} (hl : T.lookup id = some t) : Fit P (fun i => T.lookup i) id t := by
 have := List.all_eq_true.1 h _ (iY hl)
 simp only [PG] at this
 split at this
 ·rename_i i hi
  simp only [Bool.and_eq_true, beq_iff_eq, decide_eq_true_eq] at this
  obtain ⟨⟨⟨⟨⟨h1, h2⟩, h3⟩, h4⟩, h6⟩, h5⟩ := this
  split at h5
  ·rename_i z hz
   simp only [Bool.and_eq_true, beq_iff_eq] at h5
   exact ⟨⟨i, z, hi, h1, h2, hz, CO h5.1 (Na h5.2)⟩, h3, h4, fun ha => by rw [ha] at h6; simpa using h6⟩
  ·cases h5
 ·cases this
section
variable {P : Program} {T : Nat → Option Ty} {id : TypeId} {t : Ty}
theorem Fit.isAgg (h : Fit P T id t) (w : World) : (Go.isAgg id).run P w = .ok (Go.Proofs.Ytimdnodkabnbfaa.isAgg t) w := by
 have hs := h.shape
 unfold cq at hs
 unfold Go.isAgg
 split at hs <;> first
  | (rename_i hu; rw [Sem.run_bind, run_underlying hu w]; rfl)
  | (rename_i hu _; rw [Sem.run_bind, run_underlying hu w]; rfl)
  | cases hs
theorem Fit.sizeOf (h : Fit P T id t) (w : World) : (Go.sizeOf id).run P w = .ok (siz t) w := by
 obtain ⟨i, z, hi, hs, _⟩ := h.info
 simp [Go.sizeOf, typeInfo, hi, hs]
theorem Fit.zeroValue (h : Fit P T id t) (w : World) : (Go.zeroValue id).run P w = .ok (az t (aQ t)) w := by
 obtain ⟨i, z, hi, hs, _, hz, e⟩ := h.info
 simp [Go.zeroValue, typeInfo, hi, hz, e]
theorem eW (h : Fit P T id t) (ha : Go.Proofs.Ytimdnodkabnbfaa.isAgg t = false) : siz t = 1 := by
 have hs := h.shape
 unfold cq at hs
 split at hs <;> first | rfl | (simp [Go.Proofs.Ytimdnodkabnbfaa.isAgg] at ha; done) | cases hs
theorem bK {cs : List Value} (hl : cs.length = siz t) (h : Go.Proofs.Ytimdnodkabnbfaa.isAgg t = false → siz t = 1) (hc : ∀ u ∈ cs, u.oneCell' = true) : (az t cs).cells = cs.toArray := by
 unfold az
 split
 ·rfl
 ·rename_i ha
  have := h (by simpa using ha)
  rw [this] at hl
  match cs, hl with
  | [c], _ =>
   have := hc c (by simp)
   cases c <;> first | rfl | (simp [Value.oneCell'] at this)
theorem qq (h : Fit P T id t) (w : World) (ad : Addr) (L : List Value) (hl : L.length = siz t) (hc : ∀ j u, L[j]? = some u → w.cell? (ad.add j) = some u) :
    (loadVar id ad).run P w = .ok (az t L) w := by
  unfold loadVar
  rw [Sem.run_bind, h.isAgg w]
  simp only [Result.andThen_ok]
  cases ha : Go.Proofs.Ytimdnodkabnbfaa.isAgg t
  · have h1 := eW h ha
    rw [h1] at hl
    match L, hl with
    | [c], _ =>
      have hcell := hc 0 c rfl
      have e : ad.add 0 = ad := by unfold Addr.add; simp
      rw [e] at hcell
      simp [az, ha, hcell]
  · simp only [if_true, Sem.run_bind, h.sizeOf w, Result.andThen_ok]
    rw [← hl, run_loadCells_list (P := P) w ad L hc]
    simp [az, ha]
end
theorem RepAll.replicate {α : Type} {R : List Value → α → Prop} {n : Nat} {z : List Value} {x : α} (hz : z.length = n) (h : R z x) : ∀ m, RepAll R n (List.replicate m z).flatten (List.replicate m x)
 | 0 => by simp [RepAll]
 | m + 1 => by
  simp only [List.replicate_succ, List.flatten_cons, RepAll]
  rw [List.take_left' hz, List.drop_left' hz]
  exact ⟨h, RepAll.replicate hz h m⟩
theorem bz : ∀ t : Ty, (aQ t).length = siz t := by
 intro t
 induction t with
 | pair a b iha ihb => simp [aQ, siz, iha, ihb]
 | st b ih => exact ih
 | arr n e ih => simp [aQ, siz, ih]
 | _ => rfl
theorem pI (k : IntKind) : InK k 0 := by cases k <;> exact ⟨by decide, by decide⟩
theorem eN (P : Program) (O : Nat → Prop) (w : World) : ∀ t : Ty, plain t = true → Rep P t .cells O w (aQ t) (zero t) := by
 intro t
 induction t with
 | int k => intro _; exact ⟨rfl, pI k⟩
 | bool => intro _; rfl
 | str => intro _; exact ⟨rfl, Nat.zero_le _⟩
 | unit => intro _; rfl
 | pair a b iha ihb =>
  intro h
  simp only [plain, Bool.and_eq_true] at h
  refine ⟨?_, ?_⟩
  ·have : (aQ (.pair a b)).take (siz a) = aQ a := List.take_left' (bz a)
   rw [this]; exact iha h.1
  ·have : (aQ (.pair a b)).drop (siz a) = aQ b := List.drop_left' (bz a)
   rw [this]; exact ihb h.2
 | st b ih => intro h; exact ih h
 | arr n e ih =>
  intro h
  exact ⟨by simp [zero], RepAll.replicate (bz e) (ih h) n⟩
 | slc e ih =>
  intro h
  exact ⟨none, 0, [], rfl, by simp [zero], Nat.zero_le _, by simp [zero], rfl, fun hx => absurd rfl hx, fun _ => rfl⟩
 | fn a r _ _ => intro _; rfl
 | ref t _ => intro h; cases h
 | mp k v _ _ => intro h; exact ⟨none, rfl, fun _ => rfl, fun g hg => by cases hg⟩
 | clo f c _ => intro h; cases h
theorem vm {α : Type} {R : List Value → α → Prop} {n : Nat} (hR : ∀ cs x, R cs x → ∀ u ∈ cs, u.oneCell' = true) : ∀ {cs : List Value} {xs : List α}, RepAll R n cs xs → ∀ u ∈ cs, u.oneCell' = true
 | _, [], h => by rw [show _ = [] from h]; simp
 | cs, x :: xs, h => by
  intro u hu
  rw [← List.take_append_drop n cs] at hu
  rcases List.mem_append.1 hu with h1 | h1
  ·exact hR _ _ h.1 u h1
  ·exact vm hR h.2 u h1
theorem Rep.oneCell {P : Program} {O : Nat → Prop} {w : World} : ∀ {t : Ty} {cs : List Value} {x : den t}, Rep P t .cells O w cs x → ∀ u ∈ cs, u.oneCell' = true := by
 intro t
 induction t with
 | int k => intro cs x h; obtain ⟨rfl, _⟩ := h; simp [Value.oneCell']
 | bool => intro cs x h; rw [show cs = _ from h]; simp [Value.oneCell']
 | str => intro cs x h; obtain ⟨rfl, _⟩ := h; simp [Value.oneCell']
 | unit => intro cs x h; rw [show cs = _ from h]; simp
 | pair a b iha ihb =>
  intro cs x h u hu
  rw [← List.take_append_drop (siz a) cs] at hu
  rcases List.mem_append.1 hu with h1 | h1
  ·exact iha h.1 u h1
  ·exact ihb h.2 u h1
 | st b ih => intro cs x h; exact ih h
 | arr n e ih => intro cs x h; exact vm (fun cs x k => ih k) h.2
 | slc e ih => intro cs x h; obtain ⟨a, c, L, rfl, _⟩ := h; simp [Value.oneCell']
 | fn a r _ _ =>
  intro cs x h
  cases x with
  | none => rw [show cs = [.nilFunc] from h]; simp [Value.oneCell']
  | some g => obtain ⟨f, _, rfl, _⟩ := h; simp [Value.oneCell']
 | ref t _ => intro cs x h; obtain ⟨ad, L, rfl, _⟩ := h; simp [Value.oneCell']
 | mp k v _ _ => intro cs x h; obtain ⟨r, rfl, _⟩ := h; simp [Value.oneCell']
 | clo f c _ => intro cs x h; obtain ⟨vs, rfl, _⟩ := h; simp [Value.oneCell']
end Go.Proofs.Ytimdnodkabnbfaa
namespace Go.Proofs.Ytimdnodkabnbfaa
open Go Go.RowKit
structure Gst where
 hd : Nat → Value
 bk : Nat → Option Nat
 b : Nat → BS
 O : Nat → Prop
 w0 : World
 own : Nat → Prop
def Gst.nb (G : Gst) (g : Nat) : Prop := G.w0.heap.size ≤ g ∨ G.own g
structure uV (own : Nat → Prop) (w w' : World) : Prop where
 os : w'.os = w.os
 tape : Tp w w'
 output : w'.output = w.output
 size : w.heap.size ≤ w'.heap.size
 block : ∀ b, b < w.heap.size → ¬ own b → w'.heap[b]? = w.heap[b]?
theorem Kept.x {w w' : World} (h : Kept w w') (own : Nat → Prop) : uV own w w' := ⟨h.os, h.tape, h.output, h.size, fun b hb _ => h.block b hb⟩
theorem uV.trans {own : Nat → Prop} {a b c : World} (h : uV own a b) (k : Kept b c) : uV own a c :=
 ⟨k.os.trans h.os, k.tape.trans h.tape, k.output.trans h.output, Nat.le_trans h.size k.size, fun i hi ho => (k.block i (Nat.lt_of_lt_of_le hi h.size)).trans (h.block i hi ho)⟩
def Gst.av (G : Gst) (g : Nat) : Prop := G.O g ∨ ∃ id x, G.b id = .live x ∧ G.bk id = some g
def xN (P : Program) (av : Nat → Prop) (w : World) (t : Ty) (ad : Addr) (x : den t) : Prop :=
 ∃ L, ¬ av ad.block ∧ ad.block < w.heap.size ∧ (∀ j u, L[j]? = some u → w.cell? (ad.add j) = some u) ∧ Rep P t .cells av w L x
def pok : Ty → List Sel → Prop
 | _, [] => True
 | .st b, .fld i :: p => match cV b i with | some t => pok t p | none => False
 | .arr n e, .idx j :: p => (0 ≤ j ∧ j < (n : Int)) ∧ pok e p
 | .slc e, .idx j :: p => 0 ≤ j ∧ pok e p
 | _, _ => False
def i5 : Value → Nat
 | .slice (some a) _ _ => a.off
 | .pointer (some a) => a.off
 | _ => 0
def t6 : Ty → List Value → Prop
 | .unit, vs => vs = []
 | .pair a b, vs => ∃ v rest, vs = v :: rest ∧ v.cells.size = siz a ∧ (∀ u ∈ v.cells.toList, u.oneCell' = true) ∧ (isAgg a = true → ∃ cs, v = .agg cs) ∧ (isAgg a = false → v.oneCell' = true) ∧ t6 b rest
 | _, _ => False
def KV (P : Program) (G : Gst) (w : World) (tm : Nat → Value) : K → Value → Prop
 | .any, _ => True
 | .nilsl, v => v = .slice none 0 0
 | .val t x, v => aB P t G.av w v x
 | .clip e xs, v => aB P (.slc e) G.av w v xs ∧ ∃ a n, v = .slice a n n
 | .grd s c cs k, v => (tm s = .bool c → (∀ q ∈ cs, q.1 = q.2) ∧ KV P G w tm k v) ∧ (tm s ≠ .bool c → v = undef)
 | .opt cs k, v => v = undef ∨ ((∀ q ∈ cs, q.1 = q.2) ∧ KV P G w tm k v)
 | .tup t x, v => ∃ vs : List Value, v = .tuple vs.toArray ∧ Rep P t .chain G.av w vs x
 | .ref t x, v => ∃ ad, v = .pointer (some ad) ∧ xN P G.av w t ad x
 | .ptr id base p, v => (∃ x, G.b id = .live x ∨ G.b id = .dead) ∧ pok base p ∧ ∃ g, G.bk id = some g ∧ v = .pointer (some ⟨g, i5 (G.hd id) + aJ base p, none⟩)
 | .sl id _, v => (∃ x, G.b id = .live x ∨ G.b id = .dead) ∧ v = G.hd id
 | .fnc f, v => v = .func (.func f) #[] #[]
 | .knil, v => v = .tuple #[]
 | .kcons a b, v => ∃ x xs, v = .tuple (x :: xs).toArray ∧ KV P G w tm a x ∧ KV P G w tm b (.tuple xs.toArray)
 | .agg b c, v => ∃ vs : List Value, KV P G w tm c (.tuple vs.toArray) ∧ t6 b vs ∧ v = .agg (vs.flatMap fun u => u.cells.toList).toArray
 | .clo f c, v => ∃ vs : List Value, KV P G w tm c (.tuple vs.toArray) ∧ v = .func (.func f) #[] vs.toArray
 | .vw id e lo n, v => (∃ x, G.b id = .live x ∨ G.b id = .dead) ∧ ∃ a len cap, G.hd id = .slice a len cap ∧ lo + n ≤ cap ∧ ∃ a', v = .slice a' n (cap - lo) ∧ (lo < cap → a' = a.map (·.add (lo * siz e)))
 | .sel c a b, v => (c = true → KV P G w tm a v) ∧ (c = false → KV P G w tm b v)
 | .pm id, v => (∃ x, G.b id = .live x ∨ G.b id = .dead) ∧ ∃ g, G.bk id = some g ∧ v = .map (some g)
 | .nilmp, v => v = .map none
 | .ifc t k, v => ∃ u, v = .iface t u ∧ KV P G w tm k u
 | .nilif, v => v = .nilIface
 | .yld id, v => (∃ x, G.b id = .live x ∨ G.b id = .dead) ∧ ∃ g, G.bk id = some g ∧ v = .func (.yield g) #[] #[]
 | .lit b, v => v = .bool b
 | .asl id base p m e lo n, v => (∃ x, G.b id = .live x ∨ G.b id = .dead) ∧ (pok base p ∧ dg base p = some (.arr m e) ∧ lo + n ≤ m ∧ m ≤ maxLen) ∧ ∃ g a', G.bk id = some g ∧ v = .slice a' n (m - lo) ∧ (lo < m → a' = some ⟨g, i5 (G.hd id) + aJ base p + lo * siz e, none⟩)
def KE (P : Program) (G : Gst) (w : World) : K → List MapEntry → Prop
 | .knil, ms => ms = []
 | .kcons (.kcons a b) r, ms => ∃ m ms', ms = m :: ms' ∧ KV P G w (fun _ => undef) a m.key ∧ KV P G w (fun _ => undef) b m.val ∧ KE P G w r ms'
 | _, _ => False
def RowObj (e : Ty) (o : Option Obj) (arr : Array Value) (eid : TypeId) : Prop := ∃ fz : Nat × Nat, o = some (.cells arr eid fz) ∧ (fz = (0, 0) ∨ (e = .int .u8 ∧ arr.size ≤ fz.1))
theorem RowObj.of {e : Ty} {o : Option Obj} {arr : Array Value} {eid : TypeId} (h : o = some (.cells arr eid (0, 0))) : RowObj e o arr eid := ⟨_, h, .inl rfl⟩
theorem RowObj.far {e : Ty} {o : Option Obj} {arr : Array Value} {eid : TypeId} (h : RowObj e o arr eid) : ∃ fz : Nat × Nat, o = some (.cells arr eid fz) ∧ (fz = (0, 0) ∨ arr.size ≤ fz.1) := let ⟨fz, h1, h2⟩ := h; ⟨fz, h1, h2.imp id (·.2)⟩
def uY (P : Program) (G : Gst) (w : World) (id : Nat) (e : Ty) (n : Nat) (zs : List (den e)) : Prop :=
 (zs = [] ∧ n = 0 ∧ G.bk id = none ∧ ∃ a, G.hd id = .slice a 0 0) ∨
  ∃ g arr eid off, G.bk id = some g ∧ G.hd id = .slice (some ⟨g, off, none⟩) n zs.length ∧ G.nb g ∧ RowObj e w.heap[g]? arr eid ∧ n ≤ zs.length ∧
   zs.length ≤ maxLen ∧ off + zs.length * siz e ≤ arr.size ∧ RepAll (Rep P e .cells G.av w) (siz e) ((arr.toList.drop off).take (zs.length * siz e)) zs
def tZ : List (Nat × K) → Bool
 | [] => true
 | (_, k) :: l => nog k && tZ l
def fE (P : Program) (G : Gst) (w : World) (id : Nat) : Bx → Prop
  | .cell t x => ∃ g arr eid, G.bk id = some g ∧ G.nb g ∧ w.heap[g]? = some (.cells arr eid (0, 0)) ∧ Rep P t .cells G.av w arr.toList x ∧ i5 (G.hd id) = 0
  | .row e xs => (xs = [] ∧ G.bk id = none ∧ ∃ a, G.hd id = .slice a 0 0) ∨
      ∃ g arr eid off sp, G.bk id = some g ∧ G.hd id = .slice (some ⟨g, off, none⟩) xs.length (xs ++ sp).length ∧ G.nb g ∧ RowObj e w.heap[g]? arr eid ∧
        (xs ++ sp).length ≤ maxLen ∧ off + (xs ++ sp).length * siz e ≤ arr.size ∧ RepAll (Rep P e .cells G.av w) (siz e) ((arr.toList.drop off).take ((xs ++ sp).length * siz e)) (xs ++ sp)
  | .full e n zs => uY P G w id e n zs
  | .obj t k => ∃ g arr eid v, G.bk id = some g ∧ G.nb g ∧ w.heap[g]? = some (.cells arr eid (0, 0)) ∧ nog k = true ∧ KV P G w (fun _ => undef) k v ∧ v.cells = arr ∧ arr.size = siz t ∧
      (∀ u ∈ arr.toList, u.oneCell' = true) ∧ (isAgg t = true → ∃ cs, v = .agg cs) ∧ (isAgg t = false → v.oneCell' = true) ∧ i5 (G.hd id) = 0
  | .mpd k v l => ∃ g es ck, G.bk id = some g ∧ G.nb g ∧ w.heap[g]? = some (.map es ck) ∧ Go.MapKept.Stamped es ck ∧ fp (aB P k G.av w) (aB P v G.av w) es.toList l
  | .itr k v left cur => ∃ g gm since seen es, G.bk id = some g ∧ G.nb g ∧ w.heap[g]? = some (.mapIter (some gm) since seen since) ∧ i5 (G.hd id) = 0 ∧
      ¬ G.av gm ∧ gm < w.heap.size ∧ w.heap[gm]? = some (.map es since) ∧ Go.MapKept.Stamped es since ∧
      fp (aB P k G.av w) (aB P v G.av w) (es.filter fun e => !seen.contains e.born).toList left ∧
      ∀ x, cur = some x → ∃ e, e ∈ es.toList ∧ seen.back? = some e.born ∧ aB P k G.av w e.key x.1 ∧ aB P v G.av w e.val x.2
  | .mpk _ c => ∃ g es ck, G.bk id = some g ∧ G.nb g ∧ w.heap[g]? = some (.map es ck) ∧ KE P G w c es.toList
  | .lop st pend s f params assign body => ∃ g d q tmps, G.bk id = some g ∧ G.nb g ∧ w.heap[g]? = some (.loop { state := st, pending := pend, fn := q, tmps, params, assign, body, defers := d }) ∧ tmps.size = f ∧ tZ s = true ∧
      ∀ n, KV P G w (fun _ => undef) (ofS s n) (tmps.getD n undef)
  | .dfr => ∃ g, G.bk id = some g ∧ G.nb g ∧ w.heap[g]? = some (.deferred (some []))
theorem zy {P : Program} {G : Gst} {w : World} {id : Nat} {e : Ty} {xs : List (den e)} : fE P G w id (.row e xs) ↔ ∃ sp, uY P G w id e xs.length (xs ++ sp) := by
 constructor
 ·rintro (⟨rfl, h1, h2⟩ | ⟨g, arr, eid, off, sp, h1, h2, h3, h4, h5, h6, h7⟩)
  ·exact ⟨[], .inl ⟨rfl, rfl, h1, h2⟩⟩
  ·exact ⟨sp, .inr ⟨g, arr, eid, off, h1, h2, h3, h4, by simp, h5, h6, h7⟩⟩
 ·rintro ⟨sp, ⟨e1, e2, h1, h2⟩ | ⟨g, arr, eid, off, h1, h2, h3, h4, _, h5, h6, h7⟩⟩
  ·have : xs = [] := List.eq_nil_of_length_eq_zero e2
   exact .inl ⟨this, h1, h2⟩
  ·exact .inr ⟨g, arr, eid, off, sp, h1, h2, h3, h4, h5, h6, h7⟩
structure MemOk (P : Program) (G : Gst) (w : World) : Prop where
 kept : uV G.own G.w0 w
 old : ∀ g, G.O g → g < w.heap.size
 dis : ∀ g, G.own g → ¬ G.O g ∧ g < G.w0.heap.size
 box : ∀ id x, G.b id = .live x → fE P G w id x
 sep : ∀ i j x y g, G.b i = .live x → G.b j = .live y → G.bk i = some g → G.bk j = some g → i = j
 boxO : ∀ id x g, G.b id = .live x → G.bk id = some g → ¬ G.O g
structure Gst.Ext (G : Gst) (w : World) (G' : Gst) (w' : World) : Prop where
 lat : Lat G.av w G'.av w'
 hd : ∀ id, G.b id ≠ .no → G'.hd id = G.hd id ∧ G'.bk id = G.bk id ∧ G'.b id ≠ .no
 O : (∀ g, G.O g → G'.O g) ∧ ∀ g, G'.O g → G.O g ∨ G.w0.heap.size ≤ g
 w0 : G'.w0 = G.w0
 own : G'.own = G.own
 keepO : ∀ g, G.O g → g < w.heap.size → w'.heap[g]? = w.heap[g]?
structure Gst.Ext0 (G : Gst) (w : World) (G' : Gst) (w' : World) : Prop where
 lat : Lat G.av w G'.av w'
 hd : ∀ id, G.b id ≠ .no → G'.hd id = G.hd id ∧ G'.bk id = G.bk id ∧ G'.b id ≠ .no
 w0 : G'.w0 = G.w0
 own : G'.own = G.own
theorem Gst.Ext.to0 {G G' : Gst} {w w' : World} (h : G.Ext w G' w') : G.Ext0 w G' w' := ⟨h.lat, h.hd, h.w0, h.own⟩
theorem Gst.Ext.refl (G : Gst) (w : World) : G.Ext w G w := ⟨Lat.refl _ _, fun _ h => ⟨rfl, rfl, h⟩, ⟨fun _ h => h, fun _ h => .inl h⟩, rfl, rfl, fun _ _ _ => rfl⟩
theorem Gst.Ext.trans {G G' G'' : Gst} {w w' w'' : World} (h : G.Ext w G' w') (k : G'.Ext w' G'' w'') : G.Ext w G'' w'' :=
 ⟨h.lat.trans k.lat, fun id hi => by
  have h1 := h.hd id hi
  have h2 := k.hd id h1.2.2
  exact ⟨h2.1.trans h1.1, h2.2.1.trans h1.2.1, h2.2.2⟩, ⟨fun g hg => k.O.1 g (h.O.1 g hg), fun g hg => (k.O.2 g hg).elim (h.O.2 g) fun hh => .inr (by rw [h.w0] at hh; exact hh)⟩, k.w0.trans h.w0, k.own.trans h.own,
  fun g hg hl => (k.keepO g (h.O.1 g hg) (Nat.lt_of_lt_of_le hl h.lat.size)).trans (h.keepO g hg hl)⟩
theorem xN.lat {P : Program} {O O' : Nat → Prop} {w w' : World} {t : Ty} {ad : Addr} {x : den t} (h : Lat O w O' w') (hr : xN P O w t ad x) : xN P O' w' t ad x := by
 obtain ⟨L, h1, h2, h3, h4⟩ := hr
 exact ⟨L, (h.keep _ h2 h1).2, Nat.lt_of_lt_of_le h2 h.size, fun j u hj => by
  rw [CT h (by rw [dQ]; exact h1) (by rw [dQ]; exact h2)]; exact h3 j u hj, h4.lat h⟩
theorem i9 {G : Gst} {id : Nat} (h : ∃ x, G.b id = .live x ∨ G.b id = .dead) : G.b id ≠ .no := by
 obtain ⟨x, h | h⟩ := h <;> rw [h] <;> simp
theorem mD {b : BS} (h : b ≠ .no) : ∃ x, b = .live x ∨ b = .dead := by
 cases b with
 | no => exact absurd rfl h
 | dead => exact ⟨.cell .unit (), .inr rfl⟩
 | live x => exact ⟨x, .inl rfl⟩
theorem KV.ext0 {P : Program} {G G' : Gst} {w w' : World} {tm : Nat → Value} (h : G.Ext0 w G' w') : ∀ {k : K} {v : Value}, KV P G w tm k v → KV P G' w' tm k v := by
 intro k
 induction k with
 | any => intro v _; trivial
 | nilsl => intro v hv; exact hv
 | val t x => intro v hv; exact aB.lat h.lat hv
 | clip e xs => intro v hv; exact ⟨aB.lat h.lat hv.1, hv.2⟩
 | grd s c cs k ih => intro v hv; exact ⟨fun hs => ⟨(hv.1 hs).1, ih (hv.1 hs).2⟩, hv.2⟩
 | opt cs k ih => intro v hv; exact hv.imp id fun h => ⟨h.1, ih h.2⟩
 | tup t x => intro v hv; obtain ⟨vs, e, hr⟩ := hv; exact ⟨vs, e, hr.lat h.lat⟩
 | ref t x => intro v hv; obtain ⟨ad, e, hr⟩ := hv; exact ⟨ad, e, hr.lat h.lat⟩
 | ptr id base p =>
  intro v hv
  obtain ⟨hu, hp, g, hg, e⟩ := hv
  have := h.hd id (i9 hu)
  exact ⟨mD this.2.2, hp, g, by rw [this.2.1]; exact hg, by rw [this.1]; exact e⟩
 | sl id e =>
  intro v hv
  obtain ⟨hu, e⟩ := hv
  have := h.hd id (i9 hu)
  exact ⟨mD this.2.2, by rw [this.1]; exact e⟩
 | fnc f => intro v hv; exact hv
 | knil => intro v hv; exact hv
 | kcons a b iha ihb => intro v hv; obtain ⟨x, xs, e, h1, h2⟩ := hv; exact ⟨x, xs, e, iha h1, ihb h2⟩
 | agg b c ih => intro v hv; obtain ⟨vs, h1, h2, e⟩ := hv; exact ⟨vs, ih h1, h2, e⟩
 | clo f c ih => intro v hv; obtain ⟨vs, h1, e⟩ := hv; exact ⟨vs, ih h1, e⟩
 | vw id e lo n =>
  intro v hv
  obtain ⟨hu, a, len, cap, h1, h2⟩ := hv
  have := h.hd id (i9 hu)
  exact ⟨mD this.2.2, a, len, cap, by rw [this.1]; exact h1, h2⟩
 | sel c a b iha ihb => intro v hv; exact ⟨fun hc => iha (hv.1 hc), fun hc => ihb (hv.2 hc)⟩
 | pm id =>
  intro v hv
  obtain ⟨hu, g, hg, e⟩ := hv
  have := h.hd id (i9 hu)
  exact ⟨mD this.2.2, g, by rw [this.2.1]; exact hg, e⟩
 | nilmp => intro v hv; exact hv
 | ifc t k ih => intro v hv; obtain ⟨u, e, h1⟩ := hv; exact ⟨u, e, ih h1⟩
 | nilif => intro v hv; exact hv
 | yld id =>
  intro v hv
  obtain ⟨hu, g, hg, e⟩ := hv
  have := h.hd id (i9 hu)
  exact ⟨mD this.2.2, g, by rw [this.2.1]; exact hg, e⟩
 | lit b => intro v hv; exact hv
 | asl id base p m e lo n =>
  intro v hv
  obtain ⟨hu, hp, g, a', hg, e1, e2⟩ := hv
  have := h.hd id (i9 hu)
  exact ⟨mD this.2.2, hp, g, a', by rw [this.2.1]; exact hg, e1, by rw [this.1]; exact e2⟩
theorem KV.ext {P : Program} {G G' : Gst} {w w' : World} {tm : Nat → Value} (h : G.Ext w G' w') {k : K} {v : Value} (hv : KV P G w tm k v) : KV P G' w' tm k v := hv.ext0 h.to0
theorem KE.ext {P : Program} {G G' : Gst} {w w' : World} (h : G.Ext0 w G' w') : ∀ {k : K} {ms : List MapEntry}, KE P G w k ms → KE P G' w' k ms
 | .knil, _, hh => hh
 | .kcons (.kcons _ _) _, _, ⟨m, ms', e, h1, h2, h3⟩ => ⟨m, ms', e, h1.ext0 h, h2.ext0 h, KE.ext h h3⟩
theorem fE.bk {P : Program} {G : Gst} {w : World} {id : Nat} {x : Bx} (h : fE P G w id x) : ∀ g, G.bk id = some g → g < w.heap.size ∧ G.nb g := by
 intro g hg
 have fin : ∀ {g' : Nat} {o : Obj}, G.bk id = some g' → G.nb g' → w.heap[g']? = some o → g < w.heap.size ∧ G.nb g := fun h1 h2 h3 => by
  rw [hg] at h1; cases h1
  exact ⟨(Array.getElem?_eq_some_iff.1 h3).1, h2⟩
 cases x with
 | cell t y => obtain ⟨g', arr, eid, h1, h2, h3, _⟩ := h; exact fin h1 h2 h3
 | row e xs =>
  rcases h with ⟨_, h1, _⟩ | ⟨g', arr, eid, off, sp, h1, _, h2, ⟨_, h3, _⟩, _⟩
  ·rw [hg] at h1; cases h1
  ·exact fin h1 h2 h3
 | full e n zs =>
  rcases h with ⟨_, _, h1, _⟩ | ⟨g', arr, eid, off, h1, _, h2, ⟨_, h3, _⟩, _⟩
  ·rw [hg] at h1; cases h1
  ·exact fin h1 h2 h3
 | obj t k => obtain ⟨g', arr, eid, v, h1, h2, h3, _⟩ := h; exact fin h1 h2 h3
 | mpd k v l => obtain ⟨g', es, ck, h1, h2, h3, _⟩ := h; exact fin h1 h2 h3
 | itr k v left cur => obtain ⟨g', gm, since, seen, es, h1, h2, h3, _⟩ := h; exact fin h1 h2 h3
 | mpk k c => obtain ⟨g', es, ck, h1, h2, h3, _⟩ := h; exact fin h1 h2 h3
 | lop st pend s f params assign body => obtain ⟨g', d, q, tmps, h1, h2, h3, _⟩ := h; exact fin h1 h2 h3
 | dfr => obtain ⟨g', h1, h2, h3⟩ := h; exact fin h1 h2 h3
theorem qt {G : Gst} {O : Nat → Prop} (h : ∀ g, O g → G.O g) (w : World) : Lat G.av w O w := ⟨Nat.le_refl _, fun _ _ k => ⟨rfl, fun hO => k (.inl (h _ hO))⟩⟩
theorem pN (G : Gst) (w : World) : Lat G.av w G.O w := ⟨Nat.le_refl _, fun _ _ h => ⟨rfl, fun hO => h (.inl hO)⟩⟩
theorem fK {P : Program} {G : Gst} {w : World} (hM : MemOk P G w) {id g : Nat} {x : Bx} (hb : G.b id = .live x) (hk : G.bk id = some g) : g < w.heap.size ∧ G.nb g := (hM.box id x hb).bk g hk
theorem fE.keep0 {P : Program} {G G' : Gst} {w w' : World} {id : Nat} {x : Bx} (hE : G.Ext0 w G' w') (hh : G'.hd id = G.hd id) (hk : G'.bk id = G.bk id)
    (hb : ∀ g, G.bk id = some g → w'.heap[g]? = w.heap[g]?) (h : fE P G w id x) : fE P G' w' id x := by
  have hl := hE.lat
  have hn : ∀ g, G.nb g → G'.nb g := fun g h => by unfold Gst.nb; rw [hE.w0, hE.own]; exact h
  cases x with
  | cell t y =>
    obtain ⟨g, arr, eid, h1, h2, h3, h4, h5⟩ := h
    exact ⟨g, arr, eid, by rw [hk]; exact h1, hn _ h2, by rw [hb g h1]; exact h3, h4.lat hl, by rw [hh]; exact h5⟩
  | row e xs =>
    rcases h with ⟨e1, h1, a, h2⟩ | ⟨g, arr, eid, off, sp, h1, h2, h3, h4, h5, h6, h8⟩
    · exact .inl ⟨e1, by rw [hk]; exact h1, a, by rw [hh]; exact h2⟩
    · exact .inr ⟨g, arr, eid, off, sp, by rw [hk]; exact h1, by rw [hh]; exact h2, hn _ h3, by rw [hb g h1]; exact h4, h5, h6, h8.imp fun _ _ r => r.lat hl⟩
  | full e n zs =>
    rcases h with ⟨e1, e2, h1, a, h2⟩ | ⟨g, arr, eid, off, h1, h2, h3, h4, h5, h6, h7, h8⟩
    · exact .inl ⟨e1, e2, by rw [hk]; exact h1, a, by rw [hh]; exact h2⟩
    · exact .inr ⟨g, arr, eid, off, by rw [hk]; exact h1, by rw [hh]; exact h2, hn _ h3, by rw [hb g h1]; exact h4, h5, h6, h7, h8.imp fun _ _ r => r.lat hl⟩
  | obj t k => obtain ⟨g, arr, eid, v, h1, h2, h3, h4, h5, h6, h7, h8, h9, h10, h11⟩ := h; exact ⟨g, arr, eid, v, by rw [hk]; exact h1, hn _ h2, by rw [hb g h1]; exact h3, h4, h5.ext0 hE, h6, h7, h8, h9, h10, by rw [hh]; exact h11⟩
  | mpd k v l => obtain ⟨g, es, ck, h1, h2, h3, hst, h4⟩ := h; exact ⟨g, es, ck, by rw [hk]; exact h1, hn _ h2, by rw [hb g h1]; exact h3, hst, h4.imp (fun _ _ r => aB.lat hl r) (fun _ _ r => aB.lat hl r)⟩
  | itr k v left cur =>
    obtain ⟨g, gm, since, seen, es, h1, h2, h3, h0, h4, h5, h6, h7, h8, h9⟩ := h
    exact ⟨g, gm, since, seen, es, by rw [hk]; exact h1, hn _ h2, by rw [hb g h1]; exact h3, by rw [hh]; exact h0, (hl.keep gm h5 h4).2, Nat.lt_of_lt_of_le h5 hl.size, by rw [(hl.keep gm h5 h4).1]; exact h6, h7,
      h8.imp (fun _ _ r => aB.lat hl r) (fun _ _ r => aB.lat hl r), fun x hx => let ⟨e, a1, a2, a3, a4⟩ := h9 x hx; ⟨e, a1, a2, a3.lat hl, a4.lat hl⟩⟩
  | mpk k c => obtain ⟨g, es, ck, h1, h2, h3, h4⟩ := h; exact ⟨g, es, ck, by rw [hk]; exact h1, hn _ h2, by rw [hb g h1]; exact h3, h4.ext hE⟩
  | lop st pend s f params assign body => obtain ⟨g, d, q, tmps, h1, h2, h3, h5, h6, h4⟩ := h; exact ⟨g, d, q, tmps, by rw [hk]; exact h1, hn _ h2, by rw [hb g h1]; exact h3, h5, h6, fun n => (h4 n).ext0 hE⟩
  | dfr => obtain ⟨g, h1, h2, h3⟩ := h; exact ⟨g, by rw [hk]; exact h1, hn _ h2, by rw [hb g h1]; exact h3⟩
theorem fE.keep {P : Program} {G G' : Gst} {w w' : World} {id : Nat} {x : Bx} (hE : G.Ext w G' w') (hh : G'.hd id = G.hd id) (hk : G'.bk id = G.bk id)
    (hb : ∀ g, G.bk id = some g → w'.heap[g]? = w.heap[g]?) (h : fE P G w id x) : fE P G' w' id x := h.keep0 hE.to0 hh hk hb
theorem MemOk.kept_on {P : Program} {G : Gst} {w w' : World} (hM : MemOk P G w) (hk : Kept w w') : MemOk P G w' ∧ G.Ext w G w' := by
 have hl : Lat G.av w G.av w' := hk.lat _
 have hE : G.Ext w G w' := ⟨hl, fun _ h => ⟨rfl, rfl, h⟩, ⟨fun _ h => h, fun _ h => .inl h⟩, rfl, rfl, fun g _ hg => hk.block g hg⟩
 exact ⟨⟨hM.kept.trans hk, fun g h => Nat.lt_of_lt_of_le (hM.old g h) hk.size, hM.dis, fun id x hb => (hM.box id x hb).keep hE rfl rfl (fun g hg => hk.block g (fK hM hb hg).1), hM.sep, hM.boxO⟩, hE⟩
def Gst.add (G : Gst) (id g : Nat) (h : Value) (x : Bx) : Gst :=
 { G with hd := fun n => if n = id then h else G.hd n, bk := fun n => if n = id then some g else G.bk n, b := fun n => if n = id then .live x else G.b n }
theorem Gst.add_av {G : Gst} {id g : Nat} {h : Value} {x : Bx} (hf : G.b id = .no) {b : Nat} (hb : ¬ G.av b) (hne : b ≠ g) : ¬ (G.add id g h x).av b := by
 rintro (hO | ⟨i, y, hi, hk⟩)
 ·exact hb (.inl hO)
 ·by_cases e : i = id
  ·subst e; simp [Gst.add] at hk; exact hne hk.symm
  ·simp [Gst.add, e] at hi hk; exact hb (.inr ⟨i, y, hi, hk⟩)
theorem MemOk.add {P : Program} {G : Gst} {w w' : World} (hM : MemOk P G w) (hk : Kept w w') {id g : Nat} {h : Value} {x : Bx} (hf : G.b id = .no) (hg : w.heap.size ≤ g)
    (hx : ∀ G', G.Ext w G' w' → G'.hd id = h → G'.bk id = some g → G'.b id = .live x → fE P G' w' id x) :
    MemOk P (G.add id g h x) w' ∧ G.Ext w (G.add id g h x) w' := by
  have hl : Lat G.av w (G.add id g h x).av w' := ⟨hk.size, fun b hb hO => ⟨hk.block b hb, Gst.add_av hf hO (by omega)⟩⟩
  have hE : G.Ext w (G.add id g h x) w' := ⟨hl, fun i hi => by
    have e : i ≠ id := fun e => hi (by rw [e]; exact hf)
    exact ⟨by simp [Gst.add, e], by simp [Gst.add, e], by simpa [Gst.add, e] using hi⟩, ⟨fun _ h => h, fun _ h => .inl h⟩, rfl, rfl, fun g _ hg => hk.block g hg⟩
  refine ⟨⟨hM.kept.trans hk, fun g h => Nat.lt_of_lt_of_le (hM.old g h) hk.size, hM.dis, fun i y hi => ?_, fun i j y z b hi hj ki kj => ?_, fun i y b hi ki hO => ?_⟩, hE⟩
  rotate_right
  · by_cases e : i = id
    · subst e
      have ki : g = b := by simpa [Gst.add] using ki
      have := hM.old b hO
      omega
    · exact hM.boxO i y b (by simpa [Gst.add, e] using hi) (by simpa [Gst.add, e] using ki) hO
  · by_cases e : i = id
    · subst e
      have : y = x := by simp [Gst.add] at hi; exact hi.symm
      subst this
      exact hx _ hE (by simp [Gst.add]) (by simp [Gst.add]) hi
    · have hi' : G.b i = .live y := by simpa [Gst.add, e] using hi
      exact (hM.box i y hi').keep hE (by simp [Gst.add, e]) (by simp [Gst.add, e]) (fun b hb => hk.block b (fK hM hi' hb).1)
  · by_cases e : i = id
    · by_cases f : j = id
      · rw [e, f]
      · subst e
        have hj' : G.b j = .live z := by simpa [Gst.add, f] using hj
        have kj' : G.bk j = some b := by simpa [Gst.add, f] using kj
        have ki' : g = b := by simpa [Gst.add] using ki
        have := (fK hM hj' kj').1
        omega
    · by_cases f : j = id
      · subst f
        have hi' : G.b i = .live y := by simpa [Gst.add, e] using hi
        have ki' : G.bk i = some b := by simpa [Gst.add, e] using ki
        have kj' : g = b := by simpa [Gst.add] using kj
        have := (fK hM hi' ki').1
        omega
      · exact hM.sep i j y z b (by simpa [Gst.add, e] using hi) (by simpa [Gst.add, f] using hj) (by simpa [Gst.add, e] using ki) (by simpa [Gst.add, f] using kj)
def Gst.drop (G : Gst) (id : Nat) : Gst := { G with b := fun n => if n = id then .dead else G.b n }
theorem Gst.drop_av {G : Gst} {id b : Nat} (hb : ¬ G.av b) : ¬ (G.drop id).av b := by
 rintro (hO | ⟨i, y, hi, hk⟩)
 ·exact hb (.inl hO)
 ·by_cases e : i = id
  ·simp [Gst.drop, e] at hi
  ·exact hb (.inr ⟨i, y, by simpa [Gst.drop, e] using hi, hk⟩)
theorem MemOk.drop {P : Program} {G : Gst} {w : World} (hM : MemOk P G w) (id : Nat) : MemOk P (G.drop id) w ∧ G.Ext w (G.drop id) w := by
 have hl : Lat G.av w (G.drop id).av w := ⟨Nat.le_refl _, fun b _ hO => ⟨rfl, Gst.drop_av hO⟩⟩
 have hE : G.Ext w (G.drop id) w := ⟨hl, fun i hi => ⟨rfl, rfl, by
  by_cases e : i = id
  ·simp [Gst.drop, e]
  ·simpa [Gst.drop, e] using hi⟩, ⟨fun _ h => h, fun _ h => .inl h⟩, rfl, rfl, fun _ _ _ => rfl⟩
 refine ⟨⟨hM.kept, hM.old, hM.dis, fun i y hi => ?_, fun i j y z b hi hj ki kj => ?_, fun i y b hi ki => ?_⟩, hE⟩
 rotate_right
 ·by_cases e : i = id
  ·simp [Gst.drop, e] at hi
  ·exact hM.boxO i y b (by simpa [Gst.drop, e] using hi) ki
 ·by_cases e : i = id
  ·simp [Gst.drop, e] at hi
  ·exact (hM.box i y (by simpa [Gst.drop, e] using hi)).keep hE rfl rfl (fun _ _ => rfl)
 ·by_cases e : i = id
  ·simp [Gst.drop, e] at hi
  ·by_cases f : j = id
   ·simp [Gst.drop, f] at hj
   ·exact hM.sep i j y z b (by simpa [Gst.drop, e] using hi) (by simpa [Gst.drop, f] using hj) ki kj
def Gst.turn (G : Gst) (id : Nat) (x : Bx) : Gst := { G with b := fun n => if n = id then .live x else G.b n }
theorem Gst.turn_av {G : Gst} {id : Nat} {x y : Bx} (h : G.b id = .live y) (b : Nat) : (G.turn id x).av b ↔ G.av b := by
 constructor
 ·rintro (hO | ⟨i, z, hi, hk⟩)
  ·exact .inl hO
  ·by_cases e : i = id
   ·subst e; exact .inr ⟨i, y, h, hk⟩
   ·exact .inr ⟨i, z, by simpa [Gst.turn, e] using hi, hk⟩
 ·rintro (hO | ⟨i, z, hi, hk⟩)
  ·exact .inl hO
  ·by_cases e : i = id
   ·subst e; exact .inr ⟨i, x, by simp [Gst.turn], hk⟩
   ·exact .inr ⟨i, z, by simpa [Gst.turn, e] using hi, hk⟩
theorem MemOk.turn {P : Program} {G : Gst} {w : World} (hM : MemOk P G w) {id g : Nat} {x y : Bx} (hb : G.b id = .live y) (hk : G.bk id = some g) {cs : Array Value}
    (hx : ∀ G' w', w'.heap[g]? = (w.setRow g cs).heap[g]? → G.Ext w G' w' → G'.hd id = G.hd id → G'.bk id = some g → fE P G' w' id x) :
    MemOk P (G.turn id x) (w.setRow g cs) ∧ G.Ext w (G.turn id x) (w.setRow g cs) := by
  have hlt := fK hM hb hk
  have hav : G.av g := .inr ⟨id, y, hb, hk⟩
  have hl : Lat G.av w (G.turn id x).av (w.setRow g cs) := ⟨by simp, fun b _ hO => ⟨setRow_other w g b cs (fun e => hO (e ▸ hav)), fun h => hO ((Gst.turn_av hb b).1 h)⟩⟩
  have hkept : uV G.own G.w0 (w.setRow g cs) := ⟨hM.kept.os, ⟨hM.kept.tape.eq, hM.kept.tape.le⟩, hM.kept.output, by simpa using hM.kept.size, fun b hb' ho => by
    rw [setRow_other w g b cs (fun e => hlt.2.elim (fun h => by omega) (fun h => ho (by rw [e]; exact h)))]; exact hM.kept.block b hb' ho⟩
  have hE : G.Ext w (G.turn id x) (w.setRow g cs) := ⟨hl, fun i hi => ⟨rfl, rfl, by
    by_cases e : i = id
    · simp [Gst.turn, e]
    · simpa [Gst.turn, e] using hi⟩, ⟨fun _ h => h, fun _ h => .inl h⟩, rfl, rfl, fun b hO _ => setRow_other w g b cs (fun e => hM.boxO id y g hb hk (e ▸ hO))⟩
  refine ⟨⟨hkept, fun g h => by simpa using hM.old g h, hM.dis, fun i z hi => ?_, fun i j y' z b hi hj ki kj => ?_, fun i z b hi ki => ?_⟩, hE⟩
  rotate_right
  · by_cases e : i = id
    · subst e; exact hM.boxO i y b hb ki
    · exact hM.boxO i z b (by simpa [Gst.turn, e] using hi) ki
  · by_cases e : i = id
    · subst e
      have : z = x := by simp [Gst.turn] at hi; exact hi.symm
      subst this
      exact hx _ _ rfl hE rfl hk
    · have hi' : G.b i = .live z := by simpa [Gst.turn, e] using hi
      exact (hM.box i z hi').keep hE rfl rfl (fun b hb' => setRow_other w g b cs (fun e' => e (hM.sep i id z y g hi' hb (e' ▸ hb') hk)))
  · have h1 : ∃ y'', G.b i = .live y'' := by
      by_cases e : i = id
      · exact ⟨y, e ▸ hb⟩
      · exact ⟨y', by simpa [Gst.turn, e] using hi⟩
    have h2 : ∃ z'', G.b j = .live z'' := by
      by_cases e : j = id
      · exact ⟨y, e ▸ hb⟩
      · exact ⟨z, by simpa [Gst.turn, e] using hj⟩
    obtain ⟨y'', h1⟩ := h1
    obtain ⟨z'', h2⟩ := h2
    exact hM.sep i j y'' z'' b h1 h2 ki kj
theorem Gst.drop_not_av {P : Program} {G : Gst} {w : World} (hM : MemOk P G w) {id g : Nat} {x : Bx} (hb : G.b id = .live x) (hk : G.bk id = some g) : ¬ (G.drop id).av g := by
 rintro (hO | ⟨i, y, hi, hk'⟩)
 ·exact hM.boxO id x g hb hk hO
 ·by_cases e : i = id
  ·simp [Gst.drop, e] at hi
  ·exact e (hM.sep i id y x g (by simpa [Gst.drop, e] using hi) hb hk' hk)
theorem cS (g o j : Nat) : (⟨g, o, none⟩ : Addr).add j = ⟨g, o + j, none⟩ := by unfold Addr.add; split <;> simp_all
theorem RepAll.split {α : Type} {R : List Value → α → Prop} {s : Nat} {ys : List α} : ∀ {L : List Value} {xs : List α}, RepAll R s L (xs ++ ys) → L.length = (xs ++ ys).length * s → RepAll R s (L.take (xs.length * s)) xs ∧ RepAll R s (L.drop (xs.length * s)) ys
 | L, [], h, _ => by simp only [List.length_nil, Nat.zero_mul, List.take_zero, List.drop_zero]; exact ⟨rfl, h⟩
 | L, x :: xs, h, hl => by
  obtain ⟨h1, h2⟩ := h
  simp only [List.cons_append, List.length_cons, Nat.add_mul, Nat.one_mul] at hl
  have := RepAll.split (L := L.drop s) (xs := xs) h2 (by rw [List.length_drop]; omega)
  rw [List.length_cons, Nat.add_mul, Nat.one_mul]
  refine ⟨⟨?_, ?_⟩, ?_⟩
  ·rw [List.take_take, Nat.min_eq_left (by omega)]; exact h1
  ·rw [List.drop_take, Nat.add_sub_cancel]; exact this.1
  ·rw [Nat.add_comm, ← List.drop_drop]; exact this.2
theorem qw {e : Ty} {arr : Array Value} {off : Nat} {xs sp : List (den e)} {R : List Value → den e → Prop} (h : RepAll R (siz e) ((arr.toList.drop off).take ((xs ++ sp).length * siz e)) (xs ++ sp)) (hs : off + (xs ++ sp).length * siz e ≤ arr.size) :
    ((arr.toList.drop off).take (xs.length * siz e)).length = xs.length * siz e ∧ RepAll R (siz e) ((arr.toList.drop off).take (xs.length * siz e)) xs ∧ xs.length * siz e ≤ (xs ++ sp).length * siz e := by
  have hle : xs.length * siz e ≤ (xs ++ sp).length * siz e := Nat.mul_le_mul_right _ (by simp)
  have hA : arr.toList.length = arr.size := Array.length_toList
  refine ⟨?_, ?_, hle⟩
  · rw [List.length_take, List.length_drop, hA]; omega
  · have := (RepAll.split h (by rw [List.length_take, List.length_drop, hA]; omega)).1
    rwa [List.take_take, Nat.min_eq_left hle] at this
theorem mq {P : Program} {G : Gst} {w : World} (hM : MemOk P G w) {id : Nat} {e : Ty} {xs : List (den e)} (hb : G.b id = .live (.row e xs)) : aB P (.slc e) (G.drop id).av w (G.hd id) xs := by
 have hl := (hM.drop id).2.lat
 rcases hM.box id _ hb with ⟨rfl, hk, a, hh⟩ | ⟨g, arr, eid, off, sp, hk, hh, h0, hg, hm, hs, hr⟩
 ·refine ⟨[.slice a 0 0], hh, a, 0, [], rfl, Nat.le_refl _, Nat.zero_le _, by simp, rfl, fun h => absurd rfl h, fun _ => rfl⟩
 ·obtain ⟨hl1, hr1, _⟩ := qw hr hs
  refine ⟨[.slice (some ⟨g, off, none⟩) xs.length (xs ++ sp).length], hh, some ⟨g, off, none⟩, (xs ++ sp).length, (arr.toList.drop off).take (xs.length * siz e), rfl, by simp, hm, hl1, hr1.imp fun _ _ r => r.lat hl, fun _ => ⟨_, rfl, Gst.drop_not_av hM hb hk, (fK hM hb hk).1, fun j u hj => ?_⟩, fun h => by cases h⟩
  obtain ⟨fz, hg, _⟩ := hg
  rw [cS, cell_of_row w g (off + j) arr eid fz hg]
  rw [List.getElem?_take] at hj
  split at hj
  ·simpa using hj
  ·cases hj
theorem O7 {P : Program} {G : Gst} {w : World} (hM : MemOk P G w) {id : Nat} {k v : Ty} {l : List (den k × den v)} (hb : G.b id = .live (.mpd k v l)) (g : Nat) (hg : G.bk id = some g) : aB P (.mp k v) (G.drop id).av w (.map (some g)) l := by
 have hl := (hM.drop id).2.lat
 obtain ⟨g', es, ck, b1, b2, b3, b4, b5⟩ := hM.box id _ hb
 rw [hg] at b1
 cases b1
 refine ⟨[.map (some g)], rfl, some g, rfl, (fun h => by cases h), fun g' hg' => ?_⟩
 cases hg'
 exact ⟨Gst.drop_not_av hM hb hg, (fK hM hb hg).1, es, ck, b3, b4.2.2, b5.imp (fun _ _ h => aB.lat hl h) (fun _ _ h => aB.lat hl h)⟩
theorem Gf {P : Program} {G : Gst} {w : World} (hM : MemOk P G w) {id g : Nat} {t : Ty} {x : den t} (hb : G.b id = .live (.cell t x)) (hk : G.bk id = some g) : xN P (G.drop id).av w t ⟨g, 0, none⟩ x := by
 have hl := (hM.drop id).2.lat
 obtain ⟨g', arr, eid, h1, h2, h3, h4, _⟩ := hM.box id _ hb
 rw [hk] at h1
 cases h1
 refine ⟨arr.toList, Gst.drop_not_av hM hb hk, (fK hM hb hk).1, fun j u hj => ?_, h4.lat hl⟩
 rw [cS, Nat.zero_add, cell_of_row w g j arr eid (0, 0) h3]
 simpa using hj
end Go.Proofs.Ytimdnodkabnbfaa
namespace Go.Proofs.Ytimdnodkabnbfaa
open Go Go.RowKit
def ht : Ty → Nat
 | .pair a b => max (ht a) (ht b)
 | .st b => ht b + 1
 | .arr _ e => ht e + 1
 | _ => 1
theorem Kj {α : Type} {f : α → α → Bool} (hf : ∀ x y, f x y = true ↔ x = y) : ∀ (xs ys : List α), eqL f xs ys = true ↔ xs = ys
 | [], [] => by simp [eqL]
 | x :: xs, y :: ys => by simp [eqL, hf, Kj hf xs ys]
 | [], _ :: _ => by simp [eqL]
 | _ :: _, [] => by simp [eqL]
theorem KN (x y : Int) : eqI x y = true ↔ x = y := decide_eq_true_iff
theorem Ff (x y : ByteArray) : eqS x y = true ↔ x = y := decide_eq_true_iff
theorem yq (a b : ByteArray) : (a.toList == b.toList) = true ↔ a = b := by
 rw [beq_iff_eq, ByteArray.toList_eq, ByteArray.toList_eq]
 obtain ⟨⟨x⟩⟩ := a
 obtain ⟨⟨y⟩⟩ := b
 constructor
 ·intro h; have h' : x = y := h; rw [h']
 ·intro h; have h' : x = y := by injection h with h; injection h
  exact h'
theorem n8 : ∀ {t : Ty}, rn t = true → ∀ x y : den t, eqb t x y = true ↔ x = y := by
 intro t
 induction t with
 | int k => intro _ x y; exact KN x y
 | bool => intro _ x y; exact beq_iff_eq
 | str => intro _ x y; exact Ff x y
 | unit => intro _ x y; exact ⟨fun _ => rfl, fun _ => rfl⟩
 | pair a b iha ihb =>
  intro h x y
  simp only [rn, Bool.and_eq_true] at h
  show (eqb a x.1 y.1 && eqb b x.2 y.2) = true ↔ x = y
  rw [Bool.and_eq_true, iha h.1, ihb h.2]
  exact ⟨fun e => Prod.ext e.1 e.2, fun e => by rw [e]; exact ⟨rfl, rfl⟩⟩
 | st b ih => intro h x y; exact ih h x y
 | arr n e ih => intro h x y; exact Kj (ih h) x y
 | slc e _ => intro h; cases h
 | fn a r _ _ => intro h; cases h
 | ref _ _ => intro h; cases h
 | mp _ _ _ _ => intro h; cases h
 | clo _ _ _ => intro h; cases h
section
variable {P : Program} {T : Nat → Option Ty}
theorem kS {id : TypeId} {t : Ty} (h : Fit P T id t) (w : World) (cs : Array Value) (off : Nat) (L : List Value) (hL : (cs.toList.drop off).take (siz t) = L) (hl : L.length = siz t) :
    (part id cs off).run P w = .ok (az t L) w := by
  unfold part
  rw [Sem.run_bind, h.isAgg w]
  simp only [Result.andThen_ok]
  cases ha : Go.Proofs.Ytimdnodkabnbfaa.isAgg t
  · have h1 := eW h ha
    rw [h1] at hl hL
    match L, hl with
    | [c], _ =>
      have hc : cs[off]? = some c := by
        have : (cs.toList.drop off)[0]? = some c := by
          have e := congrArg (fun l : List Value => l[0]?) hL
          simpa [List.getElem?_take] using e
        simpa using this
      simp [az, ha, hc]
  · simp only [if_true, Sem.run_bind, h.sizeOf w, Result.andThen_ok]
    have : (cs.extract off (off + siz t)) = L.toArray := by
      apply Array.ext'
      rw [Array.toList_extract, List.extract_eq_take_drop, Nat.add_sub_cancel_left]
      exact hL
    simp [az, ha, this]
variable (hT : ∀ id t, T id = some t → Fit P T id t)
include hT
theorem LX {O : Nat → Prop} {w : World} : ∀ t : Ty, rn t = true →
    (∀ (id : TypeId), Fit P T id t → ∀ d, ht t ≤ d → ∀ cs cs' x y, Rep P t .cells O w cs x → Rep P t .cells O w cs' y → (Op.equalIn d id (az t cs) (az t cs')).run P w = .ok (eqb t x y) w) ∧
    (∀ (fs : List Field) (off : Nat), dF T fs t off = true → ∀ d, ht t ≤ d → ∀ (xs ys : Array Value) x y, Rep P t .cells O w (xs.toList.drop off) x → Rep P t .cells O w (ys.toList.drop off) y → (Op.eqFields d xs ys fs).run P w = .ok (eqb t x y) w) := by
  intro t
  induction t with
  | int k =>
    intro _
    refine ⟨fun id hf d hd cs cs' x y hx hy => ?_, fun fs off h => by cases fs <;> cases h⟩
    have hu := fD hf.shape
    obtain ⟨rfl, _⟩ := hx
    obtain ⟨rfl, _⟩ := hy
    obtain ⟨d, rfl⟩ : ∃ m, d = m + 1 := ⟨d - 1, by simp [ht] at hd; omega⟩
    show (Op.equalIn (d + 1) id (.int k x) (.int k y)).run P w = _
    exact (run_equalIn_int w d id k _ _ _ hu).trans (congrArg (fun b => Result.ok b w) (Bool.eq_iff_iff.2 ((beq_iff_eq (α := Int)).trans (KN x y).symm)))
  | bool =>
    intro _
    refine ⟨fun id hf d hd cs cs' x y hx hy => ?_, fun fs off h => by cases fs <;> cases h⟩
    have hu := sq hf.shape
    rw [show cs = _ from hx, show cs' = _ from hy]
    obtain ⟨d, rfl⟩ : ∃ m, d = m + 1 := ⟨d - 1, by simp [ht] at hd; omega⟩
    exact run_equalIn_bool' w d id x y hu
  | str =>
    intro _
    refine ⟨fun id hf d hd cs cs' x y hx hy => ?_, fun fs off h => by cases fs <;> cases h⟩
    have hu := gg hf.shape
    obtain ⟨rfl, _⟩ := hx
    obtain ⟨rfl, _⟩ := hy
    obtain ⟨d, rfl⟩ : ∃ m, d = m + 1 := ⟨d - 1, by simp [ht] at hd; omega⟩
    show (Op.equalIn (d + 1) id (.string x) (.string y)).run P w = _
    exact (run_equalIn_string w d id _ _ hu).trans (congrArg (fun b => Result.ok b w) (Bool.eq_iff_iff.2 ((yq x y).trans (Ff x y).symm)))
  | unit =>
    intro _
    refine ⟨fun id hf d hd => ?_, fun fs off h d hd xs ys x y hx hy => ?_⟩
    · exact absurd rfl (iQ hf.shape).1
    · cases fs with
      | nil => simp [Op.eqFields, eqb]
      | cons f fs => cases h
  | pair a b iha ihb =>
    intro he
    simp only [rn, Bool.and_eq_true] at he
    refine ⟨fun id hf d hd => ?_, fun fs off h d hd xs ys x y hx hy => ?_⟩
    · exact absurd rfl ((iQ hf.shape).2.1 _ _)
    · cases fs with
      | nil => cases h
      | cons f fs =>
        simp only [dF, Bool.and_eq_true, beq_iff_eq, decide_eq_true_eq, bne_iff_ne] at h
        obtain ⟨⟨⟨⟨h1, h2⟩, h3⟩, _⟩, h5⟩ := h
        have hfa := hT _ _ h2
        have hla := hx.1.length
        have hlb := hy.1.length
        have pa := kS hfa w xs f.offset _ (by rw [h1]) hla
        have pb := kS hfa w ys f.offset _ (by rw [h1]) hlb
        have hda : ht a ≤ d := Nat.le_trans (Nat.le_max_left _ _) hd
        have hdb : ht b ≤ d := Nat.le_trans (Nat.le_max_right _ _) hd
        have e1 := (iha he.1).1 f.type hfa d hda _ _ _ _ hx.1 hy.1
        have e2 := (ihb he.2).2 fs (off + siz a) h5 d hdb xs ys x.2 y.2 (by have := hx.2; rwa [List.drop_drop] at this) (by have := hy.2; rwa [List.drop_drop] at this)
        rw [Op.eqFields]
        simp only [ne_eq, h3, not_false_eq_true, if_true, Sem.run_bind, pa, pb, e1, Result.andThen_ok]
        show _ = Result.ok (eqb a x.1 y.1 && eqb b x.2 y.2) w
        cases eqb a x.1 y.1
        · simp
        · simpa using e2
  | st b ih =>
    intro he
    refine ⟨fun id hf d hd cs cs' x y hx hy => ?_, fun fs off h => by cases fs <;> cases h⟩
    obtain ⟨fs, hu, hs⟩ := jd hf.shape
    obtain ⟨d, rfl⟩ : ∃ m, d = m + 1 := ⟨d - 1, by simp [ht] at hd; omega⟩
    have hff : P.fieldsOf id = fs := by simp [Program.fieldsOf, hu]
    show (Op.equalIn (d + 1) id (.agg cs.toArray) (.agg cs'.toArray)).run P w = _
    rw [run_equalIn_struct w d id _ _ (by rw [hff]; exact hu) hs.2, hff]
    exact (ih he).2 fs.toList 0 hs.1 d (by simp [ht] at hd; omega) _ _ x y hx hy
  | arr n e ih =>
    intro he
    refine ⟨fun id hf d hd cs cs' x y hx hy => ?_, fun fs off h => by cases fs <;> cases h⟩
    obtain ⟨ei, hu, hte, _⟩ := ja hf.shape
    obtain ⟨d, rfl⟩ : ∃ m, d = m + 1 := ⟨d - 1, by simp [ht] at hd; omega⟩
    have hfe := hT _ _ hte
    obtain ⟨i, z, hi, hsz, _⟩ := hfe.info
    show (Op.equalIn (d + 1) id (.agg cs.toArray) (.agg cs'.toArray)).run P w = _
    rw [run_equalIn_array w d _ _ hu hi]
    have hce : P.cellsOf ei = siz e := by simp [Program.cellsOf, hi, hsz]
    rw [hce]
    obtain ⟨hlx, hrx⟩ := hx
    obtain ⟨hly, hry⟩ := hy
    have key : ∀ (k : Nat) (xs ys : List (den e)) (j : Nat), xs.length = k → ys.length = k → RepAll (fun cs x => Rep P e .cells O w cs x) (siz e) (cs.drop (j * siz e)) xs → RepAll (fun cs x => Rep P e .cells O w cs x) (siz e) (cs'.drop (j * siz e)) ys →
        (Op.eqItems d ei (siz e) cs.toArray cs'.toArray (List.range' j k)).run P w = .ok (eqL (eqb e) xs ys) w := by
      intro k
      induction k with
      | zero =>
        intro xs ys j h1 h2 _ _
        rw [List.length_eq_zero_iff.1 h1, List.length_eq_zero_iff.1 h2]
        simp [Op.eqItems, eqL]
      | succ k ihk =>
        intro xs ys j h1 h2 h3 h4
        cases xs with
        | nil => cases h1
        | cons u us =>
          cases ys with
          | nil => cases h2
          | cons v vs =>
            have pa := kS hfe w cs.toArray (j * siz e) _ rfl h3.1.length
            have pb := kS hfe w cs'.toArray (j * siz e) _ rfl h4.1.length
            have e1 := (ih he).1 ei hfe d (by simp [ht] at hd; omega) _ _ _ _ h3.1 h4.1
            have e2 := ihk us vs (j + 1) (by simpa using h1) (by simpa using h2) (by have := h3.2; rwa [List.drop_drop, ← Nat.succ_mul] at this) (by have := h4.2; rwa [List.drop_drop, ← Nat.succ_mul] at this)
            rw [List.range'_succ, Op.eqItems]
            simp only [Sem.run_bind, pa, pb, e1, Result.andThen_ok]
            show _ = Result.ok (eqb e u v && eqL (eqb e) us vs) w
            cases eqb e u v
            · simp
            · simpa using e2
    rw [List.range_eq_range']
    exact key _ x y 0 hlx hly (by simpa using hrx) (by simpa using hry)
  | slc e _ => intro h; cases h
  | fn a r _ _ => intro h; cases h
  | ref _ _ => intro h; cases h
  | mp _ _ _ _ => intro h; cases h
  | clo _ _ _ => intro h; cases h
theorem Aq {id : TypeId} {t : Ty} (hf : Fit P T id t) (he : rn t = true) (hd : ht t ≤ 10000) {O : Nat → Prop} {w : World} {v v' : Value} {x y : den t} (hx : aB P t O w v x) (hy : aB P t O w v' y) :
    (Op.equal id v v').run P w = .ok (eqb t x y) w := by
  obtain ⟨cs, rfl, hx⟩ := hx
  obtain ⟨cs', rfl, hy⟩ := hy
  exact (LX hT t he).1 id hf _ hd _ _ _ _ hx hy
end
end Go.Proofs.Ytimdnodkabnbfaa
namespace Go.Proofs.Ytimdnodkabnbfaa
open Go Go.RowKit
def aw (cs : List Value) (off : Nat) (v : List Value) : List Value := cs.take off ++ v ++ cs.drop (off + v.length)
theorem eH {cs : List Value} {off : Nat} {v : List Value} (h : off + v.length ≤ cs.length) : (aw cs off v).length = cs.length := by
 simp only [aw, List.length_append, List.length_take, List.length_drop]
 omega
theorem RepAll.get {α : Type} {R : List Value → α → Prop} {s : Nat} : ∀ {cs : List Value} {xs : List α} {i : Nat} (h : i < xs.length), RepAll R s cs xs → R ((cs.drop (i * s)).take s) xs[i]
 | cs, [], i, h, _ => absurd h (Nat.not_lt_zero _)
 | cs, x :: xs, 0, _, hr => by simpa using hr.1
 | cs, x :: xs, i + 1, h, hr => by
  have := RepAll.get (i := i) (by simpa using h) hr.2
  rw [List.drop_drop, Nat.add_comm, ← Nat.succ_mul] at this
  simpa using this
theorem RepAll.set {α : Type} {R : List Value → α → Prop} {s : Nat} {v : List Value} {y : α} (hv : v.length = s) (hy : R v y) : ∀ {cs : List Value} {xs : List α} {i : Nat}, i < xs.length → cs.length = xs.length * s → RepAll R s cs xs → RepAll R s (aw cs (i * s) v) (xs.set i y)
 | cs, [], i, h, _, _ => absurd h (Nat.not_lt_zero _)
 | cs, x :: xs, 0, _, hl, hr => by
  simp only [List.length_cons, Nat.add_mul, Nat.one_mul] at hl
  simp only [Nat.zero_mul, aw, List.take_zero, List.nil_append, Nat.zero_add, List.set_cons_zero, RepAll]
  rw [List.take_left' hv, List.drop_left' hv, hv]
  exact ⟨hy, hr.2⟩
 | cs, x :: xs, i + 1, h, hl, hr => by
  simp only [List.length_cons, Nat.add_mul, Nat.one_mul] at hl
  have hi : i < xs.length := by simpa using h
  have hm : i * s + s ≤ xs.length * s := by
   have := Nat.mul_le_mul_right s (show i + 1 ≤ xs.length from hi)
   rwa [Nat.add_mul, Nat.one_mul] at this
  have ih := RepAll.set hv hy (cs := cs.drop s) (i := i) hi (by simp; omega) hr.2
  have e1 : (aw cs ((i + 1) * s) v).take s = cs.take s := by
   rw [aw, Nat.add_mul, Nat.one_mul, List.append_assoc, List.take_append_of_le_length (by simp; omega), List.take_take]
   congr 1
   omega
  have e2 : (aw cs ((i + 1) * s) v).drop s = aw (cs.drop s) (i * s) v := by
   rw [aw, aw, Nat.add_mul, Nat.one_mul, List.append_assoc, List.drop_append_of_le_length (by simp; omega), List.drop_take, List.drop_drop, List.append_assoc]
   have e3 : i * s + s - s = i * s := by omega
   have e4 : i * s + s + v.length = s + (i * s + v.length) := by omega
   rw [e3, e4]
  simp only [List.set_cons_succ, RepAll]
  rw [e1, e2]
  exact ⟨hr.1, ih⟩
section
variable {P : Program} {O : Nat → Prop} {w : World}
theorem lV : ∀ {b : Ty} {i : Nat} {u : Ty}, cV b i = some u → bD b i + siz u ≤ siz b
 | .pair a b, 0, u, h => by simp [cV] at h; subst h; simp [bD, siz]
 | .pair a b, i + 1, u, h => by
  have := lV (b := b) (i := i) (u := u) h
  simp only [bD, siz]
  omega
 | .int _, _, _, h => by cases h
 | .bool, _, _, h => by cases h
 | .str, _, _, h => by cases h
 | .unit, _, _, h => by cases h
 | .st _, _, _, h => by cases h
 | .arr _ _, _, _, h => by cases h
 | .slc _, _, _, h => by cases h
 | .fn _ _, _, _, h => by cases h
theorem Bf : ∀ {b : Ty} {i : Nat} {u : Ty} {cs : List Value} {x : den b}, cV b i = some u → Rep P b .cells O w cs x →
    ∃ y, dr (.val b x) i = .val u y ∧ Rep P u .cells O w ((cs.drop (bD b i)).take (siz u)) y
  | .pair a b, 0, u, cs, x, h, hr => by
    simp [cV] at h
    subst h
    exact ⟨x.1, rfl, by simpa [bD] using hr.1⟩
  | .pair a b, i + 1, u, cs, x, h, hr => by
    obtain ⟨y, e, r⟩ := Bf (b := b) (i := i) h hr.2
    refine ⟨y, e, ?_⟩
    rw [List.drop_drop] at r
    exact r
  | .int _, _, _, _, _, h, _ => by cases h
  | .bool, _, _, _, _, h, _ => by cases h
  | .str, _, _, _, _, h, _ => by cases h
  | .unit, _, _, _, _, h, _ => by cases h
  | .st _, _, _, _, _, h, _ => by cases h
  | .arr _ _, _, _, _, _, h, _ => by cases h
  | .slc _, _, _, _, _, h, _ => by cases h
  | .fn _ _, _, _, _, _, h, _ => by cases h
theorem PQ {e : Ty} {xs : List (den e)} {n : Int} (h0 : 0 ≤ n) (h : n < xs.length) : ∃ hi : n.toNat < xs.length, el e xs n = xs[n.toNat] :=
 ⟨by omega, by simp [el, List.getD, List.getElem?_eq_getElem (show n.toNat < xs.length by omega)]⟩
theorem wz {e : Ty} {cs : List Value} {xs : List (den e)} {n : Int} (h0 : 0 ≤ n) (h : n < xs.length) (hr : RepAll (Rep P e .cells O w) (siz e) cs xs) :
    Rep P e .cells O w ((cs.drop (n.toNat * siz e)).take (siz e)) (el e xs n) := by
  obtain ⟨hi, e1⟩ := PQ h0 h
  rw [e1]
  exact hr.get hi
theorem cz {t t' : Ty} {x : den t'} {y : den t} (h : d5 t t' x = some y) : ∃ e : t' = t, y = e ▸ x := by
 unfold d5 at h
 split at h
 ·rename_i e; simp at h; exact ⟨e, h.symm⟩
 ·cases h
theorem iV {t u : Ty} {x : den t} {y : den u} (h : bt u (.val t x) = some y) : ∃ e : t = u, y = e ▸ x := cz h
theorem sC : ∀ {p : List Sel} {t u : Ty} {cs : List Value} {x : den t} {y : den u}, dg t p = some u → pok t p → Rep P t .cells O w cs x → bt u (nav (.val t x) p) = some y →
    aJ t p + siz u ≤ siz t ∧ Rep P u .cells O w ((cs.drop (aJ t p)).take (siz u)) y
  | [], t, u, cs, x, y, ht, _, hr, hg => by
    obtain ⟨e, rfl⟩ := iV (show bt u (.val t x) = some y from hg)
    subst e
    have hl := hr.length
    refine ⟨by simp [aJ], ?_⟩
    simp only [aJ, List.drop_zero]
    rw [← hl, List.take_length]
    exact hr
  | .fld i :: p, .st b, u, cs, x, y, ht, hk, hr, hg => by
    simp only [dg, pok] at ht hk
    split at ht
    · rename_i t' hf
      simp only [hf] at hk
      obtain ⟨z, e, r⟩ := Bf hf hr
      have hg' : bt u (nav (.val t' z) p) = some y := by rw [← e]; exact hg
      have ih := sC (p := p) ht hk r hg'
      have hle := lV hf
      simp only [aJ, hf]
      refine ⟨by simp only [siz]; omega, ?_⟩
      have h2 := ih.2
      rw [List.drop_take, List.take_take, List.drop_drop, Nat.min_eq_left (by omega)] at h2
      exact h2
    · cases ht
  | .idx n :: p, .arr m e, u, cs, x, y, ht, hk, hr, hg => by
    obtain ⟨⟨h0, h1⟩, hk⟩ := hk
    have r := wz h0 (by rw [hr.1]; exact h1) hr.2
    have ih := sC (p := p) (t := e) ht hk r hg
    simp only [aJ]
    have hm : n.toNat * siz e + siz e ≤ m * siz e := by
      have := Nat.mul_le_mul_right (siz e) (show n.toNat + 1 ≤ m by omega)
      rwa [Nat.add_mul, Nat.one_mul] at this
    refine ⟨by simp only [siz]; omega, ?_⟩
    have h2 := ih.2
    rw [List.drop_take, List.take_take, List.drop_drop, Nat.min_eq_left (by omega)] at h2
    exact h2
  | .idx n :: p, .slc e, u, cs, x, y, ht, hk, hr, hg => by cases (show bt u .any = some y from hg)
  | .fld _ :: _, .int _, _, _, _, _, h, _, _, _ => by cases h
  | .fld _ :: _, .bool, _, _, _, _, h, _, _, _ => by cases h
  | .fld _ :: _, .str, _, _, _, _, h, _, _, _ => by cases h
  | .fld _ :: _, .unit, _, _, _, _, h, _, _, _ => by cases h
  | .fld _ :: _, .pair _ _, _, _, _, _, h, _, _, _ => by cases h
  | .fld _ :: _, .arr _ _, _, _, _, _, h, _, _, _ => by cases h
  | .fld _ :: _, .slc _, _, _, _, _, h, _, _, _ => by cases h
  | .fld _ :: _, .fn _ _, _, _, _, _, h, _, _, _ => by cases h
  | .idx _ :: _, .int _, _, _, _, _, h, _, _, _ => by cases h
  | .idx _ :: _, .bool, _, _, _, _, h, _, _, _ => by cases h
  | .idx _ :: _, .str, _, _, _, _, h, _, _, _ => by cases h
  | .idx _ :: _, .unit, _, _, _, _, h, _, _, _ => by cases h
  | .idx _ :: _, .pair _ _, _, _, _, _, h, _, _, _ => by cases h
  | .idx _ :: _, .st _, _, _, _, _, h, _, _, _ => by cases h
  | .idx _ :: _, .fn _ _, _, _, _, _, h, _, _, _ => by cases h
theorem Da {a b : Ty} {cs v : List Value} {x : den a} {y : den b} (hv : v.length = siz a) (hx : Rep P a .cells O w v x) (hy : Rep P b .cells O w (cs.drop (siz a)) y) :
    Rep P (.pair a b) .cells O w (aw cs 0 v) (x, y) := by
  refine ⟨?_, ?_⟩
  · have : (aw cs 0 v).take (siz a) = v := by rw [aw, List.take_zero, List.nil_append]; exact List.take_left' hv
    rw [this]; exact hx
  · have : (aw cs 0 v).drop (siz a) = cs.drop (siz a) := by rw [aw, List.take_zero, List.nil_append, Nat.zero_add, hv]; exact List.drop_left' hv
    rw [this]; exact hy
theorem JF {cs v : List Value} {n k : Nat} : (aw cs (n + k) v).take n = cs.take n ∨ cs.length < n + k := by
 by_cases h : n + k ≤ cs.length
 ·left
  rw [aw, List.append_assoc, List.take_append_of_le_length (by simp; omega), List.take_take]
  congr 1
  omega
 ·right; omega
theorem JA {cs v : List Value} {n k : Nat} (h : n + k ≤ cs.length) : (aw cs (n + k) v).drop n = aw (cs.drop n) k v := by
 rw [aw, aw, List.append_assoc, List.drop_append_of_le_length (by simp; omega), List.drop_take, List.drop_drop, List.append_assoc]
 rw [show n + k - n = k by omega, show n + k + v.length = n + (k + v.length) by omega]
theorem xp {f : (t : Ty) → den t → Option (den t)} : ∀ {b : Ty} {i : Nat} {cs : List Value} {x z : den b}, Rep P b .cells O w cs x → tr b x i f = some z →
    ∃ u y y', cV b i = some u ∧ dr (.val b x) i = .val u y ∧ f u y = some y' ∧ Rep P u .cells O w ((cs.drop (bD b i)).take (siz u)) y ∧
      ∀ v, Rep P u .cells O w v y' → Rep P b .cells O w (aw cs (bD b i) v) z
  | .pair a b, 0, cs, x, z, hr, hm => by
    have hm : (match f a x.1 with | some y => some (y, x.2) | none => none) = some z := hm
    split at hm
    · rename_i y' hy
      have hm := (Option.some.inj hm).symm
      subst hm
      exact ⟨a, x.1, y', rfl, rfl, hy, by simpa [bD] using hr.1, fun v hv => Da hv.length hv hr.2⟩
    · cases hm
  | .pair a b, i + 1, cs, x, z, hr, hm => by
    have hm : (match tr b x.2 i f with | some y => some (x.1, y) | none => none) = some z := hm
    split at hm
    · rename_i z' hz
      have hm := (Option.some.inj hm).symm
      subst hm
      obtain ⟨u, y, y', h1, h2, h3, h4, h5⟩ := xp (b := b) (i := i) hr.2 hz
      rw [List.drop_drop] at h4
      refine ⟨u, y, y', h1, h2, h3, h4, fun v hv => ?_⟩
      have hl := hr.length
      have hle := lV (b := b) (i := i) h1
      have hlv := hv.length
      simp only [siz] at hl
      refine ⟨?_, ?_⟩
      · have : (aw cs (bD (.pair a b) (i + 1)) v).take (siz a) = cs.take (siz a) := by
          rcases JF (cs := cs) (v := v) (n := siz a) (k := bD b i) with h | h
          · exact h
          · omega
        rw [this]; exact hr.1
      · have : (aw cs (bD (.pair a b) (i + 1)) v).drop (siz a) = aw (cs.drop (siz a)) (bD b i) v := JA (by omega)
        rw [this]; exact h5 v hv
    · cases hm
  | .int _, _, _, _, _, _, hm => by cases hm
  | .bool, _, _, _, _, _, hm => by cases hm
  | .str, _, _, _, _, _, hm => by cases hm
  | .unit, _, _, _, _, _, hm => by cases hm
  | .st _, _, _, _, _, _, hm => by cases hm
  | .arr _ _, _, _, _, _, _, hm => by cases hm
  | .slc _, _, _, _, _, _, hm => by cases hm
  | .fn _ _, _, _, _, _, _, hm => by cases hm
theorem kB {cs v v' : List Value} {o k : Nat} (hk : k + v.length ≤ v'.length) (ho : o + v'.length ≤ cs.length) (hv' : v' = (cs.drop o).take v'.length) :
    aw cs o (aw v' k v) = aw cs (o + k) v := by
  apply List.ext_getElem?
  intro j
  have h1 : (aw v' k v).length = v'.length := eH hk
  simp only [aw, List.append_assoc, List.getElem?_append, List.length_take, List.length_append, List.length_drop, List.getElem?_take, List.getElem?_drop]
  have hv'' : ∀ i, v'[i]? = if i < v'.length then cs[o + i]? else none := by
    intro i
    have e := congrArg (fun l : List Value => l[i]?) hv'
    simpa only [List.getElem?_take, List.getElem?_drop] using e
  simp only [hv'']
  repeat' split
  all_goals first
    | rfl
    | (exfalso; omega)
    | (congr 1; omega)
theorem sx {k : K} {v : List Value} {u : Ty} (hv : ∀ y, bt u k = some y → Rep P u .cells O w v y) : ∀ {p : List Sel} {t : Ty} {cs : List Value} {x z : den t}, dg t p = some u → pok t p → Rep P t .cells O w cs x → qW k p t x = some z →
    aJ t p + siz u ≤ siz t ∧ Rep P t .cells O w (aw cs (aJ t p) v) z
  | [], t, cs, x, z, ht, _, hr, hg => by
    have ht' : t = u := by simpa [dg] using ht
    subst ht'
    have hz := hv z hg
    have hl := hr.length
    have hlv := hz.length
    refine ⟨by simp [aJ], ?_⟩
    have : aw cs 0 v = v := by rw [aw, List.take_zero, List.nil_append, Nat.zero_add, List.drop_eq_nil_of_le (by omega), List.append_nil]
    simp only [aJ]
    rw [this]
    exact hz
  | .fld i :: p, t, cs, x, z, ht, hk, hr, hg => by
    cases t with
    | st b =>
      simp only [dg, pok] at ht hk
      split at ht
      · rename_i t' hf
        simp only [hf] at hk
        obtain ⟨u', y, y', h1, h2, h3, h4, h5⟩ := xp (b := b) (i := i) (show Rep P b .cells O w cs x from hr) (show tr b x i (fun t y => qW k p t y) = some z from hg)
        have : u' = t' := by rw [hf] at h1; exact (Option.some.inj h1).symm
        subst this
        have hl : cs.length = siz b := hr.length
        have hle := lV hf
        obtain ⟨hle2, r2⟩ := sx hv (p := p) ht hk h4 h3
        have r3 := h5 _ r2
        have hlt : ((cs.drop (bD b i)).take (siz u')).length = siz u' := by simp; omega
        have hlv : aJ u' p + v.length ≤ siz u' := by
          have h2 := r2.length
          simp only [aw, List.length_append, List.length_take, List.length_drop, hlt] at h2
          omega
        refine ⟨by simp only [aJ, hf, siz]; omega, ?_⟩
        simp only [aJ, hf]
        rw [kB (by rw [hlt]; exact hlv) (by rw [hlt]; omega) (by rw [hlt])] at r3
        exact r3
      · cases ht
    | _ => cases ht
  | .idx n :: p, t, cs, x, z, ht, hk, hr, hg => by
    cases t with
    | arr m e =>
      obtain ⟨⟨h0, h1⟩, hk⟩ := hk
      have hlt : n < (x : List (den e)).length := by have := hr.1; rw [this]; exact h1
      have r := wz h0 hlt hr.2
      have hlen : cs.length = m * siz e := hr.length
      have hm : n.toNat * siz e + siz e ≤ m * siz e := by
        have := Nat.mul_le_mul_right (siz e) (show n.toNat + 1 ≤ m by omega)
        rwa [Nat.add_mul, Nat.one_mul] at this
      have hg : (match qW k p e (el e x n) with | some y => some (se (e := e) x n y) | none => none) = some z := hg
      split at hg
      · rename_i z2 hz
        have hg := (Option.some.inj hg).symm
        subst hg
        obtain ⟨hle2, r2⟩ := sx hv (p := p) (t := e) ht hk r hz
        refine ⟨by simp only [aJ, siz]; omega, ?_⟩
        simp only [aJ]
        have hlt' : ((cs.drop (n.toNat * siz e)).take (siz e)).length = siz e := by simp; omega
        have hi : n.toNat < (x : List (den e)).length := by omega
        have r3 := RepAll.set (R := Rep P e .cells O w) r2.length r2 hi (by rw [hlen, hr.1]) hr.2
        have hlv : aJ e p + v.length ≤ siz e := by
          have h2 := r2.length
          simp only [aw, List.length_append, List.length_take, List.length_drop, hlt'] at h2
          omega
        rw [kB (by rw [hlt']; exact hlv) (by rw [hlt']; omega) (by rw [hlt'])] at r3
        exact ⟨(List.length_set (as := (x : List (den e)))).trans hr.1, r3⟩
      · cases hg
    | _ => first | cases ht | cases hg
end
end Go.Proofs.Ytimdnodkabnbfaa
namespace Go.Proofs.Ytimdnodkabnbfaa
open Go Go.RowKit
abbrev gQ := List (Nat × (t : Ty) × den t)
def GlobOk (P : Program) (Gl : gQ) (av : Nat → Prop) (w : World) : Prop := ∀ g t y, Gl.lookup g = some ⟨t, y⟩ → xN P av w t ⟨g, 0, none⟩ y
theorem GlobOk.lat {P : Program} {Gl : gQ} {O O' : Nat → Prop} {w w' : World} (h : Lat O w O' w') (hg : GlobOk P Gl O w) : GlobOk P Gl O' w' :=
 fun g t y e => (hg g t y e).lat h
structure ap (P : Program) (Gl : gQ) (f : FuncId) (S : bq) : Prop where
 can : gx P f
 all : S.tot = true → ∀ x, S.pre x
 does : ∀ (O : Nat → Prop) (w : World) (vs : List Value) (x : den S.as), (∀ g, O g → g < w.heap.size) → GlobOk P Gl O w → Rep P S.as .chain O w vs x → S.pre x →
  Calls P f vs.toArray w fun e w' => ∃ v, e = .returned v ∧ Kept w w' ∧ Rep P S.rs .result O w' [v] (S.g x)
structure DOk (P : Program) (D : aK) : Prop where
 tab : AE P D.T = true
 fns : ∀ f S, D.F.lookup f = some S → ap P D.G f S
 mixed : P.follows .mixedOrders = true
theorem DOk.fit {P : Program} {D : aK} (h : DOk P D) {id : Nat} {t : Ty} (e : D.ty id = some t) : Fit P D.ty id t := mw h.tab e
def ak (P : Program) (o : Oper) (a : Act) (G : Gst) (w : World) (tm : Nat → Value) (k : K) (ch : Chg) : Prop :=
 ∀ (next : Act → World → Prop) (Q : Exit → Act → World → Prop),
  (∀ G' w' v, G'.b = aG G.b ch → G.Ext w G' w' → MemOk P G' w' → KV P G' w' tm k v → next (a.put o.dst v) w') → o.wp P a w next Q
section
variable {P : Program} {D : aK} {o : Oper} {a : Act} {G : Gst} {w : World} {tm : Nat → Value}
theorem bp {v : Value} {G' : Gst} {w' : World} {k : K} {ch : Chg} (hrun : (execOp a.eval o).run P w = .ok (.value v) w') (hb : G'.b = aG G.b ch) (he : G.Ext w G' w') (hM : MemOk P G' w') (hk : KV P G' w' tm k v) : ak P o a G w tm k ch := by
 intro next Q h
 unfold Oper.wp
 rw [hrun]
 exact h G' w' v hb he hM hk
theorem aC (hM : MemOk P G w) {v : Value} {k : K} (hrun : (execOp a.eval o).run P w = .ok (.value v) w) (hk : KV P G w tm k v) : ak P o a G w tm k [] :=
 bp hrun rfl (Gst.Ext.refl _ _) hM hk
theorem F4 {t : Ty} {k : K} {v : Value} {x : den t} (hk : KV P G w tm k v) (h : Ep t k = some x) : aB P t G.av w v x := by
 cases k with
 | val t' y =>
  obtain ⟨e, rfl⟩ := cz (show d5 t t' y = some x from h)
  subst e
  exact hk
 | nilsl =>
  cases t with
  | slc e =>
   have h' : ([] : List (den e)) = x := Option.some.inj h
   subst h'
   exact ⟨[.slice none 0 0], hk, none, 0, [], rfl, Nat.le_refl _, Nat.zero_le _, by simp, rfl, fun h => absurd rfl h, fun _ => rfl⟩
  | _ => cases h
 | clip e xs =>
  obtain ⟨e', rfl⟩ := cz (show d5 t (.slc e) xs = some x from h)
  subst e'
  exact hk.1
 | ref u y =>
  obtain ⟨e', rfl⟩ := cz (show d5 t (.ref u) y = some x from h)
  subst e'
  obtain ⟨ad, e, L, h1, h2, h3, h4⟩ := hk
  exact ⟨[v], rfl, ad, L, by rw [e], h1, h2, h3, h4⟩
 | _ => cases h
theorem On : ∀ {c : Ty} {k : K} {vs : List Value} {x : den c}, KV P G w tm k (.tuple vs.toArray) → D3 c k = some x → Rep P c .chain G.av w vs x := by
 intro c
 induction c with
 | unit =>
  intro k vs x hk h
  cases k with
  | knil =>
   have hk : Value.tuple vs.toArray = .tuple #[] := hk
   have e : vs = [] := by injection hk with e; simpa using congrArg Array.toList e
   exact e
  | _ => cases h
 | pair a b _ ihb =>
  intro k vs x hk h
  cases k with
  | kcons p q =>
   obtain ⟨y, ys, e, h1, h2⟩ := hk
   have e : vs = y :: ys := by injection e with e; simpa using congrArg Array.toList e
   subst e
   have h' : (match Ep a p, D3 b q with | some x, some y => some (x, y) | _, _ => none) = some x := h
   split at h'
   ·rename_i x1 x2 g1 g2
    have e := (Option.some.inj h').symm
    subst e
    obtain ⟨cs, ev, hc⟩ := F4 h1 g1
    exact ⟨ys, cs, by rw [ev], hc, ihb h2 g2⟩
   ·cases h'
  | _ => cases h
 | _ => intro k vs x hk h; cases k <;> cases h
theorem cu {t : Ty} {k : K} {v : Value} {x : den t} (hk : KV P G w tm k v) (h : bt t k = some x) : aB P t G.av w v x := by
 cases k with
 | clo f kc =>
  cases t with
  | clo f' c =>
   have h' : (if f = f' then D3 c kc else none) = some x := h
   split at h'
   ·rename_i e
    subst e
    obtain ⟨vs, h1, h2⟩ := hk
    exact ⟨[v], rfl, vs, by rw [h2], On h1 h'⟩
   ·cases h'
  | _ => cases h
 | _ => exact F4 hk h
theorem ON {t : Ty} {x : den t} {v : Value} (h : aB P t G.av w v x) : KV P G w tm (NP t x) v := by
 cases t with
 | ref t =>
  obtain ⟨cs, e, ad, L, e1, h1⟩ := h
  subst e1
  exact ⟨ad, e, L, h1⟩
 | _ => exact h
theorem PR : ∀ {c : Ty} {x : den c} {vs : List Value}, Rep P c .chain G.av w vs x → KV P G w tm (kCh c x) (.tuple vs.toArray) := by
 intro c
 induction c with
 | unit => intro x vs h; have h : vs = [] := h; subst h; exact rfl
 | pair a b _ ihb =>
  intro x vs h
  obtain ⟨rest, cs, e, h1, h2⟩ := h
  subst e
  exact ⟨_, rest, rfl, ON ⟨cs, rfl, h1⟩, ihb h2⟩
 | _ => intro x vs h; exact h.elim
theorem Mv {f : Nat} {c : Ty} {x : den c} {v : Value} (h : aB P (.clo f c) G.av w v x) : KV P G w tm (.clo f (kCh c x)) v := by
 obtain ⟨cs, e, vs, e1, h1⟩ := h
 subst e1
 exact ⟨vs, PR h1, e⟩
theorem PJ {t : Ty} {x : den t} {v : Value} (h : aB P t G.av w v x) : KV P G w tm (asR t x) v := by
 cases t with
 | clo f c => exact Mv h
 | _ => exact h
theorem Kp {f : FuncId} {S : bq} (hf : ap P D.G f S) {O : Nat → Prop} (hgl : GlobOk P D.G O w) {captured : List Value} {as' : Ty} {h : den as' → den S.as} (hpre : ∀ y, S.pre (h y))
    (hargs : ∀ O' w', Lat O w O' w' → ∀ vs y, Rep P as' .chain O' w' vs y → Rep P S.as .chain O' w' (vs ++ captured) (h y)) :
    Rep P (.fn as' S.rs) .cells O w [.func (.func f) #[] captured.toArray] (some fun y => S.g (h y)) := by
  refine ⟨f, captured.toArray, rfl, hf.can, fun O' w' hl hO vs x hx => ?_⟩
  have := hf.does O' w' (vs ++ captured) (h x) hO (hgl.lat hl) (hargs O' w' hl vs x hx) (hpre x)
  have e : (vs ++ captured).toArray = vs.toArray ++ captured.toArray := by simp
  rw [e] at this
  exact this
theorem bj {k : IntKind} {v : Value} {x : Int} : aB P (.int k) G.av w v x ↔ v = .int k x ∧ InK k x :=
 ⟨fun ⟨cs, e, h1, h2⟩ => by subst h1; exact ⟨e, h2⟩, fun ⟨e, h⟩ => ⟨[.int k x], e, rfl, h⟩⟩
theorem bA {v : Value} {x : Bool} : aB P .bool G.av w v x ↔ v = .bool x :=
 ⟨fun ⟨cs, e, h1⟩ => by rw [show cs = _ from h1] at e; exact e, fun e => ⟨[.bool x], e, rfl⟩⟩
theorem mn {v : Value} {x : ByteArray} : aB P .str G.av w v x ↔ v = .string x ∧ x.size ≤ maxLen :=
 ⟨fun ⟨cs, e, h1, h2⟩ => by subst h1; exact ⟨e, h2⟩, fun ⟨e, h⟩ => ⟨[.string x], e, rfl, h⟩⟩
theorem L7 (v : Value) : KV P G w tm (IF v) v := by
 unfold IF
 split
 ·split
  ·rename_i h; exact bj.2 ⟨rfl, h⟩
  ·trivial
 ·exact bA.2 rfl
 ·split
  ·rename_i h; exact mn.2 ⟨rfl, by unfold maxLen; omega⟩
  ·trivial
 ·rfl
 ·rfl
 ·trivial
theorem MO {g : Option (Nat × Bool)} {k : K} {v : Value} (hg : ∀ s c, g = some (s, c) → tm s = .bool c) (hk : KV P G w tm k v) : KV P G w tm (oG g k) v := by
 cases k with
 | grd s c cs k =>
  cases g with
  | none => trivial
  | some q =>
   obtain ⟨s', w'⟩ := q
   show KV P G w tm (if s' = s then (if w' = c then k else .any) else .any) v
   split
   ·rename_i e
    split
    ·rename_i e'
     subst e; subst e'
     exact (hk.1 (hg _ _ rfl)).2
    ·trivial
   ·trivial
 | opt cs k => trivial
 | lit b => exact bA.2 hk
 | _ => exact hk
theorem lw (hD : DOk P D) (hgl : GlobOk P D.G G.av w) {s : Nat → K} {g : Option (Nat × Bool)} (hg : ∀ n c, g = some (n, c) → tm n = .bool c) (hs : ∀ n, KV P G w tm (s n) (tm n)) (htm : ∀ n, tm n = a.tmps.getD n undef) (x : Operand) :
    KV P G w tm (rd D s g x) (a.eval x) := by
  cases x with
  | tmp t =>
    have := hs t
    rw [htm t] at this
    exact MO hg this
  | const v => exact L7 v
  | global x =>
    show KV P G w tm (match D.G.lookup x with | some ⟨t, y⟩ => .ref t y | none => .any) _
    split
    · rename_i t y e
      exact ⟨_, rfl, hgl _ _ _ e⟩
    · trivial
  | func f =>
    show KV P G w tm (match D.F.lookup f with | some S => if S.tot then .val (.fn S.as S.rs) (some S.g) else .fnc f | none => .fnc f) _
    split
    · rename_i S hS
      split
      · rename_i ht
        have hf := hD.fns f S hS
        exact ⟨[.func (.func f) #[] #[]], rfl, Kp (captured := []) (h := fun y => y) hf hgl (hf.all ht) (fun _ _ _ _ _ h => by simpa using h)⟩
      · rfl
    · rfl
theorem ii (k : IntKind) (n : Int) : InK k (k.wrap n) := wrap_within k n
theorem Nz {k : IntKind} {x y : Int} (h : InK k x) : InK k (x.tmod y) := by
 have h1 := Int.tmod_def x y
 have habs : (x.tmod y).natAbs ≤ x.natAbs := by
  rw [Int.natAbs_tmod]
  exact Nat.mod_le _ _
 have hs : 0 ≤ x → 0 ≤ x.tmod y := fun h => Int.tmod_nonneg y h
 have hn : x ≤ 0 → x.tmod y ≤ 0 := fun h => by
  have := Int.tmod_nonneg y (a := -x) (by omega)
  rw [Int.neg_tmod] at this
  omega
 unfold InK at *
 have hmin : k.min ≤ 0 := (pI k).1
 have hmax : 0 ≤ k.max := (pI k).2
 rcases Int.le_total 0 x with h0 | h0
 ·have := hs h0; omega
 ·have := hn h0; omega
theorem Pl {k : IntKind} {x : Int} (h : InK k x) (n : Nat) : InK k (x.fdiv (2 ^ n)) := by
 unfold InK at *
 have hmin : k.min ≤ 0 := (pI k).1
 have hmax : 0 ≤ k.max := (pI k).2
 have hp : (0 : Int) < 2 ^ n := Int.pow_pos (by decide)
 rw [Int.fdiv_eq_ediv_of_nonneg _ (by omega)]
 rcases Int.le_total 0 x with h0 | h0
 ·have h1 : 0 ≤ x / 2 ^ n := Int.ediv_nonneg h0 (by omega)
  have h2 : x / 2 ^ n ≤ x := Int.ediv_le_self _ h0
  omega
 ·have h1 : x / 2 ^ n ≤ 0 := Int.le_trans (Int.ediv_le_ediv hp h0) (by simp)
  have h2 : x ≤ x / 2 ^ n := by
   rw [Int.le_ediv_iff_mul_le hp]
   have h3 : (0 : Int) ≤ 2 ^ n - 1 := by omega
   have h4 := Int.mul_le_mul_of_nonneg_right h0 h3
   rw [Int.mul_sub, Int.zero_mul] at h4
   omega
  omega
theorem tJ (p : Prop) [Decidable p] : KV P G w tm (.val .bool (decide p)) (.bool (decide p)) := bA.2 rfl
theorem MK {op : BinOp} {k : IntKind} {x y : Int} {kk : K} {ps : List Prop} (hx : InK k x) (h : Hp op k x y = some (kk, ps)) (hp : ∀ p ∈ ps, p) (t : TypeId) :
    ∃ v, (binOp op t (.int k x) (.int k y)).run P w = .ok v w ∧ KV P G w tm kk v := by
  cases op <;> simp only [Hp, Option.some.injEq, Prod.mk.injEq, reduceCtorEq] at h <;> obtain ⟨rfl, rfl⟩ := h
  case add => exact ⟨_, by simp [binOp, Op.intArith], bj.2 ⟨rfl, ii _ _⟩⟩
  case sub => exact ⟨_, by simp [binOp, Op.intArith], bj.2 ⟨rfl, ii _ _⟩⟩
  case mul => exact ⟨_, by simp [binOp, Op.intArith], bj.2 ⟨rfl, ii _ _⟩⟩
  case quo =>
    have hy : y ≠ 0 := hp (nz y) (by simp)
    exact ⟨_, by simp [binOp, Op.intDiv, hy], bj.2 ⟨rfl, ii _ _⟩⟩
  case rem =>
    have hy : y ≠ 0 := hp (nz y) (by simp)
    exact ⟨_, by simp [binOp, Op.intDiv, hy], bj.2 ⟨rfl, Nz hx⟩⟩
  case and => exact ⟨_, by simp [binOp, Op.intBits], bj.2 ⟨rfl, ii _ _⟩⟩
  case or => exact ⟨_, by simp [binOp, Op.intBits], bj.2 ⟨rfl, ii _ _⟩⟩
  case xor => exact ⟨_, by simp [binOp, Op.intBits], bj.2 ⟨rfl, ii _ _⟩⟩
  case andNot => exact ⟨_, by simp [binOp, Op.intBits], bj.2 ⟨rfl, ii _ _⟩⟩
  case eql => exact ⟨.bool (decide (x = y)), by simp [binOp, Op.intCmp]; rw [Bool.eq_iff_iff]; simp, tJ _⟩
  case neq => exact ⟨.bool (!decide (x = y)), by simp [binOp, Op.intCmp]; rw [Bool.eq_iff_iff]; simp, bA.2 rfl⟩
  case lss => exact ⟨.bool (decide (x < y)), by simp [binOp, Op.intCmp], tJ _⟩
  case leq => exact ⟨.bool (decide (x ≤ y)), by simp [binOp, Op.intCmp], tJ _⟩
  case gtr => exact ⟨.bool (decide (y < x)), by simp [binOp, Op.intCmp], tJ _⟩
  case geq => exact ⟨.bool (decide (y ≤ x)), by simp [binOp, Op.intCmp], tJ _⟩
theorem Jh {op : BinOp} {k k' : IntKind} {x y : Int} {kk : K} {ps : List Prop} (hx : InK k x) (h : CB op k x y = some (kk, ps)) (hp : ∀ p ∈ ps, p) (t : TypeId) :
    ∃ v, (binOp op t (.int k x) (.int k' y)).run P w = .ok v w ∧ KV P G w tm kk v := by
  cases op <;> simp only [CB, Option.some.injEq, Prod.mk.injEq, reduceCtorEq] at h <;> obtain ⟨rfl, rfl⟩ := h
  · have hy : ¬ y < 0 := by have : 0 ≤ y := hp (ge0 y) (by simp); omega
    exact ⟨_, by simp [binOp, Op.shift, hy], bj.2 ⟨rfl, ii _ _⟩⟩
  · have hy : ¬ y < 0 := by have : 0 ≤ y := hp (ge0 y) (by simp); omega
    exact ⟨_, by simp [binOp, Op.shift, hy], bj.2 ⟨rfl, Pl hx _⟩⟩
theorem Nj {op : BinOp} {x y : ByteArray} {kk : K} {ps : List Prop} (h : H0 op x y = some (kk, ps)) (hp : ∀ p ∈ ps, p) (t : TypeId) :
    ∃ v, (binOp op t (.string x) (.string y)).run P w = .ok v w ∧ KV P G w tm kk v := by
  have he : (x.toList == y.toList) = eqb .str x y := Bool.eq_iff_iff.2 ((yq x y).trans (Ff x y).symm)
  cases op <;> simp only [H0, Option.some.injEq, Prod.mk.injEq, reduceCtorEq] at h <;> obtain ⟨rfl, rfl⟩ := h
  case add =>
    have hb : x.size + y.size ≤ 1099511627776 := hp _ (by simp)
    have hb' : ¬ ((x.size : Int) + (y.size : Int) > IntKind.i64.max) := by
      have : IntKind.i64.max = 9223372036854775807 := rfl
      omega
    refine ⟨.string (x ++ y), ?_, mn.2 ⟨rfl, ?_⟩⟩
    · simp only [binOp, Op.stringOp, Int.natCast_add, if_neg hb', Sem.run_pure]
    · rw [ByteArray.size_append]; unfold maxLen; omega
  case eql => exact ⟨.bool (eqb .str x y), by simp only [binOp, Op.stringOp, he, Sem.run_pure], bA.2 rfl⟩
  case neq => exact ⟨.bool (!eqb .str x y), by simp only [binOp, Op.stringOp, he, Sem.run_pure], bA.2 rfl⟩
  case lss => exact ⟨.bool (Op.bytesLess x.toList y.toList), by simp only [binOp, Op.stringOp, Sem.run_pure], bA.2 rfl⟩
def dX (D : aK) : Bool := D.T.all fun (_, t) => decide (ht t ≤ 10000)
theorem fy (op : BinOp) (t : TypeId) (x y : Operand) {vx vy : Value} (h : ∀ cs cs', vx = .agg cs → vy = .agg cs' → P.eqGuardType P.depth t = false) (hn : vx ≠ .nilIface) :
    (eqGuard op t x y vx vy).run P w = .ok () w := by
  unfold eqGuard
  cases op <;> simp only [Sem.run_pure, Bool.not_true, Bool.not_false, if_true, if_false, Bool.false_eq_true] <;>
    (split
     · exact absurd rfl hn
     · rename_i cs cs'
       simp only [Sem.run_bind, run_program, Result.andThen_ok, h cs cs' rfl rfl, Bool.not_false, if_true, Sem.run_pure]
     · rfl)
theorem M9 (hD : DOk P D) {op : BinOp} {t : Ty} {tx : TypeId} (htx : D.ty tx = some t) (hht : ht t ≤ 10000) {x y : den t} {vx vy : Value} (hx : aB P t G.av w vx x) (hy : aB P t G.av w vy y) {kk : K} {ps : List Prop}
    (h : IK op t x y = some (kk, ps)) (X Y : Operand) :
    ∃ v, (do eqGuard op tx X Y vx vy; binOp op tx vx vy).run P w = .ok v w ∧ KV P G w tm kk v := by
  unfold IK at h
  split at h
  · rename_i hc
    simp only [Bool.and_eq_true] at hc
    have hf := hD.fit htx
    have heq := Aq (fun id t e => hD.fit e) hf hc.1 hht hx hy
    have hg : (eqGuard op tx X Y vx vy).run P w = .ok () w := by
      apply fy
      · intro _ _ _ _; exact hf.guard hc.2
      · obtain ⟨cs, rfl, _⟩ := hx
        unfold az
        rw [hc.2]
        simp
    obtain ⟨cs, ex, _⟩ := hx
    obtain ⟨cs', ey, _⟩ := hy
    unfold az at ex ey
    rw [hc.2] at ex ey
    simp only [if_true] at ex ey
    subst ex; subst ey
    rw [Sem.run_bind, hg, Result.andThen_ok]
    cases op <;> simp only [Option.some.injEq, Prod.mk.injEq, reduceCtorEq] at h <;> obtain ⟨rfl, rfl⟩ := h
    · exact ⟨_, by simp only [binOp, Sem.run_bind, heq, Result.andThen_ok, Sem.run_pure], bA.2 rfl⟩
    · exact ⟨_, by simp only [binOp, Sem.run_bind, heq, Result.andThen_ok, Sem.run_pure], bA.2 rfl⟩
  · cases h
theorem Ou (hh : dX D = true) {id : Nat} {t : Ty} (e : D.ty id = some t) : ht t ≤ 10000 := by
 have := List.all_eq_true.1 hh _ (iY e)
 simpa using this
theorem P2 (hD : DOk P D) (hh : dX D = true) {op : BinOp} {tx : TypeId} {kx ky : K} {vx vy : Value} (hx : KV P G w tm kx vx) (hy : KV P G w tm ky vy) {kk : K} {ps : List Prop}
    (h : bop (D.ty tx) op kx ky = some (kk, ps)) (hp : ∀ p ∈ ps, p) (X Y : Operand) :
    ∃ v, (do eqGuard op tx X Y vx vy; binOp op tx vx vy).run P w = .ok v w ∧ KV P G w tm kk v := by
  unfold bop at h
  split at h
  · rename_i k x k' y
    obtain ⟨rfl, ix⟩ := bj.1 hx
    obtain ⟨rfl, iy⟩ := bj.1 hy
    have hg := fy (P := P) (w := w) op tx X Y (vx := .int k x) (vy := .int k' y) (fun _ _ e => by cases e) (by simp)
    rw [Sem.run_bind, hg, Result.andThen_ok]
    split at h
    · exact Jh ix h hp tx
    · split at h
      · rename_i e; subst e; exact MK ix h hp tx
      · cases h
  · rename_i x y
    obtain ⟨rfl, ix⟩ := mn.1 hx
    obtain ⟨rfl, iy⟩ := mn.1 hy
    have hg := fy (P := P) (w := w) op tx X Y (vx := .string x) (vy := .string y) (fun _ _ e => by cases e) (by simp)
    rw [Sem.run_bind, hg, Result.andThen_ok]
    exact Nj h hp tx
  · rename_i x y
    split at h
    · rename_i htx
      have heq := Aq (fun id t e => hD.fit e) (hD.fit htx) rfl (Ou hh htx) hx hy
      obtain rfl := bA.1 hx
      obtain rfl := bA.1 hy
      have hg := fy (P := P) (w := w) op tx X Y (vx := .bool x) (vy := .bool y) (fun _ _ e => by cases e) (by simp)
      rw [Sem.run_bind, hg, Result.andThen_ok]
      cases op <;> simp only [KI, Option.some.injEq, Prod.mk.injEq, reduceCtorEq] at h <;> obtain ⟨rfl, rfl⟩ := h
      · exact ⟨_, by simp only [binOp, Sem.run_bind, heq, Result.andThen_ok, Sem.run_pure]; rfl, bA.2 rfl⟩
      · exact ⟨_, by simp only [binOp, Sem.run_bind, heq, Result.andThen_ok, Sem.run_pure]; rfl, bA.2 rfl⟩
    · cases h
  · rename_i t x y _ _ _
    split at h
    · rename_i htx
      split at h
      · rename_i y' hy'
        exact M9 hD htx (Ou hh htx) hx (cu hy hy') h X Y
      · cases h
    · cases h
  · cases h
end
end Go.Proofs.Ytimdnodkabnbfaa
namespace Go.Proofs.Ytimdnodkabnbfaa
open Go Go.RowKit
section
variable {P : Program} {D : aK} {o : Oper} {a : Act} {G : Gst} {w : World} {tm : Nat → Value}
theorem aq {b : Nat → BS} {id : Nat} {x : Bx} (h : ao b id = some x) : b id = .live x := by
 unfold ao at h
 split at h
 ·rename_i y e; rw [Option.some.inj h] at e; exact e
 ·cases h
theorem bP {b : Nat → BS} {id : Nat} (h : aX b id = true) : b id = .no := by
 unfold aX at h
 split at h
 ·assumption
 ·cases h
theorem je (w : World) (x : Obj) : (w.alloc x).heap[w.heap.size]? = some x := heap_alloc_new w x
theorem KD (hM : MemOk P G w) {id : Nat} (hf : G.b id = .no) {t : Ty} {eid : TypeId} {x : den t} {v : Value} (hv : aB P t G.av w v x) (h1 : isAgg t = false → siz t = 1) :
    ∃ G', G'.b = aG G.b [(id, .live (.cell t x))] ∧ G.Ext w G' (w.alloc (.cells v.cells eid)) ∧ MemOk P G' (w.alloc (.cells v.cells eid)) ∧
      KV P G' (w.alloc (.cells v.cells eid)) tm (.ptr id t []) (.pointer (some ⟨w.heap.size, 0, none⟩)) := by
  obtain ⟨cs, rfl, hr⟩ := hv
  have hc : (az t cs).cells = cs.toArray := bK hr.length h1 hr.oneCell
  rw [hc]
  have hk := Kept.alloc w (.cells cs.toArray eid)
  have := hM.add (P := P) hk (id := id) (g := w.heap.size) (h := .pointer (some ⟨w.heap.size, 0, none⟩)) (x := .cell t x) hf (Nat.le_refl _) (fun G' hE hh hb _ =>
    ⟨w.heap.size, cs.toArray, eid, hb, by unfold Gst.nb; rw [hE.w0]; exact .inl hM.kept.size, je w _, hr.lat hE.lat, by rw [hh]; rfl⟩)
  refine ⟨_, ?_, this.2, this.1, ⟨.cell t x, .inl (by simp [Gst.add])⟩, trivial, w.heap.size, by simp [Gst.add], ?_⟩
  · rfl
  · have e : aJ t [] = 0 := by cases t <;> rfl
    simp [Gst.add, e, i5]
theorem Ki {P : Program} {T : Nat → Option Ty} {id : TypeId} {t : Ty} (h : Fit P T id t) : isAgg t = false → siz t = 1 := eW h
theorem Ps (hD : DOk P D) (hM : MemOk P G w) {e : TypeId} (ho : o.op = .alloc e) {t : Ty} (ht : D.ty e = some t) {id : Nat} (hf : aX G.b id = true) :
    ak P o a G w tm (.ptr id t []) [(id, .live (.cell t (zero t)))] := by
  have hfit := hD.fit ht
  have hz : aB P t G.av w (az t (aQ t)) (zero t) := ⟨_, rfl, eN P _ _ t hfit.plain⟩
  obtain ⟨G', hb, he, hM', hk⟩ := KD (tm := tm) hM (eid := e) (bP hf) hz (Ki hfit)
  refine bp ?_ hb he hM' hk
  simp only [execOp, ho, Instr.alloc, Sem.run_bind, hfit.zeroValue w, Result.andThen_ok, newVar, newRow, run_newObj, Sem.run_pure]
  rfl
theorem Qi (hD : DOk P D) (hM : MemOk P G w) {e : TypeId} {x : Operand} (ho : o.op = .box e x) {t : Ty} (ht : D.ty e = some t) {id : Nat} (hf : aX G.b id = true) {k : K} (hk : KV P G w tm k (a.eval x)) {v : den t} (hv : bt t k = some v) :
    ak P o a G w tm (.ptr id t []) [(id, .live (.cell t v))] := by
  have hfit := hD.fit ht
  obtain ⟨G', hb, he, hM', hk'⟩ := KD (tm := tm) hM (eid := e) (bP hf) (cu hk hv) (Ki hfit)
  refine bp ?_ hb he hM' hk'
  simp only [execOp, ho, Instr.box, Sem.run_bind, newVar, newRow, run_newObj, Result.andThen_ok, Sem.run_pure]
  rfl
theorem M0 (hM : MemOk P G w) {x : Operand} (ho : o.op = .move x ∨ o.op = .assign x) {k : K} (hk : KV P G w tm k (a.eval x)) : ak P o a G w tm k [] := by
 rcases ho with ho | ho <;> exact aC hM (by simp only [execOp, ho, Sem.run_pure]) hk
theorem io (P : Program) (g o : Nat) (t : TypeId) (fz : Nat × Nat) : ∀ (vs : List Value) (i : Nat) (cur : Array Value) (w : World), w.heap[g]? = some (.cells cur t fz) → (fz = (0, 0) ∨ cur.size ≤ fz.1) → o + i + vs.length ≤ cur.size → (∀ v ∈ vs, v.oneCell' = true) →
    (storeCells ⟨g, o, none⟩ vs i).run P w = .ok () (w.setRow g (cur.toList.take (o + i) ++ vs ++ cur.toList.drop (o + i + vs.length)).toArray)
  | [], i, cur, w, hg, _, _, _ => by
    simp only [storeCells, List.append_nil, List.length_nil, Nat.add_zero, List.take_append_drop, Array.toArray_toList]
    rw [setRow_self w g cur t fz hg]
    rfl
  | v :: rest, i, cur, w, hg, hfz, hl, h1 => by
    have hi : o + i < cur.size := by simp at hl; omega
    have hadd : (⟨g, o, none⟩ : Addr).add i = ⟨g, o + i, none⟩ := cS g o i
    have hcell : w.cell? ⟨g, o + i, none⟩ = some cur[o + i] := by simp [World.cell?, hg, hi]
    have hfro : w.frozen? ⟨g, o + i, none⟩ = false := by
      obtain ⟨lo, up⟩ := fz
      simp only [World.frozen?, hg, Bool.and_eq_false_iff, decide_eq_false_iff_not]
      rcases hfz with h | h
      · injection h with h2 h3
        right; omega
      · left
        have h : cur.size ≤ lo := h
        omega
    have hst : (store ((⟨g, o, none⟩ : Addr).add i) v).run P w = .ok () (w.setRow g (cur.setIfInBounds (o + i) v)) := by
      rw [hadd, run_store P w _ v _ (h1 v (by simp)), hcell]
      simp [hfro, setCell_eq_setRow w g (o + i) cur t fz v hg]
    have ih := io P g o t fz rest (i + 1) (cur.setIfInBounds (o + i) v) (w.setRow g (cur.setIfInBounds (o + i) v)) (setRow_heap w g cur _ t _ hg) (by simpa using hfz) (by simp at hl ⊢; omega) (fun x hx => h1 x (by simp [hx]))
    simp only [storeCells, Sem.run_bind, hst, Result.andThen_ok, ih, setRow_setRow]
    congr 3
    have e := list_seg_step cur.toList (o + i) v rest (by simp at hl ⊢; omega)
    simpa [Array.toList_setIfInBounds, Nat.add_assoc] using e
theorem RowObj.set {e : Ty} {g : Nat} {arr arr' : Array Value} {eid : TypeId} (h : RowObj e w.heap[g]? arr eid) (hs : arr'.size = arr.size) : RowObj e (w.setRow g arr').heap[g]? arr' eid := by
 obtain ⟨fz, hg, hfz⟩ := h
 exact ⟨fz, setRow_heap w g arr arr' eid fz hg, by rw [hs]; exact hfz⟩
theorem tI {e : Ty} {g off : Nat} {arr : Array Value} {eid : TypeId} {n : Nat} (hg : RowObj e w.heap[g]? arr eid) :
    ∀ j u, ((arr.toList.drop off).take n)[j]? = some u → w.cell? ((⟨g, off, none⟩ : Addr).add j) = some u := by
  intro j u hj
  obtain ⟨fz, hg, _⟩ := hg
  rw [cS, cell_of_row w g (off + j) arr eid fz hg]
  rw [List.getElem?_take] at hj
  split at hj
  · simpa using hj
  · cases hj
theorem M1 {α : Type} {l : List α} {N a s k u : Nat} (h1 : a + s ≤ N) (h2 : k + u ≤ s) : ((((l.take N).drop a).take s).drop k).take u = (l.drop (a + k)).take u := by
 apply List.ext_getElem?
 intro j
 simp only [List.getElem?_take, List.getElem?_drop]
 by_cases hj : j < u
 ·rw [if_pos hj, if_pos hj, if_pos (by omega), if_pos (by omega)]
  congr 1
  omega
 ·rw [if_neg hj, if_neg hj]
def Kl (bx : Bx) (base : Ty) (p : List Sel) : Prop :=
 match bx with
 | .cell t _ => base = t
 | .row e xs => base = .slc e ∧ ∀ n q, p = .idx n :: q → inB n (ln xs)
 | _ => False
theorem OM (hM : MemOk P G w) {id : Nat} {bx : Bx} (hb : G.b id = .live bx) {base u : Ty} {p : List Sel} {v : Value} (hk : KV P G w tm (.ptr id base p) v) (ht : dg base p = some u) {y : den u}
    (hbase : Kl bx base p) (hn : bt u (bx.nav p) = some y) :
    ∃ g arr eid off, v = .pointer (some ⟨g, off, none⟩) ∧ (∃ e, RowObj e w.heap[g]? arr eid) ∧ off + siz u ≤ arr.size ∧ Rep P u .cells G.av w ((arr.toList.drop off).take (siz u)) y := by
  obtain ⟨_, hp, g, hg, rfl⟩ := hk
  have hbx := hM.box id bx hb
  cases bx with
  | cell t x =>
    have hbase : base = t := hbase
    subst hbase
    obtain ⟨g', arr, eid, h1, h2, h3, h4, h5⟩ := hbx
    rw [hg] at h1
    cases h1
    obtain ⟨hle, hr⟩ := sC ht hp h4 hn
    have hl := h4.length
    exact ⟨g, arr, eid, aJ base p, by rw [h5, Nat.zero_add], ⟨.unit, .of h3⟩, by rw [← Array.length_toList, hl]; exact hle, hr⟩
  | row e xs =>
    obtain ⟨rfl, hin⟩ := hbase
    rcases hbx with ⟨rfl, h1, _⟩ | ⟨g', arr, eid, off, sp, h1, h2, h3, h4, h6, h7, h8⟩
    · rw [hg] at h1; cases h1
    · rw [hg] at h1
      cases h1
      obtain ⟨hcl, hcr, hcle⟩ := qw h8 h7
      match p, hp, hn, ht with
      | [], _, hn, _ => cases hn
      | .fld _ :: _, _, hn, _ => cases hn
      | .idx n :: q, hp, hn, ht =>
        have hi := hin n q rfl
        have h0 : 0 ≤ n := hi.1
        have hlt : n < xs.length := hi.2
        have r := wz hi.1 hlt hcr
        obtain ⟨hle, hr⟩ := sC (t := e) (p := q) ht hp.2 r hn
        have hm : n.toNat * siz e + siz e ≤ xs.length * siz e := by
          have := Nat.mul_le_mul_right (siz e) (show n.toNat + 1 ≤ xs.length by omega)
          rwa [Nat.add_mul, Nat.one_mul] at this
        refine ⟨g, arr, eid, off + aJ (.slc e) (.idx n :: q), by rw [h2]; rfl, ⟨e, h4⟩, by simp only [aJ]; omega, ?_⟩
        simp only [aJ]
        rw [M1 hm hle, List.drop_drop] at hr
        exact hr
  | _ => exact hbase.elim
theorem re (hD : DOk P D) {t : TypeId} {u : Ty} (ht : D.ty t = some u) {ad : Addr} {L : List Value} (hl : L.length = siz u) (hc : ∀ j x, L[j]? = some x → w.cell? (ad.add j) = some x) {x : Operand} (ho : o.op = .load t x) (hx : a.eval x = .pointer (some ad)) :
    (execOp a.eval o).run P w = .ok (.value (az u L)) w := by
  simp only [execOp, ho, hx, Instr.loadAt, Instr.sureAddr, Sem.run_bind, Sem.run_pure, Result.andThen_ok, qq (hD.fit ht) w ad L hl hc]
theorem LT (hD : DOk P D) (hM : MemOk P G w) {t : TypeId} {u : Ty} (ht : D.ty t = some u) {x : Operand} (ho : o.op = .load t x) {y : den u} (hk : KV P G w tm (.ref u y) (a.eval x)) : ak P o a G w tm (.val u y) [] := by
 obtain ⟨ad, hx, L, h1, h2, h3, h4⟩ := hk
 exact aC hM (re hD ht h4.length h3 ho hx) ⟨L, rfl, h4⟩
def Ex (bx : Bx) (p : List Sel) : Prop :=
 match bx, p with
 | .row _ xs, .idx n :: _ => inB n (ln xs)
 | _, _ => True
theorem JL {bx : Bx} {base : Ty} {p : List Sel} (h : wQ bx base = true) (hr : Ex bx p) : Kl bx base p := by
 cases bx with
 | cell t x => exact of_decide_eq_true (p := base = t) h
 | row e xs => exact ⟨of_decide_eq_true h, fun n q e => by subst e; exact hr⟩
 | _ => cases h
theorem Ae {bx : Bx} {p : List Sel} (h : ∀ q ∈ Aa bx p, q) : Ex bx p := by
 unfold Ex
 split
 ·exact h _ (by simp [Aa])
 ·trivial
theorem Lz (hD : DOk P D) (hM : MemOk P G w) {t : TypeId} {u : Ty} (ht : D.ty t = some u) {x : Operand} (ho : o.op = .load t x) {id : Nat} {base : Ty} {p : List Sel} (hk : KV P G w tm (.ptr id base p) (a.eval x))
    {bx : Bx} (hb : ao G.b id = some bx) (hbase : wQ bx base = true) (hrow : Ex bx p) (hta : dg base p = some u) {y : den u} (hn : bt u (bx.nav p) = some y) : ak P o a G w tm (.val u y) [] := by
  obtain ⟨g, arr, eid, off, hx, ⟨_, hg⟩, hle, hr⟩ := OM hM (aq hb) hk hta (JL hbase hrow) hn
  exact aC hM (re hD ht hr.length (tI hg) ho hx) ⟨_, rfl, hr⟩
theorem Gh {P : Program} {T : Nat → Option Ty} {id : TypeId} {t : Ty} (h : Fit P T id t) {O : Nat → Prop} {w : World} {cs : List Value} {x : den t} (hr : Rep P t .cells O w cs x) : (az t cs).cells = cs.toArray :=
 bK hr.length (eW h) hr.oneCell
theorem KL (hD : DOk P D) (hM : MemOk P G w) {t : TypeId} {u : Ty} (ht : D.ty t = some u) {x v : Operand} (ho : o.op = .store t x v) {id : Nat} {base : Ty} {p : List Sel} (hk : KV P G w tm (.ptr id base p) (a.eval x))
    {kv : K} (hv : KV P G w tm kv (a.eval v)) {y : den u} (hy : bt u kv = some y)
    {bx bx' : Bx} (hb : ao G.b id = some bx) (hbase : wQ bx base = true) (hrow : Ex bx p) (hta : dg base p = some u) (hn : bx.upd p (.val u y) = some bx') : ak P o a G w tm .any [(id, .live bx')] := by
  have hbl := aq hb
  have hfit := hD.fit ht
  obtain ⟨cs, ev, hr⟩ := cu hv hy
  have hlen := hr.length
  have hcells : (a.eval v).cells = cs.toArray := by rw [ev]; exact Gh hfit hr
  obtain ⟨_, hp, g, hg, hx⟩ := hk
  have hbx := hM.box id bx hbl
  have hlt := fK hM hbl hg
  have key : ∃ arr eid off, i5 (G.hd id) + aJ base p = off ∧ (∃ e, RowObj e w.heap[g]? arr eid) ∧ off + siz u ≤ arr.size ∧
      ∀ G' w', w'.heap[g]? = (w.setRow g (aw arr.toList off cs).toArray).heap[g]? → G.Ext w G' w' → G'.hd id = G.hd id → G'.bk id = some g → fE P G' w' id bx' := by
    cases bx with
    | cell t0 x0 =>
      have hb0 : base = t0 := of_decide_eq_true hbase
      subst hb0
      obtain ⟨g', arr, eid, h1, h2, h3, h4, h5⟩ := hbx
      rw [hg] at h1
      cases h1
      have hn' : (match qW (.val u y) p base x0 with | some z => some (Bx.cell base z) | none => none) = some bx' := hn
      split at hn'
      · rename_i z hz
        cases hn'
        have hyy : ∀ y', bt u (.val u y) = some y' → Rep P u .cells G.av w cs y' := fun y' e => by
          obtain ⟨_, rfl⟩ := iV e
          exact hr
        obtain ⟨hle, hr'⟩ := sx hyy hta hp h4 hz
        have hl4 := h4.length
        refine ⟨arr, eid, aJ base p, by rw [h5, Nat.zero_add], ⟨.unit, .of h3⟩, by rw [← Array.length_toList, hl4]; exact hle, fun G' w' e1 hE e2 e3 => ?_⟩
        refine ⟨g, _, eid, e3, by unfold Gst.nb; rw [hE.w0, hE.own]; exact h2, by rw [e1]; exact setRow_heap w g arr _ eid (0, 0) h3, ?_, by rw [e2]; exact h5⟩
        exact hr'.lat hE.lat
      · cases hn'
    | row e xs =>
      have hb0 : base = .slc e := of_decide_eq_true hbase
      subst hb0
      rcases hbx with ⟨rfl, h1, _⟩ | ⟨g', arr, eid, off, sp, h1, h2, h3, h4, h6, h7, h8⟩
      · rw [hg] at h1; cases h1
      · rw [hg] at h1
        cases h1
        match p, hp, hrow, hn, hta with
        | [], _, _, hn, _ => cases hn
        | .fld _ :: _, _, _, hn, _ => cases hn
        | .idx n :: q, hp, hi, hn, hta =>
          have hi : inB n (ln xs) := hi
          have h0 : 0 ≤ n := hi.1
          have hltn : n < xs.length := hi.2
          have hn' : (match qW (.val u y) q e (el e xs n) with | some z => some (Bx.row e (se (e := e) xs n z)) | none => none) = some bx' := hn
          split at hn'
          · rename_i z hz
            cases hn'
            have hyy : ∀ y', bt u (.val u y) = some y' → Rep P u .cells G.av w cs y' := fun y' e => by
              obtain ⟨_, rfl⟩ := iV e
              exact hr
            obtain ⟨hcl, hcr, hcle⟩ := qw h8 h7
            have hA : arr.toList.length = arr.size := Array.length_toList
            have hfull : ((arr.toList.drop off).take ((xs ++ sp).length * siz e)).length = (xs ++ sp).length * siz e := by rw [List.length_take, List.length_drop, hA]; omega
            have hm : n.toNat * siz e + siz e ≤ xs.length * siz e := by
              have := Nat.mul_le_mul_right (siz e) (show n.toNat + 1 ≤ xs.length by omega)
              rwa [Nat.add_mul, Nat.one_mul] at this
            have r := wz (e := e) (xs := xs) hi.1 hltn hcr
            obtain ⟨hle, hr'⟩ := sx hyy (t := e) (p := q) hta hp.2 r hz
            have hgetr : (((arr.toList.drop off).take (xs.length * siz e)).drop (n.toNat * siz e)).take (siz e) = (((arr.toList.drop off).take ((xs ++ sp).length * siz e)).drop (n.toNat * siz e)).take (siz e) := by
              apply List.ext_getElem?
              intro j
              simp only [List.getElem?_take, List.getElem?_drop]
              by_cases hj : j < siz e
              · rw [if_pos hj, if_pos hj, if_pos (by omega), if_pos (by omega)]
              · rw [if_neg hj, if_neg hj]
            rw [hgetr] at hr'
            have r3 := RepAll.set (R := Rep P e .cells G.av w) hr'.length hr' (i := n.toNat) (xs := xs ++ sp) (by simp; omega) hfull h8
            have hlt' : ((((arr.toList.drop off).take ((xs ++ sp).length * siz e)).drop (n.toNat * siz e)).take (siz e)).length = siz e := by rw [List.length_take, List.length_drop, hfull]; omega
            rw [kB (by rw [hlt', hlen]; exact hle) (by rw [hlt', hfull]; omega) (by rw [hlt'])] at r3
            have hs : ((aw (arr.toList) (off + (n.toNat * siz e + aJ e q)) cs).drop off).take ((xs ++ sp).length * siz e) = aw ((arr.toList.drop off).take ((xs ++ sp).length * siz e)) (n.toNat * siz e + aJ e q) cs := by
              apply List.ext_getElem?
              intro j
              simp only [aw, List.append_assoc, List.getElem?_take, List.getElem?_append, List.length_take, List.getElem?_drop, List.length_drop, hA, hlen]
              have hMN : (n.toNat * siz e + aJ e q) + siz u ≤ (xs ++ sp).length * siz e := by omega
              clear r3 hfull
              generalize (xs ++ sp).length * siz e = N at *
              generalize n.toNat * siz e + aJ e q = M at *
              have m1 : min (off + M) arr.size = off + M := by omega
              have m2 : min M (min N (arr.size - off)) = M := by omega
              rw [m1, m2]
              repeat' split
              all_goals first
                | rfl
                | (exfalso; omega)
                | (congr 1; omega)
            have hset : se (e := e) xs n z ++ sp = (xs ++ sp).set n.toNat z := by
              unfold se; rw [List.set_append_left _ _ (by omega)]
            refine ⟨arr, eid, off + aJ (.slc e) (.idx n :: q), by rw [h2]; rfl, ⟨e, h4⟩, by simp only [aJ]; omega, fun G' w' e1 hE e2 e3 => .inr ?_⟩
            refine ⟨g, (aw arr.toList (off + aJ (.slc e) (.idx n :: q)) cs).toArray, eid, off, sp, e3, ?_, by unfold Gst.nb; rw [hE.w0, hE.own]; exact h3, by rw [e1]; exact RowObj.set h4 (by rw [List.size_toArray, eH (by rw [hlen, hA]; simp only [aJ]; omega), hA]), ?_, ?_, ?_⟩
            · rw [e2, h2]; simp [se]
            · simpa [se] using h6
            · rw [hset, List.length_set]
              simp only [aJ, List.size_toArray]
              rw [eH (by rw [hlen, hA]; omega), hA]
              exact h7
            · rw [hset, List.length_set]
              simp only [aJ]
              rw [hs]
              exact r3.imp fun _ _ r => r.lat hE.lat
          · cases hn'
    | _ => cases hbase
  obtain ⟨arr, eid, off, ho', ⟨_, hro⟩, hle, hx'⟩ := key
  obtain ⟨fz, h3, hfz⟩ := hro.far
  rw [ho'] at hx
  have hm := hM.turn hbl hg (x := bx') (cs := (aw arr.toList off cs).toArray) hx'
  have hst := io P g off eid fz cs 0 arr w h3 hfz (by rw [hlen]; simpa using hle) hr.oneCell
  simp only [Nat.add_zero] at hst
  have hrun : (execOp a.eval o).run P w = .ok .skip (w.setRow g (aw arr.toList off cs).toArray) := by
    simp only [execOp, ho, hx, Instr.storeAt, Instr.sureAddr, storeVar, Sem.run_bind, Sem.run_pure, Result.andThen_ok, hfit.sizeOf w, hcells, List.size_toArray, hlen, ne_eq, not_true_eq_false, if_false, hst]
    rw [aw, hlen]
  intro next Q h
  unfold Oper.wp
  rw [hrun]
  exact h _ _ undef rfl hm.2 hm.1 trivial
end
end Go.Proofs.Ytimdnodkabnbfaa
namespace Go.Proofs.Ytimdnodkabnbfaa
open Go Go.RowKit
section
variable {P : Program} {D : aK} {o : Oper} {a : Act} {G : Gst} {w : World} {tm : Nat → Value}
theorem FM (off : Nat) : ∀ (v : List Value) (j : Nat) (cs : Array Value), off + j + v.length ≤ cs.size →
    ((v.zipIdx j).foldl (fun (cs : Array Value) (x : Value × Nat) => cs.setIfInBounds (off + x.2) x.1) cs).toList = aw cs.toList (off + j) v
  | [], j, cs, h => by simp [aw]
  | c :: v, j, cs, h => by
    simp only [List.length_cons] at h
    rw [List.zipIdx_cons, List.foldl_cons, FM off v (j + 1) _ (by simp; omega)]
    simp only [aw, Array.toList_setIfInBounds, List.length_cons]
    apply List.ext_getElem?
    intro i
    simp only [List.getElem?_append, List.length_append, List.length_take, List.length_set, List.getElem?_take, List.getElem?_drop, List.getElem?_set, Array.length_toList]
    have m1 : min (off + (j + 1)) cs.size = off + j + 1 := by omega
    have m2 : min (off + j) cs.size = off + j := by omega
    rw [m1, m2]
    by_cases h1 : i < off + j
    · repeat' split
      all_goals first | rfl | (exfalso; omega)
    · by_cases h2 : i = off + j
      · subst h2
        repeat' split
        all_goals first | rfl | (exfalso; omega) | (simp only [List.length_cons] at *; exfalso; omega) | (rw [Nat.sub_self]; rfl)
      · have e : i - (off + j) = (i - (off + j + 1)) + 1 := by omega
        rw [e, List.getElem?_cons_succ]
        repeat' split
        all_goals first
          | rfl
          | (exfalso; omega)
          | (simp only [List.length_cons] at *; exfalso; omega)
          | (simp only [List.length_cons] at *; congr 1; omega)
theorem zU {place : Nat → Option (Nat × Nat)} {cells : Array Value} {i : Nat} {v : Value} {rest : List (Nat × Value)} {off size : Nat} (hp : place i = some (off, size)) (hs : v.cells.size = size) (hl : off + size ≤ cells.size) :
    Instr.fill place cells ((i, v) :: rest) = Instr.fill place (aw cells.toList off v.cells.toList).toArray rest := by
  rw [Instr.fill]
  simp only [hp]
  rw [if_neg (by simp [hs]; omega)]
  congr 1
  apply Array.ext'
  have := FM off v.cells.toList 0 cells (by simp [hs]; omega)
  simp only [Nat.add_zero] at this
  rw [← this]
  rw [← Array.foldl_toList]
  congr 1
  simp
theorem zY {T : Nat → Option Ty} (hT : ∀ id t, T id = some t → Fit P T id t) : ∀ (fs : List Field) (b : Ty) (off : Nat), dF T fs b off = true →
    ∃ ps : List (Nat × Nat), (fs.mapM fun f => (do pure (f.offset, ← sizeOf f.type) : Sem (Nat × Nat))).run P w = .ok ps w ∧ ∀ i u, cV b i = some u → ps[i]? = some (off + bD b i, siz u)
  | [], b, off, h => by
    cases b <;> first | (cases h; done) | exact ⟨[], by simp, fun i u h => by cases h⟩
  | f :: fs, b, off, h => by
    cases b with
    | pair a b =>
      simp only [dF, Bool.and_eq_true, beq_iff_eq, decide_eq_true_eq] at h
      obtain ⟨⟨⟨⟨h1, h2⟩, _⟩, _⟩, h5⟩ := h
      obtain ⟨ps, hr, hp⟩ := zY hT fs b (off + siz a) h5
      refine ⟨(f.offset, siz a) :: ps, ?_, fun i u hu => ?_⟩
      · rw [List.mapM_cons]
        simp only [Sem.run_bind, (hT _ _ h2).sizeOf w, Result.andThen_ok, Sem.run_pure, hr]
      · cases i with
        | zero =>
          have e : a = u := Option.some.inj hu
          subst e
          simp [bD, h1]
        | succ i =>
          have := hp i u hu
          rw [List.getElem?_cons_succ, this]
          simp [bD, Nat.add_assoc]
    | _ => cases h
theorem BQ {r : Operand → K} (hr : ∀ x, KV P G w tm (r x) (a.eval x)) {b : Ty} {ps : List (Nat × Nat)} (hps : ∀ i u, cV b i = some u → ps[i]? = some (0 + bD b i, siz u)) (h1 : ∀ i u, cV b i = some u → isAgg u = false → siz u = 1) :
    ∀ (parts : List (Nat × Operand)) (x z : den b) (cs : Array Value), Rep P b .cells G.av w cs.toList x → tn r b x parts = some z →
      ∃ cs', Instr.fill (fun i => ps[i]?) cs (parts.map fun (i, x) => (i, a.eval x)) = some cs' ∧ Rep P b .cells G.av w cs'.toList z
  | [], x, z, cs, hx, h => by
    have e : x = z := Option.some.inj h
    subst e
    exact ⟨cs, rfl, hx⟩
  | (i, x0) :: l, x, z, cs, hx, h => by
    have h' : (match tr b x i (fun t _ => bt t (r x0)) with | some y => tn r b y l | none => none) = some z := h
    split at h'
    · rename_i y hy
      obtain ⟨u, y0, y1, hu, _, hg, hp0, hnew⟩ := xp hx hy
      obtain ⟨cs0, ev, hr0⟩ := cu (hr x0) hg
      have hc : (a.eval x0).cells = cs0.toArray := by rw [ev]; exact bK hr0.length (h1 i u hu) hr0.oneCell
      have hle := lV hu
      have hlen := hx.length
      have hf := zU (place := fun i => ps[i]?) (cells := cs) (i := i) (v := a.eval x0) (rest := l.map fun (i, x) => (i, a.eval x)) (off := bD b i) (size := siz u) (by rw [hps i u hu, Nat.zero_add]) (by rw [hc, List.size_toArray, hr0.length]) (by rw [← Array.length_toList, hlen]; exact hle)
      rw [hc] at hf
      obtain ⟨cs', e, hr'⟩ := BQ hr hps h1 l y z _ (hnew _ hr0) h'
      exact ⟨cs', hf.trans e, hr'⟩
    · cases h'
theorem E5 {T : Nat → Option Ty} (hT : ∀ id t, T id = some t → Fit P T id t) : ∀ (fs : List Field) (b : Ty) (off : Nat), dF T fs b off = true → ∀ i u, cV b i = some u → isAgg u = false → siz u = 1
 | [], b, off, h, i, u, hu => by cases b <;> first | (cases h; done) | (cases hu; done)
 | f :: fs, b, off, h, i, u, hu => by
  cases b with
  | pair a b =>
   simp only [dF, Bool.and_eq_true, beq_iff_eq, decide_eq_true_eq] at h
   obtain ⟨⟨⟨⟨h1, h2⟩, _⟩, _⟩, h5⟩ := h
   cases i with
   | zero =>
    have e : a = u := Option.some.inj hu
    subst e
    exact eW (hT _ _ h2)
   | succ i => exact E5 hT fs b _ h5 i u hu
  | _ => cases h
theorem LY (hD : DOk P D) (hM : MemOk P G w) {e : TypeId} {parts : Array (Nat × Operand)} (ho : o.op = .build e parts) {b : Ty} (ht : D.ty e = some (.st b)) {r : Operand → K} (hr : ∀ x, KV P G w tm (r x) (a.eval x)) {v : den b} (hv : tn r b (zero b) parts.toList = some v) :
    ak P o a G w tm (.val (.st b) v) [] := by
  have hfit := hD.fit ht
  obtain ⟨fs, hu, hfs, _⟩ := jd hfit.shape
  obtain ⟨ps, hps, hpl⟩ := zY (w := w) (fun id t e => hD.fit e) fs.toList b 0 hfs
  have hz := eN P G.av w b hfit.plain
  obtain ⟨cs', hf, hr'⟩ := BQ hr hpl (E5 (fun id t e => hD.fit e) fs.toList b 0 hfs) parts.toList (zero b) v (aQ b).toArray hz hv
  refine aC hM (v := .agg cs') ?_ ⟨cs'.toList, by simp [az, isAgg], hr'⟩
  have hm : (fs.mapM fun f => (do pure (f.offset, ← sizeOf f.type) : Sem (Nat × Nat))).run P w = .ok ps.toArray w := by
    rw [Array.mapM_eq_mapM_toList]
    simp only [Sem.run_map, hps, Result.andThen_ok]
  have hzc : (az (.st b) (aQ (.st b))).cells = (aQ b).toArray := rfl
  simp only [execOp, ho, Instr.build, Sem.run_bind, hfit.zeroValue w, Result.andThen_ok, run_underlying hu, hm, hzc, Array.toList_map, List.getElem?_toArray, hf, Sem.run_pure]
theorem Fc (hM : MemOk P G w) {x : Operand} (ho : o.op = .nilCheck x) {id : Nat} {base : Ty} {p : List Sel} (hk : KV P G w tm (.ptr id base p) (a.eval x)) : ak P o a G w tm (.ptr id base p) [] := by
 have hk' := hk
 obtain ⟨_, _, g, _, e⟩ := hk'
 exact aC hM (v := a.eval x) (by simp only [execOp, ho, e, Sem.run_pure]) hk
theorem EW (hM : MemOk P G w) {x : Operand} (ho : o.op = .nilCheck x) {t : Ty} {y : den t} (hk : KV P G w tm (.ref t y) (a.eval x)) : ak P o a G w tm (.ref t y) [] := by
 have hk' := hk
 obtain ⟨ad, e, _⟩ := hk'
 exact aC hM (v := a.eval x) (by simp only [execOp, ho, e, Sem.run_pure]) hk
theorem Pb (hD : DOk P D) (hh : dX D = true) (hM : MemOk P G w) {op : BinOp} {tx ty : TypeId} {x y : Operand} (ho : o.op = .binOp op tx x y ty) {kx ky : K} (hx : KV P G w tm kx (a.eval x)) (hy : KV P G w tm ky (a.eval y)) {k : K} {ps : List Prop}
    (h : bop (D.ty tx) op kx ky = some (k, ps)) (hp : ∀ p ∈ ps, p) : ak P o a G w tm k [] := by
  obtain ⟨v, hrun, hk⟩ := P2 hD hh hx hy h hp x y
  refine aC hM (v := v) ?_ hk
  simp only [execOp, ho, Sem.run_bind] at hrun ⊢
  rw [hrun]
  rfl
theorem P7 (hM : MemOk P G w) {tx : TypeId} {x : Operand} (ho : o.op = .unOp .not tx x) {c : Bool} (hx : KV P G w tm (.val .bool c) (a.eval x)) : ak P o a G w tm (.val .bool (!c)) [] := by
 have e := bA.1 hx
 exact aC hM (by simp only [execOp, ho, e, Op.unary, Sem.run_bind, Sem.run_pure, Result.andThen_ok]) (bA.2 rfl)
theorem P6 (hM : MemOk P G w) {tx : TypeId} {x : Operand} (ho : o.op = .unOp .neg tx x) {k : IntKind} {n : Int} (hx : KV P G w tm (.val (.int k) n) (a.eval x)) : ak P o a G w tm (.val (.int k) (k.wrap (PH n))) [] := by
 obtain ⟨e, _⟩ := bj.1 hx
 exact aC hM (by simp only [execOp, ho, e, Op.unary, Op.intArith, Sem.run_bind, Sem.run_pure, Result.andThen_ok]; rfl) (bj.2 ⟨rfl, ii _ _⟩)
theorem NS {P : Program} {T : Nat → Option Ty} {id : TypeId} {t : Ty} (h : Fit P T id t) : ∃ d, P.underlying id = some d := by
 have hs := h.shape
 rcases hd : P.underlying id with _ | d
 ·simp [cq, hd] at hs
 ·exact ⟨d, rfl⟩
theorem GD (hD : DOk P D) (hM : MemOk P G w) {src dst : TypeId} {x : Operand} (ho : o.op = .convert src dst x) {k k' : IntKind} (hs : (D.ty src).isSome = true) (ht : D.ty dst = some (.int k)) {n : Int} (hx : KV P G w tm (.val (.int k') n) (a.eval x)) :
    ak P o a G w tm (.val (.int k) (k.wrap n)) [] := by
  obtain ⟨e, _⟩ := bj.1 hx
  obtain ⟨ts, hts⟩ := Option.isSome_iff_exists.1 hs
  obtain ⟨d, hd⟩ := NS (hD.fit hts)
  have hu := fD (hD.fit ht).shape
  refine aC hM (v := .int k (k.wrap n)) ?_ (bj.2 ⟨rfl, ii _ _⟩)
  simp only [execOp, ho, e, convert, Sem.run_bind, run_underlying hd, run_underlying hu, Result.andThen_ok, Conv.intToInt, Sem.run_pure]
theorem DH {k : IntKind} {O : Nat → Prop} : ∀ {L : List Value} {xs : List Int}, RepAll (fun cs x => Rep P (.int k) .cells O w cs x) 1 L xs → L = xs.map (Value.int k)
 | L, [], h => h
 | L, x :: xs, h => by
  obtain ⟨h1, h2⟩ := h
  have e : L.take 1 = [.int k x] := h1.1
  rw [List.map_cons, ← DH h2, ← List.take_append_drop 1 L, e]
  simp
theorem Dp {src dst ei : TypeId} (hs : P.underlying src = some (.slice ei)) (he : P.underlying ei = some (.int .u8)) (hd : P.underlying dst = some .string) {O : Nat → Prop} {xs : List Int} {a0 : Option Addr} {c : Nat} {L : List Value} (hr : RepAll (fun cs x => Rep P (.int .u8) .cells O w cs x) 1 L xs)
    (hc : xs ≠ [] → ∃ ad, a0 = some ad ∧ ∀ j u, L[j]? = some u → w.cell? (ad.add j) = some u) : (convert src dst (.slice a0 xs.length c)).run P w = .ok (.string (gY xs)) w := by
  have eL := DH hr
  rw [run_convert_bytes_string w src dst ei a0 xs.length c hs he hd]
  cases a0 with
  | none =>
    have : xs = [] := Classical.byContradiction fun h => by obtain ⟨_, h, _⟩ := hc h; cases h
    subst this
    simp [Conv.bytesToString, gY]
    rfl
  | some ad =>
    have hl : (loadCells ad xs.length).run P w = .ok (xs.map (Value.int .u8)).toArray w := by
      have := run_loadCells_list (P := P) w ad (xs.map (Value.int .u8)) (fun j v hj => by
        have hne : xs ≠ [] := fun h => by rw [h] at hj; simp at hj
        obtain ⟨ad', e, h⟩ := hc hne
        cases e
        rw [eL] at h
        exact h j v hj)
      simpa using this
    rw [run_bytesToString w ad xs.length c xs hl, foldl_push_bytes]
    simp [gY, ByteArray.empty, ByteArray.emptyWithCapacity]
    rfl
theorem zC (xs : List Int) : (gY xs).size = xs.length := by simp [gY, ByteArray.size]
theorem Gx (hD : DOk P D) (hM : MemOk P G w) {src dst : TypeId} {x : Operand} (ho : o.op = .convert src dst x) (hs : D.ty src = some (.slc (.int .u8))) (ht : D.ty dst = some .str) {xs : List Int} (hx : KV P G w tm (.val (.slc (.int .u8)) xs) (a.eval x)) :
    ak P o a G w tm (.val .str (gY xs)) [] := by
  obtain ⟨ei, hu, hte, _⟩ := aY (hD.fit hs).shape
  have he := fD (hD.fit hte).shape
  have hd := gg (hD.fit ht).shape
  obtain ⟨cs, ev, a0, c, L, rfl, h2, h3, h4, h5, h6, h7⟩ := hx
  have ev : a.eval x = .slice a0 xs.length c := ev
  refine aC hM (v := .string (gY xs)) ?_ ⟨[.string (gY xs)], rfl, rfl, by rw [zC]; exact Nat.le_trans h2 h3⟩
  simp only [execOp, ho, ev, Sem.run_bind, Dp hu he hd h5 (fun h => by obtain ⟨ad, e, _, _, q⟩ := h6 h; exact ⟨ad, e, q⟩), Result.andThen_ok, Sem.run_pure]
theorem Pp (hD : DOk P D) (hM : MemOk P G w) {tx : TypeId} {x : Operand} {i : Nat} (ho : o.op = .field tx x i) {b u : Ty} (ht : D.ty tx = some (.st b)) {y : den b} (hx : KV P G w tm (.val (.st b) y) (a.eval x)) {z : den u} (hz : dr (.val b y) i = .val u z) (hu : cV b i = some u) :
    ak P o a G w tm (.val u z) [] := by
  have hfit := hD.fit ht
  obtain ⟨fs, hun, hfs, _⟩ := jd hfit.shape
  obtain ⟨cs, e, hr⟩ := hx
  obtain ⟨z', e', hr'⟩ := Bf hu (show Rep P b .cells G.av w cs y from hr)
  rw [hz] at e'
  injection e' with _ e'
  subst e'
  have key : ∀ (fs : List Field) (b : Ty) (off i : Nat) (u : Ty), dF D.ty fs b off = true → cV b i = some u → ∃ f, fs[i]? = some f ∧ f.offset = off + bD b i ∧ D.ty f.type = some u := by
    intro fs
    induction fs with
    | nil => intro b off i u h hu; cases b <;> first | (cases h; done) | (cases hu; done)
    | cons f fs ih =>
      intro b off i u h hu
      cases b with
      | pair a b =>
        simp only [dF, Bool.and_eq_true, beq_iff_eq, decide_eq_true_eq] at h
        obtain ⟨⟨⟨⟨h1, h2⟩, _⟩, _⟩, h5⟩ := h
        cases i with
        | zero =>
          have e : a = u := Option.some.inj hu
          subst e
          exact ⟨f, rfl, by simp [bD, h1], h2⟩
        | succ i =>
          obtain ⟨g, g1, g2, g3⟩ := ih b (off + siz a) i u h5 hu
          exact ⟨g, g1, by simp [bD, g2, Nat.add_assoc], g3⟩
      | _ => cases h
  obtain ⟨f, f1, f2, f3⟩ := key fs.toList b 0 i u hfs hu
  have hf : fs[i]? = some f := by simpa using f1
  have hp := kS (hD.fit f3) w cs.toArray f.offset _ (by rw [f2, Nat.zero_add]) hr'.length
  have ee : a.eval x = .agg cs.toArray := e
  refine aC hM (v := az u _) ?_ ⟨_, rfl, hr'⟩
  simp only [execOp, ho, ee, Instr.field, Sem.run_bind, run_underlying hun, Result.andThen_ok, hf, asAgg, Sem.run_pure, hp]
theorem u9 : ∀ {b : Ty} {i : Nat} {y : den b} {u : Ty} {z : den u}, dr (.val b y) i = .val u z → cV b i = some u
 | .pair a b, 0, y, u, z, h => by
  have h' : K.val a y.1 = .val u z := h
  injection h' with e
  rw [e]; rfl
 | .pair a b, i + 1, y, u, z, h => u9 (b := b) (i := i) (y := y.2) h
 | .int _, 0, _, _, _, h => by cases h
 | .bool, 0, _, _, _, h => by cases h
 | .str, 0, _, _, _, h => by cases h
 | .unit, 0, _, _, _, h => by cases h
 | .st _, 0, _, _, _, h => by cases h
 | .arr _ _, 0, _, _, _, h => by cases h
 | .slc _, 0, _, _, _, h => by cases h
 | .fn _ _, 0, _, _, _, h => by cases h
 | .ref _, 0, _, _, _, h => by cases h
 | .mp _ _, 0, _, _, _, h => by cases h
 | .clo _ _, 0, _, _, _, h => by cases h
 | .int _, i + 1, _, _, _, h => by cases (getFld_any i ▸ (show dr .any i = _ from h))
 | .bool, i + 1, _, _, _, h => by cases (getFld_any i ▸ (show dr .any i = _ from h))
 | .str, i + 1, _, _, _, h => by cases (getFld_any i ▸ (show dr .any i = _ from h))
 | .unit, i + 1, _, _, _, h => by cases (getFld_any i ▸ (show dr .any i = _ from h))
 | .st _, i + 1, _, _, _, h => by cases (getFld_any i ▸ (show dr .any i = _ from h))
 | .arr _ _, i + 1, _, _, _, h => by cases (getFld_any i ▸ (show dr .any i = _ from h))
 | .slc _, i + 1, _, _, _, h => by cases (getFld_any i ▸ (show dr .any i = _ from h))
 | .fn _ _, i + 1, _, _, _, h => by cases (getFld_any i ▸ (show dr .any i = _ from h))
 | .ref _, i + 1, _, _, _, h => by cases (getFld_any i ▸ (show dr .any i = _ from h))
 | .mp _ _, i + 1, _, _, _, h => by cases (getFld_any i ▸ (show dr .any i = _ from h))
 | .clo _ _, i + 1, _, _, _, h => by cases (getFld_any i ▸ (show dr .any i = _ from h))
where
 getFld_any : ∀ i, dr .any i = .any
  | 0 => rfl
  | i + 1 => getFld_any i
end
end Go.Proofs.Ytimdnodkabnbfaa
namespace Go.Proofs.Ytimdnodkabnbfaa
open Go Go.RowKit
section
variable {P : Program} {D : aK} {o : Oper} {a : Act} {G : Gst} {w : World} {tm : Nat → Value}
theorem vY (a : Addr) (m n : Nat) (h : a.spot = none) : (a.add m).add n = a.add (m + n) := by
 obtain ⟨b, o, s⟩ := a
 subst h
 rw [cS, cS, cS, Nat.add_assoc]
theorem qQ : ∀ {p : List Sel} {t u : Ty} (s : Sel), dg t p = some u → dg t (p ++ [s]) = dg u [s] ∧ aJ t (p ++ [s]) = aJ t p + aJ u [s]
 | [], t, u, s, h => by
  have e : t = u := Option.some.inj h
  subst e
  exact ⟨rfl, by simp [aJ]⟩
 | .fld i :: p, t, u, s, h => by
  cases t with
  | st b =>
   simp only [dg] at h
   split at h
   ·rename_i t' hf
    have ih := qQ (p := p) s h
    refine ⟨?_, ?_⟩
    ·simp only [List.cons_append, dg, hf]; exact ih.1
    ·simp only [List.cons_append, aJ, hf]; rw [ih.2, Nat.add_assoc]
   ·cases h
  | _ => cases h
 | .idx n :: p, t, u, s, h => by
  cases t with
  | arr m e =>
   have ih := qQ (p := p) (t := e) s h
   exact ⟨ih.1, by simp only [List.cons_append, aJ]; rw [ih.2, Nat.add_assoc]⟩
  | slc e =>
   have ih := qQ (p := p) (t := e) s h
   exact ⟨ih.1, by simp only [List.cons_append, aJ]; rw [ih.2, Nat.add_assoc]⟩
  | _ => cases h
theorem tk : ∀ {p : List Sel} {t u : Ty} {s : Sel}, dg t p = some u → pok t p → pok u [s] → pok t (p ++ [s])
 | [], t, u, s, h, _, hu => by
  have e : t = u := Option.some.inj h
  subst e
  exact hu
 | .fld i :: p, t, u, s, h, hp, hu => by
  cases t with
  | st b =>
   simp only [dg] at h
   split at h
   ·rename_i t' hf
    simp only [List.cons_append, pok, hf] at hp ⊢
    exact tk h hp hu
   ·cases h
  | _ => cases h
 | .idx n :: p, t, u, s, h, hp, hu => by
  cases t with
  | arr m e => exact ⟨hp.1, tk (t := e) h hp.2 hu⟩
  | slc e => exact ⟨hp.1, tk (t := e) h hp.2 hu⟩
  | _ => cases h
theorem C6 {T : Nat → Option Ty} : ∀ (fs : List Field) (b : Ty) (off i : Nat) (u : Ty), dF T fs b off = true → cV b i = some u → ∃ f, fs[i]? = some f ∧ f.offset = off + bD b i ∧ T f.type = some u ∧ 1 ≤ siz u := by
 intro fs
 induction fs with
 | nil => intro b off i u h hu; cases b <;> first | (cases h; done) | (cases hu; done)
 | cons f fs ih =>
  intro b off i u h hu
  cases b with
  | pair a b =>
   simp only [dF, Bool.and_eq_true, beq_iff_eq, decide_eq_true_eq] at h
   obtain ⟨⟨⟨⟨h1, h2⟩, _⟩, h4⟩, h5⟩ := h
   cases i with
   | zero =>
    have e : a = u := Option.some.inj hu
    subst e
    exact ⟨f, rfl, by simp [bD, h1], h2, h4⟩
   | succ i =>
    obtain ⟨g, g1, g2, g3, g4⟩ := ih b (off + siz a) i u h5 hu
    exact ⟨g, g1, by simp [bD, g2, Nat.add_assoc], g3, g4⟩
  | _ => cases h
theorem BD (hD : DOk P D) {s : TypeId} {b u : Ty} (ht : D.ty s = some (.st b)) {i : Nat} (hu : cV b i = some u) (ad : Addr) : (Instr.fieldAt s (.pointer (some ad)) i).run P w = .ok (.pointer (some (ad.add (bD b i)))) w := by
 obtain ⟨fs, hun, hfs, _⟩ := jd (hD.fit ht).shape
 obtain ⟨f, f1, f2, f3, f4⟩ := C6 fs.toList b 0 i u hfs hu
 have hf : fs[i]? = some f := by simpa using f1
 have hsz := (hD.fit f3).sizeOf w
 have hne : ¬ siz u = 0 := by omega
 simp only [Instr.fieldAt, Sem.run_bind, run_underlying hun, Result.andThen_ok, hf, Instr.sureAddr, Sem.run_pure, fieldPlace, hsz, hne, if_false, f2, Nat.zero_add]
theorem Ds (hD : DOk P D) (hM : MemOk P G w) {s : TypeId} {x : Operand} {i : Nat} (ho : o.op = .fieldAddr s x i) {b u : Ty} (ht : D.ty s = some (.st b)) {id : Nat} {base : Ty} {p : List Sel} (hk : KV P G w tm (.ptr id base p) (a.eval x)) (hp : dg base p = some (.st b)) (hu : cV b i = some u) :
    ak P o a G w tm (.ptr id base (p ++ [.fld i])) [] := by
  obtain ⟨hl, hpok, g, hg, e⟩ := hk
  have hs := qQ (.fld i) hp
  refine aC hM (v := .pointer (some ⟨g, i5 (G.hd id) + aJ base (p ++ [.fld i]), none⟩)) ?_ ⟨hl, tk hp hpok (by simp [pok, hu]), g, hg, rfl⟩
  simp only [execOp, ho, e, Sem.run_bind, BD hD ht hu, Result.andThen_ok, Sem.run_pure, cS]
  rw [hs.2]
  simp [aJ, hu, Nat.add_assoc]
theorem DE (hD : DOk P D) (hM : MemOk P G w) {s : TypeId} {x : Operand} {i : Nat} (ho : o.op = .fieldAddr s x i) {b u : Ty} (ht : D.ty s = some (.st b)) {y : den b} (hk : KV P G w tm (.ref (.st b) y) (a.eval x)) {z : den u} (hz : dr (.val b y) i = .val u z) :
    ak P o a G w tm (.ref u z) [] := by
  have hu := u9 hz
  obtain ⟨ad, e, L, h1, h2, h3, h4⟩ := hk
  obtain ⟨z', e', hr'⟩ := Bf hu (show Rep P b .cells G.av w L y from h4)
  rw [hz] at e'
  injection e' with _ e'
  subst e'
  have hl := hr'.length
  have hlL : L.length = siz b := h4.length
  have hle := lV hu
  obtain ⟨fs, hun, hfs, _⟩ := jd (hD.fit ht).shape
  obtain ⟨f, f1, f2, f3, f4⟩ := C6 fs.toList b 0 i u hfs hu
  have hsp : ad.spot = none := by
    have := h3 0 (L[0]'(by omega)) (by simp [List.getElem?_eq_getElem (show 0 < L.length by omega)])
    have e0 : ad.add 0 = ad := by unfold Addr.add; simp
    rw [e0] at this
    unfold World.cell? at this
    split at this
    · cases hs : ad.spot with
      | none => rfl
      | some q => rw [hs] at this; simp at this
    · cases this
  refine aC hM (v := .pointer (some (ad.add (bD b i)))) ?_ ⟨_, rfl, _, by rw [dQ]; exact h1, by rw [dQ]; exact h2, fun j c hj => ?_, hr'⟩
  · simp only [execOp, ho, e, Sem.run_bind, BD hD ht hu, Result.andThen_ok, Sem.run_pure]
  · rw [vY _ _ _ hsp]
    refine h3 _ _ ?_
    rw [List.getElem?_take, List.getElem?_drop] at hj
    split at hj
    · exact hj
    · cases hj
theorem zN {ad : Addr} {L : List Value} (hL : 0 < L.length) (h3 : ∀ j u, L[j]? = some u → w.cell? (ad.add j) = some u) : ad.spot = none := by
 have := h3 0 (L[0]'hL) (by simp [List.getElem?_eq_getElem hL])
 have e0 : ad.add 0 = ad := by unfold Addr.add; simp
 rw [e0] at this
 unfold World.cell? at this
 split at this
 ·cases hs : ad.spot with
  | none => rfl
  | some q => rw [hs] at this; simp at this
 ·cases this
theorem Ms {ad : Addr} {L : List Value} {e : Ty} {xs : List (den e)} (hs : 1 ≤ siz e) (h1 : ¬ G.av ad.block) (h2 : ad.block < w.heap.size) (h3 : ∀ j u, L[j]? = some u → w.cell? (ad.add j) = some u) (hlen : L.length = xs.length * siz e) (hr : RepAll (Rep P e .cells G.av w) (siz e) L xs)
    {n : Int} (hn : inB n (ln xs)) : xN P G.av w e (ad.add (n.toNat * siz e)) (el e xs n) := by
  have h0 : 0 ≤ n := hn.1
  have hlt : n < xs.length := hn.2
  have hm : n.toNat * siz e + siz e ≤ xs.length * siz e := by
    have := Nat.mul_le_mul_right (siz e) (show n.toNat + 1 ≤ xs.length by omega)
    rwa [Nat.add_mul, Nat.one_mul] at this
  have hsp : ad.spot = none := zN (by omega) h3
  refine ⟨_, by rw [dQ]; exact h1, by rw [dQ]; exact h2, fun j c hj => ?_, wz h0 hlt hr⟩
  rw [vY _ _ _ hsp]
  refine h3 _ _ ?_
  rw [List.getElem?_take, List.getElem?_drop] at hj
  split at hj
  · exact hj
  · cases hj
theorem ur (hD : DOk P D) {tx : TypeId} {e : Ty} (ht : D.ty tx = some (.slc e)) {ad : Addr} {len cap : Nat} {k : IntKind} {n : Int} (hn : 0 ≤ n ∧ n < (len : Int)) :
    (Instr.indexAt tx (.slice (some ad) len cap) (.int k n)).run P w = .ok (.pointer (some (ad.add (n.toNat * siz e)))) w := by
  obtain ⟨ei, hun, hte, _⟩ := aY (hD.fit ht).shape
  have hsz := (hD.fit hte).sizeOf w
  simp only [Instr.indexAt, asIntOf, Sem.run_bind, run_underlying hun, Result.andThen_ok, Sem.run_pure, hsz, Sem.run_ite, if_pos hn]
theorem ui (hD : DOk P D) {tx : TypeId} {e : Ty} {m : Nat} (ht : D.ty tx = some (.arr m e)) {ad : Addr} {k : IntKind} {n : Int} (hn : 0 ≤ n ∧ n < (m : Int)) :
    (Instr.indexAt tx (.pointer (some ad)) (.int k n)).run P w = .ok (.pointer (some (ad.add (n.toNat * siz e)))) w := by
  obtain ⟨ei, hun, hte, _⟩ := ja (hD.fit ht).shape
  have hsz := (hD.fit hte).sizeOf w
  simp only [Instr.indexAt, asIntOf, Instr.sureAddr, Sem.run_bind, run_underlying hun, Result.andThen_ok, Sem.run_pure, hsz, Sem.run_ite, if_pos hn]
theorem um (hD : DOk P D) (hM : MemOk P G w) {tx : TypeId} {x i : Operand} (ho : o.op = .indexAddr tx x i) {e : Ty} (ht : D.ty tx = some (.slc e)) {k : IntKind} {n : Int} (hi : KV P G w tm (.val (.int k) n) (a.eval i)) {xs : List (den e)} (hx : aB P (.slc e) G.av w (a.eval x) xs) (hn : inB n (ln xs)) :
    ak P o a G w tm (.ref e (el e xs n)) [] := by
  obtain ⟨ei, _⟩ := bj.1 hi
  obtain ⟨cs, ex, a0, c, L, rfl, h2, h3, h4, h5, h6, h7⟩ := hx
  have hlt : n < xs.length := hn.2
  have h0 : 0 ≤ n := hn.1
  obtain ⟨ad, rfl, g1, g2, g3⟩ := h6 (by intro e0; rw [e0] at hlt; simp at hlt; omega)
  obtain ⟨_, _, _, hse⟩ := aY (hD.fit ht).shape
  have ex : a.eval x = .slice (some ad) xs.length c := ex
  refine aC hM (v := .pointer (some (ad.add (n.toNat * siz e)))) ?_ ⟨_, rfl, Ms hse g1 g2 g3 h4 h5 hn⟩
  simp only [execOp, ho, ei, ex, Sem.run_bind, ur hD ht ⟨h0, hlt⟩, Result.andThen_ok, Sem.run_pure]
theorem E7 (hD : DOk P D) (hM : MemOk P G w) {tx : TypeId} {x i : Operand} (ho : o.op = .indexAddr tx x i) {e : Ty} (ht : D.ty tx = some (.slc e)) {k : IntKind} {n : Int} (hi : KV P G w tm (.val (.int k) n) (a.eval i)) {id : Nat} (hx : KV P G w tm (.sl id e) (a.eval x)) {xs : List (den e)} (hb : ao G.b id = some (.row e xs)) (hn : inB n (ln xs)) :
    ak P o a G w tm (.ptr id (.slc e) [.idx n]) [] := by
  obtain ⟨ei, _⟩ := bj.1 hi
  have hbl := aq hb
  obtain ⟨hl, ex⟩ := hx
  have hlt : n < xs.length := hn.2
  have h0 : 0 ≤ n := hn.1
  rcases hM.box id _ hbl with ⟨rfl, _⟩ | ⟨g, arr, eid, off, sp, h1, h2, _⟩
  · simp at hlt; omega
  · refine aC hM (v := .pointer (some ⟨g, i5 (G.hd id) + aJ (.slc e) [.idx n], none⟩)) ?_ ⟨hl, ⟨h0, trivial⟩, g, h1, rfl⟩
    rw [h2] at ex
    simp only [execOp, ho, ei, ex, Sem.run_bind, ur hD ht ⟨h0, hlt⟩, Result.andThen_ok, Sem.run_pure, cS, aJ, h2, i5, Nat.add_zero]
theorem DB (hD : DOk P D) (hM : MemOk P G w) {tx : TypeId} {x i : Operand} (ho : o.op = .indexAddr tx x i) {e : Ty} {m : Nat} (ht : D.ty tx = some (.arr m e)) {k : IntKind} {n : Int} (hi : KV P G w tm (.val (.int k) n) (a.eval i)) {xs : den (.arr m e)} (hx : KV P G w tm (.ref (.arr m e) xs) (a.eval x)) (hn : inB n (m : Nat)) :
    ak P o a G w tm (.ref e (el e xs n)) [] := by
  obtain ⟨ei, _⟩ := bj.1 hi
  obtain ⟨ad, ex, L, g1, g2, g3, hl, hr⟩ := hx
  obtain ⟨_, _, _, hse⟩ := ja (hD.fit ht).shape
  have hlen : L.length = (xs : List (den e)).length * siz e := by
    have := Rep.length (P := P) (t := .arr m e) (O := G.av) (w := w) (cs := L) (x := xs) ⟨hl, hr⟩
    rw [this, hl]; rfl
  refine aC hM (v := .pointer (some (ad.add (n.toNat * siz e)))) ?_ ⟨_, rfl, Ms hse g1 g2 g3 hlen hr ⟨hn.1, by show n < ((xs : List (den e)).length : Int); rw [hl]; exact hn.2⟩⟩
  simp only [execOp, ho, ei, ex, Sem.run_bind, ui hD ht hn, Result.andThen_ok, Sem.run_pure]
theorem D2 (hD : DOk P D) (hM : MemOk P G w) {tx : TypeId} {x i : Operand} (ho : o.op = .indexAddr tx x i) {e : Ty} {m : Nat} (ht : D.ty tx = some (.arr m e)) {k : IntKind} {n : Int} (hi : KV P G w tm (.val (.int k) n) (a.eval i)) {id : Nat} {base : Ty} {p : List Sel} (hx : KV P G w tm (.ptr id base p) (a.eval x)) (hp : dg base p = some (.arr m e)) (hn : inB n (m : Nat)) :
    ak P o a G w tm (.ptr id base (p ++ [.idx n])) [] := by
  obtain ⟨ei, _⟩ := bj.1 hi
  obtain ⟨hl, hpok, g, hg, ex⟩ := hx
  have hs := qQ (.idx n) hp
  refine aC hM (v := .pointer (some ⟨g, i5 (G.hd id) + aJ base (p ++ [.idx n]), none⟩)) ?_ ⟨hl, tk hp hpok ⟨hn, trivial⟩, g, hg, rfl⟩
  simp only [execOp, ho, ei, ex, Sem.run_bind, ui hD ht hn, Result.andThen_ok, Sem.run_pure, cS]
  rw [hs.2]
  simp [aJ, Nat.add_assoc]
theorem J8 (hD : DOk P D) (hM : MemOk P G w) {tx : TypeId} {x i : Operand} (ho : o.op = .index tx x i) {e : Ty} {m : Nat} (ht : D.ty tx = some (.arr m e)) {k : IntKind} {n : Int} (hi : KV P G w tm (.val (.int k) n) (a.eval i)) {xs : den (.arr m e)} (hx : KV P G w tm (.val (.arr m e) xs) (a.eval x)) (hn : inB n (m : Nat)) :
    ak P o a G w tm (.val e (el e xs n)) [] := by
  obtain ⟨ei, _⟩ := bj.1 hi
  obtain ⟨cs, ex, hl, hr⟩ := hx
  obtain ⟨ee, hun, hte, _⟩ := ja (hD.fit ht).shape
  have hsz := (hD.fit hte).sizeOf w
  have r := wz hn.1 (by show n < ((xs : List (den e)).length : Int); rw [hl]; exact hn.2) hr
  have hp := kS (hD.fit hte) w cs.toArray (n.toNat * siz e) _ rfl r.length
  have ex : a.eval x = .agg cs.toArray := ex
  have hn' : 0 ≤ n ∧ n < (m : Int) := hn
  refine aC hM (v := az e _) ?_ ⟨_, rfl, r⟩
  simp only [execOp, ho, ei, ex, Instr.index, asIntOf, Sem.run_bind, run_underlying hun, Result.andThen_ok, Sem.run_pure, hsz, Sem.run_ite, if_pos hn', hp]
theorem JT (hD : DOk P D) (hM : MemOk P G w) {tx : TypeId} {x i : Operand} (ho : o.op = .index tx x i) (ht : D.ty tx = some .str) {k : IntKind} {n : Int} (hi : KV P G w tm (.val (.int k) n) (a.eval i)) {s : ByteArray} (hx : KV P G w tm (.val .str s) (a.eval x)) (hn : inB n (CG s)) :
    ak P o a G w tm (.val (.int .u8) (sAt s n)) [] := by
  obtain ⟨ei, _⟩ := bj.1 hi
  obtain ⟨ex, _⟩ := mn.1 hx
  have hun := gg (hD.fit ht).shape
  have h0 : 0 ≤ n := hn.1
  have hlt : n < (s.size : Int) := hn.2
  have hlt' : n.toNat < s.data.size := by show n.toNat < s.size; omega
  have hb : s[n.toNat]? = some (s.data[n.toNat]) := by
    show (if h : n.toNat < s.size then some (s.get n.toNat h) else none) = _
    rw [dif_pos (show n.toNat < s.size from hlt')]; rfl
  have hs : sAt s n = ((s.data[n.toNat]).toNat : Int) := by unfold sAt; rw [Array.getElem?_eq_getElem hlt']; rfl
  refine aC hM (v := .int .u8 (sAt s n)) ?_ (bj.2 ⟨rfl, ?_⟩)
  · simp only [execOp, ho, ei, ex, Instr.index, asIntOf, Sem.run_bind, run_underlying hun, Result.andThen_ok, Sem.run_pure, h0, if_true, hb, hs]
  · rw [hs]
    have := (s.data[n.toNat]).toNat_lt
    refine ⟨?_, ?_⟩
    · show (0 : Int) ≤ _; omega
    · show _ ≤ (255 : Int); omega
theorem F9 : ∀ {t u : Ty} {i : Nat} {vs : List Value} {x : den t} {z : den u}, Rep P t .chain G.av w vs x → dr (.val t x) i = .val u z → ∃ v, vs[i]? = some v ∧ aB P u G.av w v z
 | .pair a b, u, 0, vs, x, z, hr, hz => by
  obtain ⟨rest, cs, rfl, h1, h2⟩ := hr
  have hz' : K.val a x.1 = .val u z := hz
  injection hz' with e1 e2
  subst e1
  have e2 := eq_of_heq e2
  subst e2
  exact ⟨_, rfl, cs, rfl, h1⟩
 | .pair a b, u, i + 1, vs, x, z, hr, hz => by
  obtain ⟨rest, cs, rfl, h1, h2⟩ := hr
  obtain ⟨v, e, hv⟩ := F9 (t := b) (i := i) h2 hz
  exact ⟨v, by simpa using e, hv⟩
 | .unit, u, 0, vs, x, z, hr, hz => by cases hz
 | .unit, u, i + 1, vs, x, z, hr, hz => by cases (u9.getFld_any i ▸ (show dr .any i = _ from hz))
 | .int _, _, _, _, _, _, hr, _ => hr.elim
 | .bool, _, _, _, _, _, hr, _ => hr.elim
 | .str, _, _, _, _, _, hr, _ => hr.elim
 | .st _, _, _, _, _, _, hr, _ => hr.elim
 | .arr _ _, _, _, _, _, _, hr, _ => hr.elim
 | .slc _, _, _, _, _, _, hr, _ => hr.elim
 | .fn _ _, _, _, _, _, _, hr, _ => hr.elim
theorem Mf (hM : MemOk P G w) {x : Operand} {i : Nat} (ho : o.op = .extract x i) {t u : Ty} {y : den t} (hx : KV P G w tm (.tup t y) (a.eval x)) {z : den u} (hz : dr (.val t y) i = .val u z) : ak P o a G w tm (.val u z) [] := by
 obtain ⟨vs, ex, hr⟩ := hx
 obtain ⟨v, e, hv⟩ := F9 hr hz
 refine aC hM (v := v) ?_ hv
 have e' : vs.toArray[i]? = some v := by simpa using e
 simp only [execOp, ho, ex, Instr.extract, e', Sem.run_bind, Sem.run_pure, Result.andThen_ok]
end
end Go.Proofs.Ytimdnodkabnbfaa
namespace Go.Proofs.Ytimdnodkabnbfaa
open Go Go.RowKit
section
variable {P : Program} {D : aK} {o : Oper} {a : Act} {G : Gst} {w : World} {tm : Nat → Value}
theorem jA {k : K} {v : Value} {n : Int} (hk : KV P G w tm k v) (h : iq k = some n) : ∃ kk, v = .int kk n := by
 cases k with
 | val t x =>
  cases t with
  | int kk =>
   have e : x = n := Option.some.inj h
   subst e
   exact ⟨kk, (bj.1 hk).1⟩
  | _ => cases h
 | _ => cases h
theorem gU {k : IntKind} {n : Int} {y : Nat} {code : BoundsCode} (h : 0 ≤ n ∧ n ≤ (y : Int)) : (Instr.sliceBound (.int k n) y code).run P w = .ok n.toNat w := by
 simp only [Instr.sliceBound, asIntOf, Sem.run_bind, Sem.run_pure, Result.andThen_ok, Sem.run_ite, if_pos h]
theorem iU {isS : Bool} {len cap : Nat} {lo hi : Option Value} {l h : Int} (hl : (lo = none ∧ l = 0) ∨ ∃ k, lo = some (.int k l)) (hh : (hi = none ∧ h = len) ∨ ∃ k, hi = some (.int k h)) (hc : 0 ≤ l ∧ l ≤ h ∧ h ≤ (cap : Int)) :
    (Instr.sliceBounds isS len cap lo hi none).run P w = .ok (l.toNat, h.toNat, cap) w := by
  have hh' : 0 ≤ h ∧ h ≤ (cap : Int) := by omega
  have hl' : 0 ≤ l ∧ l ≤ ((h.toNat : Nat) : Int) := by omega
  unfold Instr.sliceBounds
  rcases hh with ⟨rfl, rfl⟩ | ⟨k, rfl⟩ <;> rcases hl with ⟨rfl, rfl⟩ | ⟨k', rfl⟩
  · simp
  · simp only [Sem.run_bind, Sem.run_pure, Result.andThen_ok, gU (P := P) (w := w) (show 0 ≤ l ∧ l ≤ ((len : Nat) : Int) by omega)]
    simp
  · simp only [Sem.run_bind, Sem.run_pure, Result.andThen_ok, gU (P := P) (w := w) hh']
    simp
  · simp only [Sem.run_bind, Sem.run_pure, Result.andThen_ok, gU (P := P) (w := w) hh', gU (P := P) (w := w) hl']
theorem kX {lo : Option Operand} {l d : Int} (hl : (lo = none ∧ l = d) ∨ ∃ q k, lo = some q ∧ a.eval q = .int k l) : (lo.map a.eval = none ∧ l = d) ∨ ∃ k, lo.map a.eval = some (.int k l) := by
 rcases hl with ⟨rfl, e⟩ | ⟨q, k, rfl, e⟩
 ·exact .inl ⟨rfl, e⟩
 ·exact .inr ⟨k, by simp [e]⟩
theorem JY (hD : DOk P D) (hM : MemOk P G w) {tx : TypeId} {x : Operand} {lo hi : Option Operand} (ho : o.op = .slice tx x lo hi none) (ht : D.ty tx = some .str) {s : ByteArray} (hx : KV P G w tm (.val .str s) (a.eval x)) {l h : Int}
    (hl : (lo = none ∧ l = 0) ∨ ∃ q k, lo = some q ∧ a.eval q = .int k l) (hh : (hi = none ∧ h = CG s) ∨ ∃ q k, hi = some q ∧ a.eval q = .int k h) (hc : bQ l h (CG s)) : ak P o a G w tm (.val .str (Io s l h)) [] := by
  obtain ⟨ex, hs⟩ := mn.1 hx
  have hun := gg (hD.fit ht).shape
  have hb := iU (P := P) (w := w) (isS := false) (len := s.size) (cap := s.size) (lo := lo.map a.eval) (hi := hi.map a.eval) (l := l) (h := h)
    (kX hl) (kX hh) hc
  refine aC hM (v := .string (Io s l h)) ?_ (mn.2 ⟨rfl, ?_⟩)
  · simp only [execOp, ho, ex, Instr.sliceAt, Instr.slice, Sem.run_bind, run_underlying hun, Result.andThen_ok, Option.map_none, Option.isSome_none, Bool.false_eq_true, if_false, Sem.run_pure, hb]
    rfl
  · have : (Io s l h).size ≤ s.size := by unfold Io; rw [ByteArray.size_extract]; omega
    omega
theorem RepAll.take_drop {α : Type} {R : List Value → α → Prop} {s : Nat} : ∀ {cs : List Value} {xs : List α} (l h : Nat), h ≤ xs.length → cs.length = xs.length * s → RepAll R s cs xs → RepAll R s ((cs.take (h * s)).drop (l * s)) ((xs.take h).drop l)
 | cs, [], l, h, hh, hl, hr => by
  have e : cs = [] := hr
  subst e
  simp [RepAll]
 | cs, x :: xs, l, 0, hh, hl, hr => by simp [RepAll]
 | cs, x :: xs, 0, h + 1, hh, hl, hr => by
  simp only [List.length_cons, Nat.add_mul, Nat.one_mul] at hl
  have hh' : h ≤ xs.length := by simpa using hh
  have hm : h * s ≤ xs.length * s := Nat.mul_le_mul_right s hh'
  have ih := RepAll.take_drop 0 h hh' (cs := cs.drop s) (by simp; omega) hr.2
  simp only [Nat.zero_mul, List.drop_zero] at ih ⊢
  rw [List.take_succ_cons]
  refine ⟨?_, ?_⟩
  ·rw [List.take_take, Nat.add_mul, Nat.one_mul, Nat.min_eq_left (by omega)]; exact hr.1
  ·rw [List.drop_take, Nat.add_mul, Nat.one_mul, Nat.add_sub_cancel]; exact ih
 | cs, x :: xs, l + 1, h + 1, hh, hl, hr => by
  simp only [List.length_cons, Nat.add_mul, Nat.one_mul] at hl
  have hh' : h ≤ xs.length := by simpa using hh
  have ih := RepAll.take_drop l h hh' (cs := cs.drop s) (by simp; omega) hr.2
  rw [List.take_succ_cons, List.drop_succ_cons]
  rw [List.take_drop, List.drop_drop] at ih
  rw [Nat.add_mul, Nat.one_mul, Nat.add_mul, Nat.one_mul, Nat.add_comm (h * s) s, Nat.add_comm (l * s) s]
  exact ih
theorem BY (hD : DOk P D) (hM : MemOk P G w) {tx : TypeId} {x : Operand} {lo hi : Option Operand} (ho : o.op = .slice tx x lo hi none) {e : Ty} (ht : D.ty tx = some (.slc e)) {xs : List (den e)} (hx : aB P (.slc e) G.av w (a.eval x) xs) {l h : Int}
    (hl : (lo = none ∧ l = 0) ∨ ∃ q k, lo = some q ∧ a.eval q = .int k l) (hh : (hi = none ∧ h = ln xs) ∨ ∃ q k, hi = some q ∧ a.eval q = .int k h) (hc : bQ l h (ln xs)) : ak P o a G w tm (.val (.slc e) (kb xs l h)) [] := by
  obtain ⟨cs, ex, a0, c, L, rfl, h2, h3, h4, h5, h6, h7⟩ := hx
  have ex : a.eval x = .slice a0 xs.length c := ex
  obtain ⟨ei, hun, hte, hse⟩ := aY (hD.fit ht).shape
  have hsz := (hD.fit hte).sizeOf w
  have hc0 : 0 ≤ l := hc.1
  have hc1 : l ≤ h := hc.2.1
  have hc2 : h ≤ (xs.length : Int) := hc.2.2
  have hb := iU (P := P) (w := w) (isS := true) (len := xs.length) (cap := c) (lo := lo.map a.eval) (hi := hi.map a.eval) (l := l) (h := h)
    (kX hl) (kX hh) ⟨hc0, hc1, by omega⟩
  have hlen : (kb xs l h).length = h.toNat - l.toNat := by simp [kb]; omega
  have hmh : h.toNat * siz e ≤ xs.length * siz e := Nat.mul_le_mul_right _ (by omega)
  refine aC hM (v := .slice (if c = l.toNat then a0 else a0.map (·.add (l.toNat * siz e))) (h.toNat - l.toNat) (c - l.toNat)) ?_ ?_
  · simp only [execOp, ho, ex, Instr.sliceAt, Instr.slice, Sem.run_bind, run_underlying hun, Result.andThen_ok, Option.map_none, hb, hsz, Sem.run_pure]
  · refine ⟨[_], rfl, _, c - l.toNat, (L.take (h.toNat * siz e)).drop (l.toNat * siz e), by rw [hlen], by rw [hlen]; omega, by omega, ?_, h5.take_drop _ _ (by omega) h4, fun hne => ?_, fun h0 => ?_⟩
    · rw [hlen, List.length_drop, List.length_take, h4, Nat.min_eq_left hmh, Nat.sub_mul]
    · have hpos : 0 < (kb xs l h).length := List.length_pos_iff.2 hne
      rw [hlen] at hpos
      obtain ⟨ad, rfl, g1, g2, g3⟩ := h6 (by intro e0; rw [e0] at hc2; simp at hc2; omega)
      have hne' : c ≠ l.toNat := by omega
      have hls : (l.toNat + 1) * siz e ≤ xs.length * siz e := Nat.mul_le_mul_right _ (by omega)
      rw [Nat.add_mul, Nat.one_mul] at hls
      have hsp : ad.spot = none := zN (by omega) g3
      refine ⟨ad.add (l.toNat * siz e), by rw [if_neg hne']; rfl, by rw [dQ]; exact g1, by rw [dQ]; exact g2, fun j u hj => ?_⟩
      rw [vY _ _ _ hsp]
      refine g3 _ _ ?_
      rw [List.getElem?_drop, List.getElem?_take] at hj
      split at hj
      · exact hj
      · cases hj
    · split at h0
      · have := h7 h0; omega
      · cases a0 with
        | none => have := h7 rfl; omega
        | some ad => cases h0
theorem Jo (hD : DOk P D) (hM : MemOk P G w) {tx : TypeId} {x : Operand} {lo hi : Option Operand} (ho : o.op = .slice tx x lo hi none) {m : Nat} {e : Ty} (ht : D.ty tx = some (.arr m e)) {xs : List (den e)} (hx : KV P G w tm (.ref (.arr m e) xs) (a.eval x)) {l h : Int}
    (hl : (lo = none ∧ l = 0) ∨ ∃ q k, lo = some q ∧ a.eval q = .int k l) (hh : (hi = none ∧ h = (m : Int)) ∨ ∃ q k, hi = some q ∧ a.eval q = .int k h) (hc : bQ l h (m : Int)) : ak P o a G w tm (.val (.slc e) (kb xs l h)) [] := by
  obtain ⟨ad, ex, L, g1, g2, g3, hxl, h5⟩ := hx
  have hxl : xs.length = m := hxl
  obtain ⟨ei, hun, hte, hse, hm⟩ := sn (hD.fit ht).shape
  have hsz := (hD.fit hte).sizeOf w
  have hc0 : 0 ≤ l := hc.1
  have hc1 : l ≤ h := hc.2.1
  have hc2 : h ≤ (m : Int) := hc.2.2
  have h4 : L.length = xs.length * siz e := h5.length fun _ _ k => k.length
  have hb := iU (P := P) (w := w) (isS := false) (len := m) (cap := m) (lo := lo.map a.eval) (hi := hi.map a.eval) (l := l) (h := h)
    (kX hl) (kX hh) ⟨hc0, hc1, by omega⟩
  have hlen : (kb xs l h).length = h.toNat - l.toNat := by simp [kb]; omega
  have hmh : h.toNat * siz e ≤ xs.length * siz e := Nat.mul_le_mul_right _ (by omega)
  refine aC hM (v := .slice (some (if m = l.toNat then ad else ad.add (l.toNat * siz e))) (h.toNat - l.toNat) (m - l.toNat)) ?_ ?_
  · simp only [execOp, ho, ex, Instr.sliceAt, Instr.sureAddr, Sem.run_bind, run_underlying hun, Result.andThen_ok, Option.map_none, hb, hsz, Sem.run_pure]
  · refine ⟨[_], rfl, _, m - l.toNat, (L.take (h.toNat * siz e)).drop (l.toNat * siz e), by rw [hlen], by rw [hlen]; omega, by unfold maxLen; omega, ?_, h5.take_drop _ _ (by omega) h4, fun hne => ?_, fun h0 => by cases h0⟩
    · rw [hlen, List.length_drop, List.length_take, h4, Nat.min_eq_left hmh, Nat.sub_mul]
    · have hpos : 0 < (kb xs l h).length := List.length_pos_iff.2 hne
      rw [hlen] at hpos
      have hne' : m ≠ l.toNat := by omega
      have hls : (l.toNat + 1) * siz e ≤ xs.length * siz e := Nat.mul_le_mul_right _ (by omega)
      rw [Nat.add_mul, Nat.one_mul] at hls
      have hsp : ad.spot = none := zN (by omega) g3
      refine ⟨ad.add (l.toNat * siz e), by rw [if_neg hne'], by rw [dQ]; exact g1, by rw [dQ]; exact g2, fun j u hj => ?_⟩
      rw [vY _ _ _ hsp]
      refine g3 _ _ ?_
      rw [List.getElem?_drop, List.getElem?_take] at hj
      split at hj
      · exact hj
      · cases hj
theorem I4 (hD : DOk P D) (hM : MemOk P G w) {tx : TypeId} {x ho' mo : Operand} {lo : Option Operand} (ho : o.op = .slice tx x lo (some ho') (some mo)) {e : Ty} (ht : D.ty tx = some (.slc e)) {xs : List (den e)} (hx : aB P (.slc e) G.av w (a.eval x) xs) {l h m : Int}
    (hl : (lo = none ∧ l = 0) ∨ ∃ q k, lo = some q ∧ a.eval q = .int k l) (hh : ∃ k, a.eval ho' = .int k h) (hm : ∃ k, a.eval mo = .int k m) (e0 : l = 0) (e1 : h = m) (hc : bQ 0 h (ln xs)) : ak P o a G w tm (.clip e (kb xs 0 h)) [] := by
  obtain ⟨cs, ex, a0, c, L, rfl, h2, h3, h4, h5, h6, h7⟩ := hx
  have ex : a.eval x = .slice a0 xs.length c := ex
  obtain ⟨ei, hun, hte, hse⟩ := aY (hD.fit ht).shape
  have hsz := (hD.fit hte).sizeOf w
  have hc1 : 0 ≤ h := hc.2.1
  have hc2 : h ≤ (xs.length : Int) := hc.2.2
  subst e1
  obtain ⟨k1, eh⟩ := hh
  obtain ⟨k2, em⟩ := hm
  have hlen : (kb xs 0 h).length = h.toNat := by simp [kb]; omega
  have hmh : h.toNat * siz e ≤ xs.length * siz e := Nat.mul_le_mul_right _ (by omega)
  have hb : (Instr.sliceBounds true xs.length c (lo.map a.eval) (some (.int k1 h)) (some (.int k2 h))).run P w = .ok (0, h.toNat, h.toNat) w := by
    unfold Instr.sliceBounds
    have b1 := gU (P := P) (w := w) (k := k2) (n := h) (y := c) (code := .slice3Acap) (by omega)
    have b2 := gU (P := P) (w := w) (k := k1) (n := h) (y := h.toNat) (code := .slice3B) (by omega)
    rcases hl with ⟨rfl, _⟩ | ⟨q, k, rfl, eq⟩
    · simp [b1, b2]
    · subst e0
      have b3 := gU (P := P) (w := w) (k := k) (n := 0) (y := h.toNat) (code := .slice3C) (by omega)
      simp [b1, b2, eq, b3]
  refine aC hM (v := .slice (if h.toNat = 0 then a0 else a0.map (·.add (0 * siz e))) h.toNat h.toNat) ?_ ⟨?_, _, _, rfl⟩
  · simp only [execOp, ho, ex, Instr.sliceAt, Instr.slice, Sem.run_bind, run_underlying hun, Result.andThen_ok, Option.map_some, eh, em, hb, hsz, Sem.run_pure, Nat.sub_zero]
  · have ha : (if h.toNat = 0 then a0 else a0.map (·.add (0 * siz e))) = a0 := by
      split
      · rfl
      · cases a0 with
        | none => rfl
        | some ad => simp [Addr.add]
    rw [ha]
    refine ⟨[.slice a0 h.toNat h.toNat], rfl, a0, h.toNat, L.take (h.toNat * siz e), by rw [hlen], by rw [hlen]; exact Nat.le_refl _, by omega, ?_, ?_, fun hne => ?_, fun h0 => ?_⟩
    · rw [hlen, List.length_take, h4]; omega
    · have := h5.take_drop 0 h.toNat (by omega) h4
      simpa [kb] using this
    · have hpos : 0 < (kb xs 0 h).length := List.length_pos_iff.2 hne
      rw [hlen] at hpos
      obtain ⟨ad, rfl, g1, g2, g3⟩ := h6 (by intro e0; rw [e0] at hc2; simp at hc2; omega)
      exact ⟨ad, rfl, g1, g2, fun j u hj => g3 j u (by
        rw [List.getElem?_take] at hj
        split at hj
        · exact hj
        · cases hj)⟩
    · have := h7 h0
      omega
theorem Cm {r : Operand → K} (hr : ∀ x, KV P G w tm (r x) (a.eval x)) {e : Ty} (h1 : isAgg e = false → siz e = 1) : ∀ (parts : List (Nat × Operand)) (xs zs : List (den e)) (cs : Array Value),
    cs.size = xs.length * siz e → RepAll (Rep P e .cells G.av w) (siz e) cs.toList xs → o7 r e xs parts = some zs →
      ∃ cs', Instr.fill (fun i => some (i * siz e, siz e)) cs (parts.map fun (i, x) => (i, a.eval x)) = some cs' ∧ zs.length = xs.length ∧ cs'.size = cs.size ∧ RepAll (Rep P e .cells G.av w) (siz e) cs'.toList zs
  | [], xs, zs, cs, hl, hx, h => by
    have e0 : xs = zs := Option.some.inj h
    subst e0
    exact ⟨cs, rfl, rfl, rfl, hx⟩
  | (i, x0) :: l, xs, zs, cs, hl, hx, h => by
    simp only [o7] at h
    split at h
    · rename_i hi
      split at h
      · rename_i y hy
        obtain ⟨c, ev, hc⟩ := cu (hr x0) hy
        have hcl := hc.length
        have hcc : (a.eval x0).cells = c.toArray := by rw [ev]; exact bK hc.length h1 hc.oneCell
        have hm : (i + 1) * siz e ≤ xs.length * siz e := Nat.mul_le_mul_right _ hi
        rw [Nat.add_mul, Nat.one_mul] at hm
        have hf := zU (place := fun i => some (i * siz e, siz e)) (cells := cs) (i := i) (v := a.eval x0) (rest := l.map fun (i, x) => (i, a.eval x)) (off := i * siz e) (size := siz e) rfl (by rw [hcc, List.size_toArray, hcl]) (by omega)
        rw [hcc] at hf
        have hset := RepAll.set (R := Rep P e .cells G.av w) hcl hc hi (by rw [Array.length_toList, hl]) hx
        have hsl : (aw cs.toList (i * siz e) c).length = cs.size := by rw [eH (by rw [hcl, Array.length_toList]; omega), Array.length_toList]
        obtain ⟨cs', e1, e2, e3, e4⟩ := Cm hr h1 l (xs.set i y) zs (aw cs.toList (i * siz e) c).toArray (by rw [List.size_toArray, hsl, hl, List.length_set]) hset h
        exact ⟨cs', hf.trans e1, by rw [e2, List.length_set], by rw [e3, List.size_toArray, hsl], e4⟩
      · cases h
    · cases h
theorem CF {e : Ty} (hp : plain e = true) (n : Nat) : (List.replicate n (aQ e)).flatten.length = (List.replicate n (zero e)).length * siz e ∧ RepAll (Rep P e .cells G.av w) (siz e) (List.replicate n (aQ e)).flatten (List.replicate n (zero e)) :=
 ⟨by simp [bz], RepAll.replicate (bz e) (eN P G.av w e hp) n⟩
theorem J5 (hD : DOk P D) (hM : MemOk P G w) {te : TypeId} {parts : Array (Nat × Operand)} (ho : o.op = .build te parts) {n : Nat} {e : Ty} (ht : D.ty te = some (.arr n e)) {r : Operand → K} (hr : ∀ x, KV P G w tm (r x) (a.eval x)) {v : List (den e)} (hv : o7 r e (List.replicate n (zero e)) parts.toList = some v) :
    ak P o a G w tm (.val (.arr n e) v) [] := by
  have hfit := hD.fit ht
  obtain ⟨ei, hun, hte, hse⟩ := ja hfit.shape
  obtain ⟨z1, z2⟩ := CF (P := P) (G := G) (w := w) (show plain e = true from hfit.plain) n
  obtain ⟨cs', hf, hl, hs, hr'⟩ := Cm hr (eW (hD.fit hte)) parts.toList _ v (List.replicate n (aQ e)).flatten.toArray (by rw [List.size_toArray]; exact z1) z2 hv
  refine aC hM (v := .agg cs') ?_ ⟨cs'.toList, by simp [az, isAgg], by simpa using hl, hr'⟩
  have hzc : (az (.arr n e) (aQ (.arr n e))).cells = (List.replicate n (aQ e)).flatten.toArray := rfl
  have hsz := (hD.fit hte).sizeOf w
  simp only [execOp, ho, Instr.build, Sem.run_bind, hfit.zeroValue w, Result.andThen_ok, run_underlying hun, hsz, hzc, Array.toList_map, hf, Sem.run_pure]
theorem ye {z : List Value} : ∀ n : Nat, ((Array.range (n * z.length)).map (fun i => z.toArray[i % z.length]!)).toList = (List.replicate n z).flatten := by
 intro n
 rw [Array.toList_map, Array.toList_range]
 induction n with
 | zero => simp
 | succ n ih =>
  rw [List.replicate_succ', List.flatten_append, ← ih, Nat.add_mul, Nat.one_mul, List.range_add, List.map_append]
  congr 1
  rw [List.map_map]
  apply List.ext_getElem?
  intro j
  by_cases hj : j < z.length
  ·have : (n * z.length + j) % z.length = j := by rw [Nat.add_comm, Nat.add_mul_mod_self_right, Nat.mod_eq_of_lt hj]
   simp [hj, this]
  ·simp [hj]
theorem wn (hD : DOk P D) {t : TypeId} {n : Nat} {parts : Array (Nat × Operand)} {e : Ty} (ht : D.ty t = some (.slc e)) {r : Operand → K} (hr : ∀ x, KV P G w tm (r x) (a.eval x)) {v : List (den e)} (hn : ¬ 16777216 < n * siz e) (hv : o7 r e (List.replicate n (zero e)) parts.toList = some v) :
    ∃ cs eid, v.length = n ∧ cs.size = n * siz e ∧ RepAll (Rep P e .cells G.av w) (siz e) cs.toList v ∧ (Instr.buildSlice t n (parts.map fun (i, x) => (i, a.eval x))).run P w = .ok (.slice (some ⟨w.heap.size, 0, none⟩) n n) (w.alloc (.cells cs eid)) := by
  have hfit := hD.fit ht
  obtain ⟨ei, hun, hte, hse⟩ := aY hfit.shape
  have hpl : plain e = true := hfit.plain
  obtain ⟨z1, z2⟩ := CF (P := P) (G := G) (w := w) hpl n
  have hfe := hD.fit hte
  have h1 := eW hfe
  obtain ⟨cs', hf, hl, hs, hr'⟩ := Cm hr h1 parts.toList _ v (List.replicate n (aQ e)).flatten.toArray (by rw [List.size_toArray]; exact z1) z2 hv
  have hsz := hfe.sizeOf w
  have hs' : cs'.size = n * siz e := hs.trans (by rw [List.size_toArray, z1, List.length_replicate])
  refine ⟨cs', ei, by simpa using hl, hs', hr', ?_⟩
  have hzc : (az e (aQ e)).cells = (aQ e).toArray := bK (bz e) h1 (eN P G.av w e hpl).oneCell
  have hzl := bz e
  have hcells : (Array.range (n * siz e)).map (fun i => (if n * siz e = 0 then (#[] : Array Value) else (aQ e).toArray)[i % (if n * siz e = 0 then (#[] : Array Value) else (aQ e).toArray).size]!) = (List.replicate n (aQ e)).flatten.toArray := by
    apply Array.ext'
    rw [← ye n, hzl]
    by_cases h0 : n * siz e = 0
    · simp [h0]
    · simp [h0, hzl]
  have hn' : ¬ n * siz e > 2 ^ 24 := by omega
  by_cases h0 : n * siz e = 0
  · rw [if_pos h0] at hcells
    simp only [Instr.buildSlice, Sem.run_bind, run_underlying hun, Result.andThen_ok, hsz, Sem.run_ite, if_neg hn', if_pos h0, Sem.run_pure, hcells, Array.toList_map, hf, newRow, run_newObj]
    rfl
  · rw [if_neg h0] at hcells
    simp only [Instr.buildSlice, Sem.run_bind, run_underlying hun, Result.andThen_ok, hsz, Sem.run_ite, if_neg hn', if_neg h0, hfe.zeroValue w, hzc, Sem.run_pure, hcells, Array.toList_map, hf, newRow, run_newObj]
    rfl
theorem o4 (hM : MemOk P G w) {g : Nat} (h : G.av g) : g < w.heap.size := by
 rcases h with h | ⟨id, x, hb, hk⟩
 ·exact hM.old g h
 ·exact (fK hM hb hk).1
theorem B8 (hD : DOk P D) (hM : MemOk P G w) {t : TypeId} {n : Nat} {parts : Array (Nat × Operand)} (ho : o.op = .buildSlice t n parts) {e : Ty} (ht : D.ty t = some (.slc e)) {r : Operand → K} (hr : ∀ x, KV P G w tm (r x) (a.eval x)) {v : List (den e)} (hn : ¬ 16777216 < n * siz e) (hv : o7 r e (List.replicate n (zero e)) parts.toList = some v) :
    ak P o a G w tm (.val (.slc e) v) [] := by
  obtain ⟨cs, eid, hl, hs, hR, hrun⟩ := wn hD ht hr hn hv
  have hk := Kept.alloc w (.cells cs eid)
  obtain ⟨hM', hE⟩ := hM.kept_on hk
  have hlat := hE.lat
  obtain ⟨_, _, _, hse⟩ := aY (hD.fit ht).shape
  have hnm : n ≤ maxLen := by
    have : n * 1 ≤ n * siz e := Nat.mul_le_mul_left _ hse
    unfold maxLen
    omega
  refine bp (v := .slice (some ⟨w.heap.size, 0, none⟩) n n) (w' := w.alloc (.cells cs eid)) (G' := G) ?_ rfl hE hM' ?_
  · simp only [execOp, ho, Sem.run_bind, hrun, Result.andThen_ok, Sem.run_pure]
  · refine ⟨[.slice (some ⟨w.heap.size, 0, none⟩) n n], rfl, some ⟨w.heap.size, 0, none⟩, n, cs.toList, by rw [hl], by rw [hl]; exact Nat.le_refl _, hnm, by rw [hl, Array.length_toList, hs], hR.imp fun _ _ q => q.lat hlat, fun _ => ⟨_, rfl, fun h => ?_, by simp, fun j u hj => ?_⟩, fun h => by cases h⟩
    · exact absurd (o4 hM h) (Nat.lt_irrefl _)
    · rw [cS, Nat.zero_add, cell_of_row _ w.heap.size j cs eid (0, 0) (je w _)]
      simpa using hj
theorem CU (hD : DOk P D) (hM : MemOk P G w) {t : TypeId} {n : Nat} {parts : Array (Nat × Operand)} (ho : o.op = .buildSlice t n parts) {e : Ty} (ht : D.ty t = some (.slc e)) {r : Operand → K} (hr : ∀ x, KV P G w tm (r x) (a.eval x)) {v : List (den e)} (hn : ¬ 16777216 < n * siz e) (hv : o7 r e (List.replicate n (zero e)) parts.toList = some v) {id : Nat} (hf : aX G.b id = true) :
    ak P o a G w tm (.sl id e) [(id, .live (.row e v))] := by
  obtain ⟨cs, eid, hl, hs, hR, hrun⟩ := wn hD ht hr hn hv
  have hk := Kept.alloc w (.cells cs eid)
  obtain ⟨_, _, _, hse⟩ := aY (hD.fit ht).shape
  have hnm : n ≤ maxLen := by
    have : n * 1 ≤ n * siz e := Nat.mul_le_mul_left _ hse
    unfold maxLen
    omega
  have hadd := hM.add (P := P) hk (id := id) (g := w.heap.size) (h := .slice (some ⟨w.heap.size, 0, none⟩) n n) (x := .row e v) (bP hf) (Nat.le_refl _) (fun G' hE hh hb _ =>
    .inr ⟨w.heap.size, cs, eid, 0, [], hb, by rw [hh, List.append_nil, hl], by unfold Gst.nb; rw [hE.w0]; exact .inl hM.kept.size, .of (je w _), by rw [List.append_nil, hl]; exact hnm, by rw [List.append_nil, hl, hs]; omega, by
      rw [List.append_nil, List.drop_zero, hl, ← hs, ← Array.length_toList, List.take_length]
      exact hR.imp fun _ _ q => q.lat hE.lat⟩)
  refine bp (v := .slice (some ⟨w.heap.size, 0, none⟩) n n) ?_ rfl hadd.2 hadd.1 ⟨⟨.row e v, .inl (by simp [Gst.add])⟩, by simp [Gst.add]⟩
  simp only [execOp, ho, Sem.run_bind, hrun, Result.andThen_ok, Sem.run_pure]
end
end Go.Proofs.Ytimdnodkabnbfaa
namespace Go.Proofs.Ytimdnodkabnbfaa
open Go Go.RowKit
section
variable {P : Program} {D : aK} {o : Oper} {a : Act} {G : Gst} {w : World} {tm : Nat → Value}
theorem dR {c : Call} {b : Builtin} (ho : o.op = .call c) (hc : c.callee = .builtin b) : (execOp a.eval o).run P w = (builtin b c.argTypes o.type (c.args.map fun | .const _ => true | _ => false) (c.args.map a.eval)).run P w := by
 simp only [execOp, ho, resolve, hc, invoke, Sem.run_bind, Sem.run_pure, Result.andThen_ok]
 rfl
theorem DG (hM : MemOk P G w) {id : Nat} {e : Ty} {xs : List (den e)} (hb : G.b id = .live (.row e xs)) : ∃ a0 c, G.hd id = .slice a0 xs.length c ∧ xs.length ≤ c ∧ c ≤ maxLen := by
 rcases hM.box id _ hb with ⟨rfl, _, a0, h⟩ | ⟨g, arr, eid, off, sp, _, h, _, _, h6, _⟩
 ·exact ⟨a0, 0, h, Nat.le_refl _, Nat.zero_le _⟩
 ·exact ⟨_, _, h, by simp, h6⟩
theorem Qf (hD : DOk P D) (hM : MemOk P G w) {c : Call} (ho : o.op = .call c) (hc : c.callee = .builtin .len) {x : Operand} (hx : c.args.toList = [x]) {at0 : TypeId} (h0 : c.argTypes[0]? = some at0) {t : Ty} (ht : D.ty at0 = some t) {k : K} (hk : KV P G w tm k (a.eval x)) {n : Int} (hn : x9 G.b t k = some n) :
    ak P o a G w tm (.val ae n) [] := by
  have hargs : c.args.map a.eval = #[a.eval x] := by
    apply Array.ext'
    rw [Array.toList_map, hx]
    rfl
  have hrun := dR (P := P) (w := w) (a := a) ho hc
  rw [hargs] at hrun
  have fin : ∀ m : Nat, m ≤ maxLen → n = (m : Int) → (Builtin.len_ c.argTypes o.type #[a.eval x]).run P w = .ok (.int .i64 m) w → ak P o a G w tm (.val ae n) [] := by
    intro m hm e hr
    subst e
    refine aC hM (v := .int .i64 m) ?_ (bj.2 ⟨rfl, ?_⟩)
    · rw [hrun]
      simp only [builtin, Sem.run_bind, hr, Result.andThen_ok, Sem.run_pure]
    · have e1 : IntKind.i64.min = -9223372036854775808 := rfl
      have e2 : IntKind.i64.max = 9223372036854775807 := rfl
      unfold maxLen at hm
      exact ⟨by omega, by omega⟩
  unfold x9 at hn
  split at hn
  · rename_i s
    obtain ⟨e, hs⟩ := mn.1 hk
    have hu := gg (hD.fit ht).shape
    exact fin s.size hs (Option.some.inj hn).symm (by simp [Builtin.len_, h0, run_underlying hu, e, goInt])
  · rename_i e xs
    obtain ⟨cs, ev, a0, c0, L, rfl, h2, h3, _⟩ := hk
    obtain ⟨_, hu, _⟩ := aY (hD.fit ht).shape
    have ev : a.eval x = .slice a0 (List.length xs) c0 := ev
    exact fin (List.length xs) (Nat.le_trans h2 h3) (Option.some.inj hn).symm (by simp [Builtin.len_, h0, run_underlying hu, ev, goInt])
  · rename_i e xs
    obtain ⟨⟨cs, ev, a0, c0, L, rfl, h2, h3, _⟩, _⟩ := hk
    obtain ⟨_, hu, _⟩ := aY (hD.fit ht).shape
    have ev : a.eval x = .slice a0 (List.length xs) c0 := ev
    exact fin (List.length xs) (Nat.le_trans h2 h3) (Option.some.inj hn).symm (by simp [Builtin.len_, h0, run_underlying hu, ev, goInt])
  · obtain ⟨_, hu, _⟩ := aY (hD.fit ht).shape
    have ev : a.eval x = .slice none 0 0 := hk
    exact fin 0 (Nat.zero_le _) (Option.some.inj hn).symm (by simp [Builtin.len_, h0, run_underlying hu, ev, goInt])
  · split at hn
    · rename_i xs hb
      obtain ⟨a0, c0, eh, h2, h3⟩ := DG hM (aq hb)
      obtain ⟨_, hu, _⟩ := aY (hD.fit ht).shape
      have ev : a.eval x = .slice a0 xs.length c0 := by rw [← eh]; exact hk.2
      exact fin xs.length (Nat.le_trans h2 h3) (Option.some.inj hn).symm (by simp [Builtin.len_, h0, run_underlying hu, ev, goInt])
    · cases hn
  · rename_i m _ _ _ _
    have hf := hD.fit ht
    obtain ⟨_, hu, _, hse, hm⟩ := sn hf.shape
    exact fin m (by unfold maxLen; omega) (Option.some.inj hn).symm (by simp [Builtin.len_, h0, run_underlying hu, goInt])
  · cases hn
theorem PC {kx ky k : K} {vx vy : Value} (hx : KV P G w tm kx vx) (hy : KV P G w tm ky vy) (h : Ie kx ky = some k) : ∃ v, (Builtin.min2 vx vy).run P w = .ok v w ∧ KV P G w tm k v := by
 unfold Ie at h
 split at h
 ·rename_i k1 x k2 y
  split at h
  ·rename_i e
   subst e
   have e := (Option.some.inj h).symm
   subst e
   obtain ⟨rfl, ix⟩ := bj.1 hx
   obtain ⟨rfl, iy⟩ := bj.1 hy
   refine ⟨.int k1 (cO x y), by simp only [Builtin.min2, cO, Sem.run_pure], bj.2 ⟨rfl, ?_⟩⟩
   unfold cO
   split
   ·exact iy
   ·exact ix
  ·cases h
 ·cases h
theorem OT {kx ky k : K} {vx vy : Value} (hx : KV P G w tm kx vx) (hy : KV P G w tm ky vy) (h : IZ kx ky = some k) : ∃ v, (Builtin.max2 vx vy).run P w = .ok v w ∧ KV P G w tm k v := by
 unfold IZ at h
 split at h
 ·rename_i k1 x k2 y
  split at h
  ·rename_i e
   subst e
   have e := (Option.some.inj h).symm
   subst e
   obtain ⟨rfl, ix⟩ := bj.1 hx
   obtain ⟨rfl, iy⟩ := bj.1 hy
   refine ⟨.int k1 (s4 x y), by simp only [Builtin.max2, s4, Sem.run_pure], bj.2 ⟨rfl, ?_⟩⟩
   unfold s4
   split
   ·exact iy
   ·exact ix
  ·cases h
 ·cases h
theorem B7 {f : K → K → Option K} {m : Value → Value → Sem Value} (hf : ∀ {kx ky k : K} {vx vy : Value}, KV P G w tm kx vx → KV P G w tm ky vy → f kx ky = some k → ∃ v, (m vx vy).run P w = .ok v w ∧ KV P G w tm k v) {r : Operand → K} (hr : ∀ x, KV P G w tm (r x) (a.eval x)) :
    ∀ (l : List Operand) (k0 k : K) (v0 : Value), KV P G w tm k0 v0 → AX f k0 (l.map r) = some k → ∃ v, ((l.map a.eval).foldlM m v0).run P w = .ok v w ∧ KV P G w tm k v
  | [], k0, k, v0, h0, h => by
    have e : k0 = k := Option.some.inj h
    subst e
    exact ⟨v0, by simp, h0⟩
  | x :: l, k0, k, v0, h0, h => by
    simp only [List.map_cons, AX] at h
    split at h
    · rename_i k1 h1
      obtain ⟨v1, e1, hv1⟩ := hf h0 (hr x) h1
      obtain ⟨v, e, hv⟩ := B7 hf hr l k1 k v1 hv1 h
      refine ⟨v, ?_, hv⟩
      simp only [List.map_cons, List.foldlM_cons, Sem.run_bind, e1, Result.andThen_ok, e]
    · cases h
theorem HM (hM : MemOk P G w) {c : Call} (ho : o.op = .call c) {mx : Bool} (hc : c.callee = .builtin (if mx then .max else .min)) {x : Operand} {l : List Operand} (hx : c.args.toList = x :: l) {r : Operand → K} (hr : ∀ x, KV P G w tm (r x) (a.eval x)) {k : K} (hk : AX (if mx then IZ else Ie) (r x) (l.map r) = some k) :
    ak P o a G w tm k [] := by
  have hrun := dR (P := P) (w := w) (a := a) ho hc
  have hl : (c.args.map a.eval).toList = a.eval x :: l.map a.eval := by rw [Array.toList_map, hx]; rfl
  cases mx with
  | true =>
    obtain ⟨v, e, hv⟩ := B7 (f := IZ) (m := Builtin.max2) (fun h1 h2 h3 => OT h1 h2 h3) hr l (r x) k (a.eval x) (hr x) hk
    refine aC hM (v := v) ?_ hv
    rw [hrun]
    simp only [if_true, builtin, Builtin.max_, hl, Sem.run_bind, e, Result.andThen_ok, Sem.run_pure]
  | false =>
    obtain ⟨v, e, hv⟩ := B7 (f := Ie) (m := Builtin.min2) (fun h1 h2 h3 => PC h1 h2 h3) hr l (r x) k (a.eval x) (hr x) hk
    refine aC hM (v := v) ?_ hv
    rw [hrun]
    simp only [Bool.false_eq_true, if_false, builtin, Builtin.min_, hl, Sem.run_bind, e, Result.andThen_ok, Sem.run_pure]
def Gst.swap (G : Gst) (j : Option Nat) (id : Nat) (h : Value) (g : Option Nat) (x : Bx) : Gst :=
 { G with hd := fun n => if n = id then h else G.hd n, bk := fun n => if n = id then g else G.bk n, b := fun n => if n = id then .live x else if some n = j then .dead else G.b n }
theorem MemOk.swapE {w' : World} (hM : MemOk P G w) {j : Option Nat} {id : Nat} {h : Value} {g : Option Nat} {x : Bx} {gj : Option Nat} (hid : G.b id = .no) (hj : ∀ i, j = some i → (∃ y, G.b i = .live y) ∧ G.bk i = gj) (hj0 : j = none → gj = none)
    (hos : w'.os = w.os) (htape : Tp w w') (hout : w'.output = w.output) (hsize : w.heap.size ≤ w'.heap.size) (hsame : ∀ b, b < w.heap.size → some b ≠ gj → w'.heap[b]? = w.heap[b]?)
    (hg : g = none ∨ g = gj ∨ ∃ n, g = some n ∧ w.heap.size ≤ n)
    (hx : ∀ G', G' = G.swap j id h g x → G.Ext w G' w' → G'.hd id = h → G'.bk id = g → fE P G' w' id x) :
    MemOk P (G.swap j id h g x) w' ∧ G.Ext w (G.swap j id h g x) w' := by
  have hgj : ∀ b, gj = some b → G.av b ∧ G.nb b := fun b hb => by
    cases j with
    | none => rw [hj0 rfl] at hb; cases hb
    | some i =>
      obtain ⟨⟨y, hy⟩, hk⟩ := hj i rfl
      rw [hb] at hk
      exact ⟨.inr ⟨i, y, hy, hk⟩, (fK hM hy hk).2⟩
  have hgjO : ∀ b, gj = some b → ¬ G.O b := fun b hb => by
    cases j with
    | none => rw [hj0 rfl] at hb; cases hb
    | some i =>
      obtain ⟨⟨y, hy⟩, hk⟩ := hj i rfl
      rw [hb] at hk
      exact hM.boxO i y b hy hk
  have hav : ∀ b, b < w.heap.size → ¬ G.av b → ¬ (G.swap j id h g x).av b := by
    intro b hb hn
    rintro (hO | ⟨i, z, hi, hk⟩)
    · exact hn (.inl hO)
    · by_cases e : i = id
      · subst e
        simp [Gst.swap] at hk
        rcases hg with rfl | rfl | ⟨n, rfl, hn'⟩
        · cases hk
        · exact hn (hgj b hk).1
        · cases hk; omega
      · by_cases e' : some i = j
        · simp [Gst.swap, e, e'] at hi
        · simp [Gst.swap, e, e'] at hi hk
          exact hn (.inr ⟨i, z, hi, hk⟩)
  have hl : Lat G.av w (G.swap j id h g x).av w' := ⟨hsize, fun b hb hn => ⟨hsame b hb (fun e => hn (hgj b e.symm).1), hav b hb hn⟩⟩
  have hkept : uV G.own G.w0 w' := ⟨hos.trans hM.kept.os, htape.trans hM.kept.tape, hout.trans hM.kept.output, Nat.le_trans hM.kept.size hsize, fun b hb ho => by
    rw [hsame b (Nat.lt_of_lt_of_le hb hM.kept.size) (fun e => (hgj b e.symm).2.elim (fun h => by omega) ho)]; exact hM.kept.block b hb ho⟩
  have hE : G.Ext w (G.swap j id h g x) w' := ⟨hl, fun i hi => by
    have e : i ≠ id := fun e => hi (by rw [e]; exact hid)
    refine ⟨by simp [Gst.swap, e], by simp [Gst.swap, e], ?_⟩
    by_cases e' : some i = j
    · simp [Gst.swap, e, e']
    · simpa [Gst.swap, e, e'] using hi, ⟨fun _ h => h, fun _ h => .inl h⟩, rfl, rfl, fun b hO hb => hsame b hb (fun e => hgjO b e.symm hO)⟩
  refine ⟨⟨hkept, fun g h => Nat.lt_of_lt_of_le (hM.old g h) hsize, hM.dis, fun i z hi => ?_, fun i i' z z' b hi hi' ki ki' => ?_, fun i z b hi ki hO => ?_⟩, hE⟩
  rotate_right
  · by_cases e : i = id
    · subst e
      have ki : g = some b := by simpa [Gst.swap] using ki
      rcases hg with h | h | ⟨n, h, hn⟩
      · rw [h] at ki; cases ki
      · exact hgjO b (h ▸ ki) hO
      · rw [h] at ki; cases ki; have := hM.old b hO; omega
    · by_cases e' : some i = j
      · simp [Gst.swap, e, e'] at hi
      · exact hM.boxO i z b (by simpa [Gst.swap, e, e'] using hi) (by simpa [Gst.swap, e] using ki) hO
  · by_cases e : i = id
    · subst e
      have : z = x := by simp [Gst.swap] at hi; exact hi.symm
      subst this
      exact hx _ rfl hE (by simp [Gst.swap]) (by simp [Gst.swap])
    · by_cases e' : some i = j
      · simp [Gst.swap, e, e'] at hi
      · have hi' : G.b i = .live z := by simpa [Gst.swap, e, e'] using hi
        refine (hM.box i z hi').keep hE (by simp [Gst.swap, e]) (by simp [Gst.swap, e]) (fun b hb => hsame b (fK hM hi' hb).1 (fun hb' => ?_))
        cases j with
        | none => rw [hj0 rfl] at hb'; cases hb'
        | some i2 =>
          obtain ⟨⟨y, hy⟩, hk2⟩ := hj i2 rfl
          exact e' (by rw [hM.sep i i2 z y b hi' hy hb (by rw [hk2]; exact hb'.symm)])
  ·
    have own : ∀ i z b, (G.swap j id h g x).b i = .live z → (G.swap j id h g x).bk i = some b → (i = id ∧ g = some b) ∨ (i ≠ id ∧ some i ≠ j ∧ G.b i = .live z ∧ G.bk i = some b) := by
      intro i z b hi ki
      by_cases e : i = id
      · subst e; exact .inl ⟨rfl, by simpa [Gst.swap] using ki⟩
      · by_cases e' : some i = j
        · simp [Gst.swap, e, e'] at hi
        · exact .inr ⟨e, e', by simpa [Gst.swap, e, e'] using hi, by simpa [Gst.swap, e] using ki⟩
    have apart : ∀ i z b, some i ≠ j → G.b i = .live z → G.bk i = some b → g = some b → False := by
      intro i z b hne hb hk hg'
      rcases hg with h0 | h0 | ⟨n, h0, hn⟩
      · rw [h0] at hg'; cases hg'
      · rw [h0] at hg'
        cases j with
        | none => rw [hj0 rfl] at hg'; cases hg'
        | some i2 =>
          obtain ⟨⟨y, hy⟩, hk2⟩ := hj i2 rfl
          exact hne (by rw [hM.sep i i2 z y b hb hy hk (by rw [hk2]; exact hg')])
      · rw [h0] at hg'
        cases hg'
        have := (fK hM hb hk).1
        omega
    rcases own i z b hi ki with ⟨e, hgb⟩ | ⟨_, e', hb, hk⟩ <;> rcases own i' z' b hi' ki' with ⟨f, hgb'⟩ | ⟨_, f', hb', hk'⟩
    · rw [e, f]
    · exact (apart i' z' b f' hb' hk' hgb).elim
    · exact (apart i z b e' hb hk hgb').elim
    · exact hM.sep i i' z z' b hb hb' hk hk'
theorem MemOk.swap {w' : World} (hM : MemOk P G w) {j : Option Nat} {id : Nat} {h : Value} {g : Option Nat} {x : Bx} {gj : Option Nat} (hid : G.b id = .no) (hj : ∀ i, j = some i → (∃ y, G.b i = .live y) ∧ G.bk i = gj) (hj0 : j = none → gj = none)
    (hos : w'.os = w.os) (htape : Tp w w') (hout : w'.output = w.output) (hsize : w.heap.size ≤ w'.heap.size) (hsame : ∀ b, b < w.heap.size → some b ≠ gj → w'.heap[b]? = w.heap[b]?)
    (hg : g = none ∨ g = gj ∨ ∃ n, g = some n ∧ w.heap.size ≤ n)
    (hx : ∀ G', G.Ext w G' w' → G'.hd id = h → G'.bk id = g → fE P G' w' id x) :
    MemOk P (G.swap j id h g x) w' ∧ G.Ext w (G.swap j id h g x) w' :=
  hM.swapE hid hj hj0 hos htape hout hsize hsame hg fun G' _ => hx G'
theorem lx (hD : DOk P D) {t ty : TypeId} {e : Ty} (ht : D.ty t = some (.slc e)) {a0 b0 : Option Addr} {n c c' : Nat} (hn : n ≤ c) : (Builtin.append_ #[t, t] ty #[.slice a0 n c, .slice b0 0 c']).run P w = .ok (.slice a0 n c) w := by
 obtain ⟨ei, hu, hte, _⟩ := aY (hD.fit ht).shape
 have hsz := (hD.fit hte).sizeOf w
 cases a0 <;> cases b0 <;> simp [Builtin.append_, run_underlying hu, hsz, Builtin.lenOf, hn, Builtin.firstCells, loadCells, loadCellsFrom, storeCells]
theorem j9 {z : List Value} (n : Nat) : (Builtin.zeroCells z.toArray n).toList = (List.replicate n z).flatten := by
 unfold Builtin.zeroCells
 exact ye n
theorem pT (hD : DOk P D) {t ty : TypeId} {e : Ty} (ht : D.ty t = some (.slc e)) {a0 : Option Addr} {n c m c' : Nat} {ad : Addr} {L0 L1 : List Value} (hl0 : L0.length = n * siz e) (h0 : L0 ≠ [] → ∃ ad0, a0 = some ad0 ∧ ∀ j u, L0[j]? = some u → w.cell? (ad0.add j) = some u)
    (ha0 : a0 = none → n = 0 ∧ c = 0) (hl1 : L1.length = m * siz e) (h1 : ∀ j u, L1[j]? = some u → w.cell? (ad.add j) = some u) (hm : 0 < m) (hg : c < n + m) (hb : n + m ≤ bV) :
    ∃ eid cap Z, n + m ≤ cap ∧ cap ≤ maxLen ∧ Z.toList = (List.replicate (cap - (n + m)) (aQ e)).flatten ∧ (Builtin.append_ #[t, t] ty #[.slice a0 n c, .slice (some ad) m c']).run P w = .ok (.slice (some ⟨w.heap.size, 0, none⟩) (n + m) cap) (w.drew.alloc (.cells (L0.toArray ++ L1.toArray ++ Z) eid)) := by
  obtain ⟨ei, hu, hte, _⟩ := aY (hD.fit ht).shape
  have hfe := hD.fit hte
  obtain ⟨i, z, hi, hs, hby, hz, ez⟩ := hfe.info
  have hzc : z.cells = (aQ e).toArray := by rw [ez]; exact bK (bz e) (eW hfe) (eN P (fun _ => False) w e (by have := (hD.fit ht).plain; exact this)).oneCell
  have hbytes : (n + m) * i.bytes ≤ 140737488355328 := Nat.le_trans (Nat.mul_le_mul hb hby) (by decide)
  have h63 : ((n + m : Nat) : Int) ≤ 9223372036854775807 := by unfold bV at hb; omega
  have hml : n + m ≤ maxLen := by unfold maxLen; unfold bV at hb; omega
  cases a0 with
  | none =>
    obtain ⟨rfl, rfl⟩ := ha0 rfl
    have e0 : L0 = [] := List.eq_nil_of_length_eq_zero (by simpa using hl0)
    subst e0
    have hr := run_append_nil (P := P) w t ty ei i z hu hi hz ad m c' L1 (by rw [hs]; exact hl1) h1 hm (by simpa using h63) (by have := hbytes; simp only [Nat.zero_add] at this; omega)
    refine ⟨ei, grownCap w m 0 ei, Builtin.zeroCells z.cells (grownCap w m 0 ei - m), by simpa using grownCap_ge w m 0 ei, grownCap_le_maxLen w m 0 ei (by simpa using hml), ?_, ?_⟩
    · rw [hzc, j9, Nat.zero_add]
    · rw [Nat.zero_add, hr]; simp
  | some ad0 =>
    have holds : ∀ j u, L0[j]? = some u → w.cell? (ad0.add j) = some u := by
      intro j u hj
      obtain ⟨ad0', e, hh⟩ := h0 (by rintro rfl; simp at hj)
      cases e
      exact hh j u hj
    have hr := run_append_grow (P := P) w t ty ei i z hu hi hz ad0 n c L0 (by rw [hs]; exact hl0) holds ad m c' L1 (by rw [hs]; exact hl1) h1 hg h63 (growslice_fits hg hbytes)
    refine ⟨ei, grownCap w (n + m) c ei, Builtin.zeroCells z.cells (grownCap w (n + m) c ei - (n + m)), grownCap_ge w (n + m) c ei, grownCap_le_maxLen w (n + m) c ei hml, ?_, hr⟩
    rw [hzc, j9]
theorem C8 (hD : DOk P D) {t ty : TypeId} {e : Ty} (ht : D.ty t = some (.slc e)) {g n c m c' : Nat} {ad : Addr} {L1 : List Value} {arr : Array Value} {eid : TypeId} (hg : RowObj e w.heap[g]? arr eid) {off : Nat} (hs : off + c * siz e ≤ arr.size)
    (hl1 : L1.length = m * siz e) (h1 : ∀ j u, L1[j]? = some u → w.cell? (ad.add j) = some u) (ho : ∀ u ∈ L1, u.oneCell' = true) (hc : n + m ≤ c) :
    (Builtin.append_ #[t, t] ty #[.slice (some ⟨g, off, none⟩) n c, .slice (some ad) m c']).run P w = .ok (.slice (some ⟨g, off, none⟩) (n + m) c) (w.setRow g (aw arr.toList (off + n * siz e) L1).toArray) := by
  obtain ⟨ei, hu, hte, _⟩ := aY (hD.fit ht).shape
  have hsz := (hD.fit hte).sizeOf w
  have hf := run_firstCells_some (P := P) w (siz e) m ad m c' L1 hl1 h1
  have hle : (n + m) * siz e ≤ c * siz e := Nat.mul_le_mul_right _ hc
  rw [Nat.add_mul] at hle
  obtain ⟨fz, hg, hfz⟩ := hg.far
  have hst := io P g (off + n * siz e) eid fz L1 0 arr w hg hfz (by rw [hl1]; omega) ho
  simp only [Nat.add_zero] at hst
  have hadd : (⟨g, off, none⟩ : Addr).add (n * siz e) = ⟨g, off + n * siz e, none⟩ := by rw [cS]
  simp [Builtin.append_, run_underlying hu, hsz, Builtin.lenOf, hc, hf, hadd, hst, aw]
end
end Go.Proofs.Ytimdnodkabnbfaa
namespace Go.Proofs.Ytimdnodkabnbfaa
open Go Go.RowKit
section
variable {P : Program} {D : aK} {o : Oper} {a : Act} {G : Gst} {w : World} {tm : Nat → Value}
structure Src (P : Program) (av : Nat → Prop) (w : World) (e : Ty) (v : Value) (ys : List (den e)) : Prop where
 of : ∃ b0 c L, v = .slice b0 ys.length c ∧ L.length = ys.length * siz e ∧ RepAll (Rep P e .cells av w) (siz e) L ys ∧ (ys ≠ [] → ∃ ad, b0 = some ad ∧ ∀ j u, L[j]? = some u → w.cell? (ad.add j) = some u)
theorem BW {e : Ty} {v : Value} {ys : List (den e)} (h : aB P (.slc e) G.av w v ys) : Src P G.av w e v ys := by
 obtain ⟨cs, ev, b0, c, L, rfl, h2, h3, h4, h5, h6, _⟩ := h
 exact ⟨b0, c, L, ev, h4, h5, fun hne => let ⟨ad, e1, _, _, hc⟩ := h6 hne; ⟨ad, e1, hc⟩⟩
theorem Lf (hM : MemOk P G w) {k : K} {v : Value} {e : Ty} {ys : List (den e)} (hk : KV P G w tm k v) (h : s6 G.b e k = some ys) : Src P G.av w e v ys := by
 unfold s6 at h
 split at h
 ·rename_i id e0
  split at h
  ·rename_i e' xs hb
   split at h
   ·rename_i ee
    subst ee
    have eh := (Option.some.inj h).symm
    subst eh
    obtain ⟨_, ev⟩ := hk
    have hbl := aq hb
    rcases hM.box id _ hbl with ⟨rfl, _, a0, hh⟩ | ⟨g, arr, eid, off, sp, h1, hh, h3, h4, h6, h7, h8⟩
    ·exact ⟨a0, 0, [], by rw [ev, hh]; rfl, by simp, rfl, fun hne => absurd rfl hne⟩
    ·obtain ⟨hcl, hcr, _⟩ := qw h8 h7
     exact ⟨some ⟨g, off, none⟩, (ys ++ sp).length, (arr.toList.drop off).take (ys.length * siz e'), by rw [ev, hh], hcl, hcr, fun _ => ⟨_, rfl, fun j u hj => tI h4 j u hj⟩⟩
   ·cases h
  ·cases h
 ·exact BW (cu hk h)
theorem RepAll.append {α : Type} {R : List Value → α → Prop} {s : Nat} {M : List Value} {ys : List α} : ∀ {L : List Value} {xs : List α}, L.length = xs.length * s → RepAll R s L xs → RepAll R s M ys → RepAll R s (L ++ M) (xs ++ ys)
 | L, [], _, h, hm => by
  have e : L = [] := h
  subst e
  exact hm
 | L, x :: xs, hl, h, hm => by
  simp only [List.length_cons, Nat.add_mul, Nat.one_mul] at hl
  refine ⟨?_, ?_⟩
  ·rw [List.take_append_of_le_length (by omega)]; exact h.1
  ·rw [List.drop_append_of_le_length (by omega)]; exact RepAll.append (by simp; omega) h.2 hm
theorem p4 {e : Ty} {L : List Value} {ys : List (den e)} (h : RepAll (Rep P e .cells G.av w) (siz e) L ys) : ∀ u ∈ L, u.oneCell' = true := vm (fun _ _ k => k.oneCell) h
theorem o9 {c : Call} (ho : o.op = .call c) (hc : c.callee = .builtin .append) {x y : Operand} (hx : c.args.toList = [x, y]) {t : TypeId} (h0 : c.argTypes = #[t, t]) {v : Value} {w' : World} (hr : (Builtin.append_ #[t, t] o.type #[a.eval x, a.eval y]).run P w = .ok v w') : (execOp a.eval o).run P w = .ok (.value v) w' := by
 have hrun := dR (P := P) (w := w) (a := a) ho hc
 have hargs : c.args.map a.eval = #[a.eval x, a.eval y] := by
  apply Array.ext'
  rw [Array.toList_map, hx]
  rfl
 rw [hrun, hargs, h0]
 simp only [builtin, Sem.run_bind, hr, Result.andThen_ok, Sem.run_pure]
theorem wd {eid : TypeId} {e : Ty} {n m cap : Nat} {L0 L1 : List Value} {Z : Array Value} {xs ys : List (den e)} (hM : MemOk P G w) (hl0 : L0.length = xs.length * siz e) (hl1 : L1.length = ys.length * siz e) (hn : n = xs.length) (hm : m = ys.length)
    (h0 : RepAll (Rep P e .cells G.av w) (siz e) L0 xs) (h1 : RepAll (Rep P e .cells G.av w) (siz e) L1 ys) (hpl : plain e = true) (hc : n + m ≤ cap) (hml : cap ≤ maxLen) (hz : Z.toList = (List.replicate (cap - (n + m)) (aQ e)).flatten) {id : Nat} :
    ∀ G', G.Ext w G' (w.drew.alloc (.cells (L0.toArray ++ L1.toArray ++ Z) eid)) → G'.hd id = .slice (some ⟨w.heap.size, 0, none⟩) (n + m) cap → G'.bk id = some w.heap.size →
      fE P G' (w.drew.alloc (.cells (L0.toArray ++ L1.toArray ++ Z) eid)) id (.row e (xs ++ ys)) := by
  intro G' hE hh hb
  have hl := hE.lat
  subst hn; subst hm
  have hzl : Z.toList.length = (cap - (xs.length + ys.length)) * siz e := by rw [hz]; simp [bz]
  have hcap : ((xs ++ ys) ++ List.replicate (cap - (xs.length + ys.length)) (zero e)).length = cap := by simp; omega
  have hsum : xs.length * siz e + ys.length * siz e + (cap - (xs.length + ys.length)) * siz e = cap * siz e := by rw [← Nat.add_mul, ← Nat.add_mul]; congr 1; omega
  refine .inr ⟨w.heap.size, _, eid, 0, List.replicate (cap - (xs.length + ys.length)) (zero e), hb, by rw [hh, List.length_append, hcap], by unfold Gst.nb; rw [hE.w0]; exact .inl hM.kept.size, .of (heap_alloc_new w.drew _), by rw [hcap]; exact hml, ?_, ?_⟩
  · rw [hcap, Nat.zero_add]
    simp only [Array.size_append, List.size_toArray, hl0, hl1]
    rw [← Array.length_toList, hzl]
    omega
  · rw [hcap]
    simp only [Array.toList_append, List.append_assoc, List.drop_zero]
    rw [List.take_of_length_le (by simp only [List.length_append, hl0, hl1, hzl]; omega), ← List.append_assoc, ← List.append_assoc]
    refine RepAll.imp (fun _ _ r => r.lat hl) (RepAll.append (by rw [List.length_append, List.length_append, hl0, hl1, Nat.add_mul]) (RepAll.append hl0 h0 h1) ?_)
    rw [hz]
    exact RepAll.replicate (bz e) (eN P _ _ e hpl) _
theorem IQ (hD : DOk P D) (hM : MemOk P G w) {c : Call} (ho : o.op = .call c) (hc : c.callee = .builtin .append) {x y : Operand} (hx : c.args.toList = [x, y]) {t : TypeId} (h0 : c.argTypes = #[t, t]) {e : Ty} (ht : D.ty t = some (.slc e))
    {j : Nat} {e1 : Ty} (hkx : KV P G w tm (.sl j e1) (a.eval x)) {xs ys : List (den e)} (hb : ao G.b j = some (.row e xs)) (hs : Src P G.av w e (a.eval y) ys) {id : Nat} (hf : aX G.b id = true) (hlen : (xs ++ ys).length ≤ bV) :
    ak P o a G w tm (.sl id e) [(j, .dead), (id, .live (.row e (xs ++ ys)))] := by
  have hbl := aq hb
  have hid := bP hf
  have hne : id ≠ j := fun e => by rw [e, hbl] at hid; cases hid
  obtain ⟨_, ex⟩ := hkx
  obtain ⟨b0, c', L1, ey, hl1, hr1, hc1⟩ := hs
  rw [List.length_append] at hlen
  have fin : ∀ (h : Value) (g : Option Nat) (w' : World), (Builtin.append_ #[t, t] o.type #[a.eval x, a.eval y]).run P w = .ok h w' → w'.os = w.os → Tp w w' → w'.output = w.output → w.heap.size ≤ w'.heap.size → (∀ b, b < w.heap.size → some b ≠ G.bk j → w'.heap[b]? = w.heap[b]?) →
      (g = none ∨ g = G.bk j ∨ ∃ n, g = some n ∧ w.heap.size ≤ n) → (∀ G', G.Ext w G' w' → G'.hd id = h → G'.bk id = g → fE P G' w' id (.row e (xs ++ ys))) →
      ak P o a G w tm (.sl id e) [(j, .dead), (id, .live (.row e (xs ++ ys)))] := by
    intro h g w' hr h1 h2 h3 h4 h5 h6 h7
    obtain ⟨hM', hE⟩ := hM.swap (j := some j) (id := id) (h := h) (g := g) (x := .row e (xs ++ ys)) (gj := G.bk j) hid (fun i hi => by cases hi; exact ⟨⟨_, hbl⟩, rfl⟩) (fun h => by cases h) h1 h2 h3 h4 h5 h6 h7
    refine bp (o9 ho hc hx h0 hr) ?_ hE hM' ⟨⟨.row e (xs ++ ys), .inl (by simp [Gst.swap])⟩, by simp [Gst.swap]⟩
    funext n
    by_cases e1 : n = id
    · simp [Gst.swap, aG, e1]
    · by_cases e2 : n = j
      · simp [Gst.swap, aG, e2]
      · simp [Gst.swap, aG, e1, e2]
  have hpl : plain e = true := (hD.fit ht).plain
  rcases hM.box j _ hbl with ⟨rfl, hk, a0, hh⟩ | ⟨g, arr, eid, off, sp, hk, hh, hw0, hg, h6, h7, h8⟩
  ·
    rw [hh] at ex
    have ex : a.eval x = .slice a0 0 0 := ex
    by_cases hy : ys = []
    · subst hy
      have hr := lx (P := P) (w := w) (ty := o.type) hD ht (a0 := a0) (b0 := b0) (n := 0) (c := 0) (c' := c') (Nat.le_refl _)
      refine fin (.slice a0 0 0) none w (by rw [ex, ey]; exact hr) rfl (.refl w) rfl (Nat.le_refl _) (fun _ _ _ => rfl) (.inl rfl) (fun G' hl e1 e2 => .inl ⟨rfl, e2, a0, e1⟩)
    · obtain ⟨ad, rfl, hcell⟩ := hc1 hy
      have hm : 0 < ys.length := List.length_pos_iff.2 hy
      obtain ⟨eid, cap, Z, g1, g2, g3, hr⟩ := pT (P := P) (w := w) (ty := o.type) hD ht (a0 := a0) (n := 0) (c := 0) (c' := c') (L0 := []) (by simp) (fun h => absurd rfl h) (fun _ => ⟨rfl, rfl⟩) hl1 hcell hm (by omega) (by simpa using hlen)
      refine fin (.slice (some ⟨w.heap.size, 0, none⟩) (0 + ys.length) cap) (some w.heap.size) (w.drew.alloc (.cells (([] : List Value).toArray ++ L1.toArray ++ Z) eid)) (by rw [ex, ey]; exact hr) rfl ⟨rfl, fun _ => Nat.le_succ _⟩ rfl (by simp) (fun b hb _ => Below.heap_alloc w.drew _ b hb) (.inr (.inr ⟨_, rfl, Nat.le_refl _⟩)) ?_
      exact wd (L0 := []) (xs := []) hM (by simp) hl1 rfl rfl rfl hr1 hpl g1 g2 g3
  · rw [hh] at ex
    obtain ⟨hl0, hr0, hle0⟩ := qw h8 h7
    by_cases hy : ys = []
    · subst hy
      have hr := lx (P := P) (w := w) (ty := o.type) hD ht (a0 := some ⟨g, off, none⟩) (b0 := b0) (n := xs.length) (c := (xs ++ sp).length) (c' := c') (by simp)
      refine fin _ (some g) w (by rw [ex, ey]; exact hr) rfl (.refl w) rfl (Nat.le_refl _) (fun _ _ _ => rfl) (.inr (.inl hk.symm)) (fun G' hl e1 e2 => .inr ⟨g, arr, eid, off, sp, e2, by rw [e1, List.append_nil], by unfold Gst.nb; rw [hl.w0, hl.own]; exact hw0, hg, by rw [List.append_nil]; exact h6, by rw [List.append_nil]; exact h7, ?_⟩)
      rw [List.append_nil]
      exact h8.imp fun _ _ r => r.lat hl.lat
    · obtain ⟨ad, rfl, hcell⟩ := hc1 hy
      have hm : 0 < ys.length := List.length_pos_iff.2 hy
      have hA : arr.toList.length = arr.size := Array.length_toList
      by_cases hroom : xs.length + ys.length ≤ (xs ++ sp).length
      · have hr := C8 (P := P) (w := w) (ty := o.type) hD ht hg h7 hl1 hcell (p4 hr1) hroom (c' := c')
        have hyl : ys.length ≤ sp.length := by rw [List.length_append] at hroom; omega
        have hcap : ((xs ++ ys) ++ sp.drop ys.length).length = (xs ++ sp).length := by simp only [List.length_append, List.length_drop]; omega
        have hmul : xs.length * siz e + ys.length * siz e ≤ (xs ++ sp).length * siz e := by rw [← Nat.add_mul]; exact Nat.mul_le_mul_right _ hroom
        have hfull : ((arr.toList.drop off).take ((xs ++ sp).length * siz e)).length = (xs ++ sp).length * siz e := by rw [List.length_take, List.length_drop, hA]; omega
        refine fin (.slice (some ⟨g, off, none⟩) (xs.length + ys.length) (xs ++ sp).length) (some g) (w.setRow g (aw arr.toList (off + xs.length * siz e) L1).toArray) (by rw [ex, ey]; exact hr) rfl (.same rfl rfl) rfl (by simp) (fun b _ hb' => setRow_other w g b _ (fun e => hb' (by rw [hk, e]))) (.inr (.inl hk.symm)) (fun G' hl e1 e2 => .inr ⟨g, (aw arr.toList (off + xs.length * siz e) L1).toArray, eid, off, sp.drop ys.length, e2, by rw [e1, hcap]; congr 1; exact List.length_append.symm, by unfold Gst.nb; rw [hl.w0, hl.own]; exact hw0, RowObj.set hg (by rw [List.size_toArray, eH (by rw [hl1, hA]; omega), hA]), by rw [hcap]; exact h6, ?_, ?_⟩)
        · rw [List.size_toArray, eH (by rw [hl1, hA]; omega), hA, hcap]; exact h7
        · show RepAll _ _ (((aw arr.toList (off + xs.length * siz e) L1).drop off).take (((xs ++ ys) ++ sp.drop ys.length).length * siz e)) _
          have hsp := (RepAll.split h8 hfull).2
          have hsp2 := (RepAll.split (xs := sp.take ys.length) (ys := sp.drop ys.length) (by rw [List.take_append_drop]; exact hsp) (by rw [List.take_append_drop, List.length_drop, hfull, List.length_append, Nat.add_mul]; omega)).2
          rw [List.length_take, Nat.min_eq_left hyl] at hsp2
          have e3 : ((aw arr.toList (off + xs.length * siz e) L1).drop off).take ((xs ++ sp).length * siz e) = ((arr.toList.drop off).take (xs.length * siz e) ++ L1) ++ (((arr.toList.drop off).take ((xs ++ sp).length * siz e)).drop (xs.length * siz e)).drop (ys.length * siz e) := by
            apply List.ext_getElem?
            intro i
            simp only [aw, List.append_assoc, List.getElem?_take, List.getElem?_append, List.length_take, List.getElem?_drop, List.length_drop, hA, hl1]
            clear hsp hsp2 h8 hr0 hfull
            generalize (xs ++ sp).length * siz e = N at *
            generalize xs.length * siz e = A at *
            generalize ys.length * siz e = B at *
            have m1 : min (off + A) arr.size = off + A := by omega
            have m2 : min A (arr.size - off) = A := by omega
            rw [m1, m2]
            repeat' split
            all_goals first
              | rfl
              | (exfalso; omega)
              | (congr 1; omega)
              | (rw [eq_comm, List.getElem?_eq_none_iff]; rw [hl1]; omega)
              | (rw [List.getElem?_eq_none_iff]; rw [hl1]; omega)
          rw [hcap, e3]
          exact (RepAll.append (by rw [List.length_append, List.length_append, hl0, hl1, Nat.add_mul]) (RepAll.append hl0 hr0 hr1) hsp2).imp fun _ _ r => r.lat hl.lat
      · obtain ⟨eid', cap', Z, g1, g2, g3, hr⟩ := pT (P := P) (w := w) (ty := o.type) hD ht (a0 := some ⟨g, off, none⟩) (n := xs.length) (c := (xs ++ sp).length) (c' := c') (L0 := (arr.toList.drop off).take (xs.length * siz e)) hl0
          (fun _ => ⟨_, rfl, fun j u hj => tI hg j u hj⟩) (fun h => by cases h) hl1 hcell hm (by omega) hlen
        refine fin (.slice (some ⟨w.heap.size, 0, none⟩) (xs.length + ys.length) cap') (some w.heap.size) (w.drew.alloc (.cells (((arr.toList.drop off).take (xs.length * siz e)).toArray ++ L1.toArray ++ Z) eid')) (by rw [ex, ey]; exact hr) rfl ⟨rfl, fun _ => Nat.le_succ _⟩ rfl (by simp) (fun b hb _ => Below.heap_alloc w.drew _ b hb) (.inr (.inr ⟨_, rfl, Nat.le_refl _⟩)) ?_
        exact wd hM hl0 hl1 rfl rfl hr0 hr1 hpl g1 g2 g3
theorem yQ (hD : DOk P D) (hM : MemOk P G w) {c : Call} (ho : o.op = .call c) (hc : c.callee = .builtin .append) {x y : Operand} (hx : c.args.toList = [x, y]) {t : TypeId} (h0 : c.argTypes = #[t, t]) {e : Ty} (ht : D.ty t = some (.slc e))
    {xs ys : List (den e)} (hkx : KV P G w tm (.clip e xs) (a.eval x)) (hs : Src P G.av w e (a.eval y) ys) {id : Nat} (hf : aX G.b id = true) (hlen : (xs ++ ys).length ≤ bV) (hne : xs = [] ∨ ys ≠ []) :
    ak P o a G w tm (.sl id e) [(id, .live (.row e (xs ++ ys)))] := by
  have hid := bP hf
  obtain ⟨⟨cs, ex, a0, cc, L0, rfl, x2, x3, x4, x5, x6, x7⟩, ac, nc, ex'⟩ := hkx
  have ex : a.eval x = .slice a0 xs.length cc := ex
  rw [ex] at ex'
  injection ex' with e1 e2 e3
  obtain ⟨b0, c', L1, ey, hl1, hr1, hc1⟩ := hs
  rw [List.length_append] at hlen
  have hcc : cc = xs.length := by omega
  have fin : ∀ (h : Value) (g : Option Nat) (w' : World), (Builtin.append_ #[t, t] o.type #[a.eval x, a.eval y]).run P w = .ok h w' → w'.os = w.os → Tp w w' → w'.output = w.output → w.heap.size ≤ w'.heap.size → (∀ b, b < w.heap.size → w'.heap[b]? = w.heap[b]?) →
      (g = none ∨ ∃ n, g = some n ∧ w.heap.size ≤ n) → (∀ G', G.Ext w G' w' → G'.hd id = h → G'.bk id = g → fE P G' w' id (.row e (xs ++ ys))) →
      ak P o a G w tm (.sl id e) [(id, .live (.row e (xs ++ ys)))] := by
    intro h g w' hr h1 h2 h3 h4 h5 h6 h7
    obtain ⟨hM', hE⟩ := hM.swap (j := none) (id := id) (h := h) (g := g) (x := .row e (xs ++ ys)) (gj := none) hid (fun i hi => by cases hi) (fun _ => rfl) h1 h2 h3 h4 (fun b hb _ => h5 b hb) (h6.elim .inl (fun h => .inr (.inr h))) h7
    refine bp (o9 ho hc hx h0 hr) ?_ hE hM' ⟨⟨.row e (xs ++ ys), .inl (by simp [Gst.swap])⟩, by simp [Gst.swap]⟩
    funext n
    by_cases e1 : n = id
    · simp [Gst.swap, aG, e1]
    · simp [Gst.swap, aG, e1]
  by_cases hy : ys = []
  · subst hy
    have hxn : xs = [] := hne.resolve_right (fun h => h rfl)
    subst hxn
    have hcc : cc = 0 := hcc
    subst hcc
    have hr := lx (P := P) (w := w) (ty := o.type) hD ht (a0 := a0) (b0 := b0) (n := 0) (c := 0) (c' := c') (Nat.le_refl _)
    exact fin (.slice a0 0 0) none w (by rw [ex, ey]; exact hr) rfl (.refl w) rfl (Nat.le_refl _) (fun _ _ => rfl) (.inl rfl) (fun G' hl e1 e2 => .inl ⟨rfl, e2, a0, e1⟩)
  · obtain ⟨ad, rfl, hcell⟩ := hc1 hy
    have hm : 0 < ys.length := List.length_pos_iff.2 hy
    obtain ⟨eid, cap, Z, g1, g2, g3, hr⟩ := pT (P := P) (w := w) (ty := o.type) hD ht (a0 := a0) (n := xs.length) (c := cc) (c' := c') (L0 := L0) x4
      (fun h => by
        have hxne : xs ≠ [] := by rintro rfl; exact h (List.eq_nil_of_length_eq_zero (by simpa using x4))
        obtain ⟨ad0, q1, _, _, q4⟩ := x6 hxne
        exact ⟨ad0, q1, q4⟩)
      (fun h => ⟨by have := x7 h; omega, x7 h⟩) hl1 hcell hm (by omega) hlen
    refine fin (.slice (some ⟨w.heap.size, 0, none⟩) (xs.length + ys.length) cap) (some w.heap.size) (w.drew.alloc (.cells (L0.toArray ++ L1.toArray ++ Z) eid)) (by rw [ex, ey]; exact hr) rfl ⟨rfl, fun _ => Nat.le_succ _⟩ rfl (by simp) (fun b hb => Below.heap_alloc w.drew _ b hb) (.inr ⟨_, rfl, Nat.le_refl _⟩) ?_
    exact wd hM x4 hl1 rfl rfl x5 hr1 (hD.fit ht).plain g1 g2 g3
theorem Lr {e : Ty} {v : Value} (h : KV P G w tm .nilsl v) : KV P G w tm (.clip e []) v :=
 ⟨⟨[.slice none 0 0], h, none, 0, [], rfl, Nat.le_refl _, Nat.zero_le _, by simp, rfl, fun h => absurd rfl h, fun _ => rfl⟩, none, 0, h⟩
theorem ol {r : Operand → K} (hr : ∀ x, KV P G w tm (r x) (a.eval x)) : ∀ (t : Ty) (l : List Operand) (x : den t), dE t (l.map r) = some x → Rep P t .chain G.av w (l.map a.eval) x
 | .unit, [], _, _ => rfl
 | .unit, _ :: _, _, h => by cases h
 | .pair t b, [], _, h => by cases h
 | .pair t b, q :: l, x, h => by
  have h' : (match bt t (r q), dE b (l.map r) with | some x, some y => some (x, y) | _, _ => none) = some x := h
  split at h'
  ·rename_i x1 x2 h1 h2
   have e := (Option.some.inj h').symm
   subst e
   obtain ⟨cs, ev, hc⟩ := cu (hr q) h1
   exact ⟨l.map a.eval, cs, by rw [List.map_cons, ev], hc, ol hr b l x2 h2⟩
  ·cases h'
 | .int _, [], _, h => by cases h
 | .bool, [], _, h => by cases h
 | .str, [], _, h => by cases h
 | .st _, [], _, h => by cases h
 | .arr _ _, [], _, h => by cases h
 | .slc _, [], _, h => by cases h
 | .fn _ _, [], _, h => by cases h
 | .ref _, [], _, h => by cases h
 | .int _, _ :: _, _, h => by cases h
 | .bool, _ :: _, _, h => by cases h
 | .str, _ :: _, _, h => by cases h
 | .st _, _ :: _, _, h => by cases h
 | .arr _ _, _ :: _, _, h => by cases h
 | .slc _, _ :: _, _, h => by cases h
 | .fn _ _, _ :: _, _, h => by cases h
 | .ref _, _ :: _, _, h => by cases h
theorem Pk {w' : World} : ∀ {t : Ty} {x : den t} {v : Value}, Rep P t .result G.av w' [v] x → KV P G w' tm (vP t x) v
 | .pair t .unit, x, v, h => by
  obtain ⟨rest, cs, e, h1, h2⟩ := h
  have e' : v = az t cs := by simpa using e
  exact PJ ⟨cs, e', h1⟩
 | .pair t (.pair b c), x, v, h => by
  obtain ⟨rest, cs, e, h1, h2⟩ := h
  have e' : v = .tuple (az t cs :: rest).toArray := by simpa using e
  exact ⟨_, e', rest, cs, rfl, h1, h2⟩
 | .pair _ (.int _), _, _, _ => trivial
 | .pair _ .bool, _, _, _ => trivial
 | .pair _ .str, _, _, _ => trivial
 | .pair _ (.st _), _, _, _ => trivial
 | .pair _ (.arr _ _), _, _, _ => trivial
 | .pair _ (.slc _), _, _, _ => trivial
 | .pair _ (.fn _ _), _, _, _ => trivial
 | .pair _ (.ref _), _, _, _ => trivial
 | .pair _ (.clo _ _), _, _, _ => trivial
 | .unit, _, _, _ => trivial
 | .int _, _, _, h => h.elim
 | .bool, _, _, h => h.elim
 | .str, _, _, h => h.elim
 | .st _, _, _, h => h.elim
 | .arr _ _, _, _, h => h.elim
 | .slc _, _, _, h => h.elim
 | .fn _ _, _, _, h => h.elim
 | .ref _, _, _, h => h.elim
theorem rW (hM : MemOk P G w) {f : FuncId} {args : Array Value} (hrun : (execOp a.eval o).run P w = .ok (.enter f args) w) {rs : Ty} {y : den rs}
    (hc : Calls P f args w fun e w' => ∃ v, e = .returned v ∧ Kept w w' ∧ Rep P rs .result G.av w' [v] y) : ak P o a G w tm (vP rs y) [] := by
  intro next Q h
  unfold Oper.wp
  rw [hrun]
  refine hc.mono ?_
  rintro e w' ⟨v, rfl, hk, hr⟩
  obtain ⟨hM', hE⟩ := hM.kept_on hk
  exact h G w' v rfl hE hM' (Pk hr)
theorem P0 (hD : DOk P D) (hM : MemOk P G w) (hgl : GlobOk P D.G G.av w) {c : Call} (ho : o.op = .call c) {f : FuncId} (hc : c.callee = .value (.func f)) {S : bq} (hS : D.F.lookup f = some S) {r : Operand → K} (hr : ∀ x, KV P G w tm (r x) (a.eval x)) {x : den S.as} (hx : dE S.as (c.args.toList.map r) = some x) (hp : S.pre x) :
    ak P o a G w tm (vP S.rs (S.g x)) [] := by
  have hok := hD.fns f S hS
  refine rW (f := f) (args := (c.args.toList.map a.eval).toArray) hM ?_ (hok.does G.av w _ x (fun g h => o4 hM h) hgl (ol hr _ _ _ hx) hp)
  have e : c.args.map a.eval = (c.args.toList.map a.eval).toArray := by apply Array.ext'; simp
  simp only [execOp, ho, resolve, hc, Act.eval, Deferred.ofValue, Sem.run_bind, Sem.run_pure, Result.andThen_ok, invoke, Array.append_empty, Array.empty_append]
  rw [e]
  exact hok.can _ _
theorem OO (hM : MemOk P G w) {c : Call} (ho : o.op = .call c) {q : Operand} (hc : c.callee = .value q) {as rs : Ty} {g : den (.fn as rs)} (hq : KV P G w tm (.val (.fn as rs) g) (a.eval q)) {r : Operand → K} (hr : ∀ x, KV P G w tm (r x) (a.eval x)) {x : den as} (hx : dE as (c.args.toList.map r) = some x) (hn : Li (a := as) (r := rs) g) :
    ak P o a G w tm (vP rs (Hc (a := as) (r := rs) g x)) [] := by
  obtain ⟨g, rfl⟩ := hn
  obtain ⟨cs, ev, f, captured, rfl, hcan, hdo⟩ := hq
  have ev : a.eval q = .func (.func f) #[] captured := ev
  have := hdo G.av w (Lat.refl _ _) (fun g h => o4 hM h) _ x (ol hr _ _ _ hx)
  refine rW (f := f) (args := (c.args.toList.map a.eval).toArray ++ captured) hM ?_ this
  have e : c.args.map a.eval = (c.args.toList.map a.eval).toArray := by apply Array.ext'; simp
  simp only [execOp, ho, resolve, hc, ev, Deferred.ofValue, Sem.run_bind, Sem.run_pure, Result.andThen_ok, invoke, Array.empty_append]
  rw [e]
  exact hcan _ _
theorem Es {r : Operand → K} (hr : ∀ x, KV P G w tm (r x) (a.eval x)) : ∀ (n : Nat) (as : Ty) (l : List Operand) (a' : Ty) (h : den a' → den as), wM n as (l.map r) = some ⟨a', h⟩ →
    ∀ O' w', Lat G.av w O' w' → ∀ vs y, Rep P a' .chain O' w' vs y → Rep P as .chain O' w' (vs ++ l.map a.eval) (h y)
  | 0, as, l, a', h, hc => by
    have hc : (match dE as (l.map r) with | some x => some (⟨.unit, fun _ => x⟩ : (a : Ty) × (den a → den as)) | none => none) = some ⟨a', h⟩ := by
      cases as <;> exact hc
    split at hc
    · rename_i x hx
      have e := Option.some.inj hc
      cases e
      intro O' w' hl vs y hy
      have e : vs = [] := hy
      subst e
      exact (ol hr as l x hx).lat hl
    · cases hc
  | n + 1, .pair p b, l, a', h, hc => by
    have hc : (match wM n b (l.map r) with | some ⟨a, h⟩ => some (⟨.pair p a, fun y => (y.1, h y.2)⟩ : (a : Ty) × (den a → den (.pair p b))) | none => none) = some ⟨a', h⟩ := hc
    split at hc
    · rename_i a1 h1 hx
      have e := Option.some.inj hc
      cases e
      intro O' w' hl vs y hy
      obtain ⟨rest, cs, e, q1, q2⟩ := hy
      subst e
      exact ⟨_, cs, rfl, q1, Es hr n b l a1 h1 hx O' w' hl rest y.2 q2⟩
    · cases hc
  | _ + 1, .int _, _, _, _, h => by cases h
  | _ + 1, .bool, _, _, _, h => by cases h
  | _ + 1, .str, _, _, _, h => by cases h
  | _ + 1, .unit, _, _, _, h => by cases h
  | _ + 1, .st _, _, _, _, h => by cases h
  | _ + 1, .arr _ _, _, _, _, h => by cases h
  | _ + 1, .slc _, _, _, _, h => by cases h
  | _ + 1, .fn _ _, _, _, _, h => by cases h
  | _ + 1, .ref _, _, _, _, h => by cases h
theorem KU (hD : DOk P D) (hM : MemOk P G w) (hgl : GlobOk P D.G G.av w) {f : FuncId} {first captured : Array Operand} (ho : o.op = .makeFunc (.func f) first captured) (h0 : first.size = 0) {S : bq} (hS : D.F.lookup f = some S) {r : Operand → K} (hr : ∀ x, KV P G w tm (r x) (a.eval x)) {n : Nat} {a' : Ty} {h : den a' → den S.as} (hc : wM n S.as (captured.toList.map r) = some ⟨a', h⟩) (hp : ∀ y, S.pre (h y)) :
    ak P o a G w tm (.val (.fn a' S.rs) (some fun y => S.g (h y))) [] := by
  have e0 : first = #[] := Array.size_eq_zero_iff.1 h0
  have e : captured.map a.eval = (captured.toList.map a.eval).toArray := by apply Array.ext'; simp
  refine aC hM (v := .func (.func f) #[] (captured.toList.map a.eval).toArray) ?_ ⟨[.func (.func f) #[] (captured.toList.map a.eval).toArray], rfl, ?_⟩
  · simp only [execOp, ho, Instr.makeFunc, Sem.run_bind, Sem.run_pure, Result.andThen_ok, e0, e, List.map_toArray, List.map_nil, Array.map_empty]
  · exact Kp (captured := captured.toList.map a.eval) (hD.fns f S hS) hgl hp (fun O' w' hl vs y hy => by simpa using Es hr n S.as captured.toList a' h hc O' w' hl vs y hy)
end
end Go.Proofs.Ytimdnodkabnbfaa
