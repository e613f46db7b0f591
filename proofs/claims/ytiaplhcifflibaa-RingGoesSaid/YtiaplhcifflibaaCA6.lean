/- Part 6 of 8 of what this claim's proof stands on: a theory of programs on data, and the contracts of the functions that the law reaches. It holds no condition of its own. -/
import Derived.Test.YtiaplhcifflibaaCA5
import Derived.AtR
import Derived.RangeFuncRecord
import Derived.RangeFuncLeaves
import Derived.RangeFuncNested
import Derived.ProofKit
import Derived.OpenShut
import Derived.ShutString
import Derived.ChangeOld
namespace Go.Proofs.Ytiaplhcifflibaa
open Go Go.RowKit
structure XOk (P : Program) (X : bv) : Prop where
 D : bM P X.D
 ht : cU X.D = true
 inl : ∀ f fx, X.inl.lookup f = some fx → P.funcs[f]? = some fx.fn ∧ fx.fn.body.isSome = true ∧ dF P f ∧ fx.ro = none
theorem XOk.at {P : Program} {X : bv} (h : XOk P X) (fx : Fx) : bM P (X.at fx) := ⟨⟨h.D.tab, h.D.fns, h.D.mixed⟩, h.D.rows, h.D.ovl⟩
section
variable {P : Program} {X : bv} {D : ar} {o : Oper} {a : Act} {G : Gst} {w : World} {tm : Nat → Value}
theorem nP {b : Nat → BS} {σ : List (Nat × Nat)} : ∀ {τ : List (Nat × Nat)} {bs : List (Nat × Bx)}, kL b σ τ = some bs → ∀ {j : Nat} {x : Bx}, bs.lookup j = some x → ∃ i y, inv τ j = some i ∧ b i = .live y ∧ x = qB σ y
 | [], bs, h, j, x, hl => by
  have e := Option.some.inj h
  subst e
  cases hl
 | (i0, j0) :: τ, bs, h, j, x, hl => by
  simp only [kL] at h
  split at h
  ·rename_i y r hy hr
   have e := (Option.some.inj h).symm
   subst e
   rw [List.lookup_cons] at hl
   unfold inv
   rw [List.map_cons, List.lookup_cons]
   split at hl
   ·rename_i e
    rw [e]
    have e' : qB σ y = x := by simpa using hl
    exact ⟨i0, y, rfl, ak hy, e'.symm⟩
   ·rename_i e
    have e : (j == j0) = false := by simpa using e
    rw [e]
    exact nP hr hl
  ·cases h
theorem rv {b : Nat → BS} {σ : List (Nat × Nat)} : ∀ {τ : List (Nat × Nat)} {bs : List (Nat × Bx)}, kL b σ τ = some bs → ∀ {i j : Nat}, (i, j) ∈ τ → ∃ x, bs.lookup j = some x
 | [], bs, h, i, j, hm => by cases hm
 | (i0, j0) :: τ, bs, h, i, j, hm => by
  simp only [kL] at h
  split at h
  ·rename_i y r hy hr
   have e := (Option.some.inj h).symm
   subst e
   rw [List.lookup_cons]
   split
   ·exact ⟨_, rfl⟩
   ·rename_i hne
    rcases List.mem_cons.1 hm with hm | hm
    ·injection hm with _ e2
     subst e2
     simp at hne
    ·exact rv hr hm
  ·cases h
structure Ren (G G' : Gst) (w : World) (σ : List (Nat × Nat)) : Prop where
 lat : Lat G.av w G'.av w
 hd : ∀ i j, σ.lookup i = some j → G'.hd j = G.hd i ∧ G'.bk j = G.bk i ∧ ∃ x, G'.b j = .live x
theorem KV.ren {G' : Gst} {σ : List (Nat × Nat)} (h : Ren G G' w σ) : ∀ {k : K} {v : Value}, KV P G w tm k v → KV P G' w tm (cr σ k) v := by
 intro k
 induction k with
 | any => intro v _; trivial
 | nilsl => intro v hv; exact hv
 | val t x => intro v hv; exact an.lat h.lat hv
 | clip e xs => intro v hv; exact ⟨an.lat h.lat hv.1, hv.2⟩
 | grd s c cs k ih => intro v _; trivial
 | opt cs k ih => intro v _; trivial
 | tup t x => intro v _; trivial
 | ref t x => intro v hv; obtain ⟨ad, e, hr⟩ := hv; exact ⟨ad, e, hr.lat h.lat⟩
 | ptr id base p =>
  intro v hv
  simp only [cr]
  split
  ·rename_i j hj
   obtain ⟨_, hp, g, hg, e⟩ := hv
   obtain ⟨e1, e2, x, e3⟩ := h.hd id j hj
   exact ⟨⟨x, .inl e3⟩, hp, g, by rw [e2]; exact hg, by rw [e1]; exact e⟩
  ·trivial
 | sl id e =>
  intro v hv
  simp only [cr]
  split
  ·rename_i j hj
   obtain ⟨e1, e2, x, e3⟩ := h.hd id j hj
   exact ⟨⟨x, .inl e3⟩, by rw [e1]; exact hv.2⟩
  ·trivial
 | fnc f => intro v hv; exact hv
 | knil => intro v hv; exact hv
 | kcons a b iha ihb => intro v hv; obtain ⟨x, xs, e, h1, h2⟩ := hv; exact ⟨x, xs, e, iha h1, ihb h2⟩
 | agg b c ih => intro v hv; obtain ⟨vs, h1, h2, e⟩ := hv; exact ⟨vs, ih h1, h2, e⟩
 | clo f c ih => intro v hv; obtain ⟨vs, h1, e⟩ := hv; exact ⟨vs, ih h1, e⟩
 | vw id e lo n =>
  intro v hv
  simp only [cr]
  split
  ·rename_i j hj
   obtain ⟨_, a, len, cap, h1, h2⟩ := hv
   obtain ⟨e1, e2, x, e3⟩ := h.hd id j hj
   exact ⟨⟨x, .inl e3⟩, a, len, cap, by rw [e1]; exact h1, h2⟩
  ·trivial
 | sel c a b iha ihb => intro v hv; exact ⟨fun hc => iha (hv.1 hc), fun hc => ihb (hv.2 hc)⟩
 | pm id =>
  intro v hv
  simp only [cr]
  split
  ·rename_i j hj
   obtain ⟨_, g, hg, e⟩ := hv
   obtain ⟨e1, e2, x, e3⟩ := h.hd id j hj
   exact ⟨⟨x, .inl e3⟩, g, by rw [e2]; exact hg, e⟩
  ·trivial
 | nilmp => intro v hv; exact hv
 | ifc t k ih => intro v hv; obtain ⟨u, e, h1⟩ := hv; exact ⟨u, e, ih h1⟩
 | nilif => intro v hv; exact hv
 | yld id =>
  intro v hv
  simp only [cr]
  split
  ·rename_i j hj
   obtain ⟨_, g, hg, e⟩ := hv
   obtain ⟨e1, e2, x, e3⟩ := h.hd id j hj
   exact ⟨⟨x, .inl e3⟩, g, by rw [e2]; exact hg, e⟩
  ·trivial
 | lit b => intro v hv; exact hv
 | asl id base p m e lo n =>
  intro v hv
  simp only [cr]
  split
  ·rename_i j hj
   obtain ⟨_, hp, g, a', hg, e4, e5⟩ := hv
   obtain ⟨e1, e2, x, e3⟩ := h.hd id j hj
   exact ⟨⟨x, .inl e3⟩, hp, g, a', by rw [e2]; exact hg, e4, by rw [e1]; exact e5⟩
  ·trivial
theorem sN (σ : List (Nat × Nat)) : ∀ k : K, nog (cr σ k) = true := by
 intro k
 induction k with
 | kcons a b iha ihb => simp [cr, nog, iha, ihb]
 | agg b c ih => simp [cr, nog, ih]
 | clo f c ih => simp [cr, nog, ih]
 | sel c a b iha ihb => simp [cr, nog, iha, ihb]
 | ifc t k ih => simp [cr, nog, ih]
 | ptr id base p => simp only [cr]; split <;> rfl
 | sl id e => simp only [cr]; split <;> rfl
 | vw id e lo n => simp only [cr]; split <;> rfl
 | pm id => simp only [cr]; split <;> rfl
 | yld id => simp only [cr]; split <;> rfl
 | asl id base p m e lo n => simp only [cr]; split <;> rfl
 | _ => rfl
theorem KE.ren {G' : Gst} {σ : List (Nat × Nat)} (h : Ren G G' w σ) : ∀ {k : K} {ms : List MapEntry}, KE P G w k ms → KE P G' w (cr σ k) ms
 | .knil, _, hh => hh
 | .kcons (.kcons _ _) _, _, ⟨m, ms', e, h1, h2, h3⟩ => ⟨m, ms', e, h1.ren h, h2.ren h, KE.ren h h3⟩
theorem sE (σ : List (Nat × Nat)) : ∀ (l : List (Nat × K)) (n : Nat), ofS (iN σ l) n = cr σ (ofS l n) ∨ (ofS (iN σ l) n = .any)
 | [], n => .inr rfl
 | (m, k) :: l, n => by
  unfold ofS iN
  rw [List.lookup_cons, List.lookup_cons]
  cases h : n == m
  ·exact sE σ l n
  ·exact .inl rfl
theorem KVs.ren {G' : Gst} {σ : List (Nat × Nat)} (h : Ren G G' w σ) {l : List (Nat × K)} {n : Nat} {v : Value} (hv : KV P G w tm (ofS l n) v) : KV P G' w tm (ofS (iN σ l) n) v := by
 rcases sE σ l n with e | e <;> rw [e]
 ·exact hv.ren h
 ·trivial
theorem KVs.flat (σ : List (Nat × Nat)) (l : List (Nat × K)) (n : Nat) : Go.Proofs.Ytiaplhcifflibaa.flat (ofS (iN σ l) n) = true := by
 rcases sE σ l n with e | e <;> rw [e]
 ·exact gh (sN σ _)
 ·rfl
theorem vc (σ : List (Nat × Nat)) : ∀ l : List (Nat × K), kX (iN σ l) = true
 | [] => rfl
 | (_, k) :: l => by simp [iN, kX, sN σ k, vc σ l]
theorem cY.ren {G' : Gst} {σ : List (Nat × Nat)} (h : Ren G G' w σ) (hw0 : G'.w0 = G.w0) (hown : G'.own = G.own) {i j : Nat} (e1 : G'.hd j = G.hd i) (e2 : G'.bk j = G.bk i) {x : Bx} (hx : cY P G w i x) : cY P G' w j (qB σ x) := by
 have hl := h.lat
 have hn : ∀ g, G.nb g → G'.nb g := fun g h => by unfold Gst.nb; rw [hw0, hown]; exact h
 cases x with
 | cell t y =>
  obtain ⟨g, arr, eid, h1, h2, h3, h4, h5⟩ := hx
  exact ⟨g, arr, eid, by rw [e2]; exact h1, hn _ h2, h3, h4.lat hl, by rw [e1]; exact h5⟩
 | row e xs =>
  rcases hx with ⟨q1, h1, a, h2⟩ | ⟨g, arr, eid, off, sp, h1, h2, h3, h4, h5, h6, h8⟩
  ·exact .inl ⟨q1, by rw [e2]; exact h1, a, by rw [e1]; exact h2⟩
  ·exact .inr ⟨g, arr, eid, off, sp, by rw [e2]; exact h1, by rw [e1]; exact h2, hn _ h3, h4, h5, h6, h8.imp fun _ _ r => r.lat hl⟩
 | full e n zs =>
  rcases hx with ⟨q1, q2, h1, a, h2⟩ | ⟨g, arr, eid, off, h1, h2, h3, h4, h5, h6, h7, h8⟩
  ·exact .inl ⟨q1, q2, by rw [e2]; exact h1, a, by rw [e1]; exact h2⟩
  ·exact .inr ⟨g, arr, eid, off, by rw [e2]; exact h1, by rw [e1]; exact h2, hn _ h3, h4, h5, h6, h7, h8.imp fun _ _ r => r.lat hl⟩
 | obj t k =>
  obtain ⟨g, arr, eid, v, h1, h2, h3, h4, h5, h6, h7, h8, h9, h10, h11⟩ := hx
  exact ⟨g, arr, eid, v, by rw [e2]; exact h1, hn _ h2, h3, sN σ k, h5.ren h, h6, h7, h8, h9, h10, by rw [e1]; exact h11⟩
 | mpd k v l => obtain ⟨g, es, ck, h1, h2, h3, hst, h4⟩ := hx; exact ⟨g, es, ck, by rw [e2]; exact h1, hn _ h2, h3, hst, h4.imp (fun _ _ r => an.lat hl r) (fun _ _ r => an.lat hl r)⟩
 | itr k v left cur =>
  obtain ⟨g, gm, since, seen, es, h1, h2, h3, h0, h4, h5, h6, h7, h8, h9⟩ := hx
  exact ⟨g, gm, since, seen, es, by rw [e2]; exact h1, hn _ h2, h3, by rw [e1]; exact h0, (hl.keep gm h5 h4).2, h5, h6, h7,
   h8.imp (fun _ _ r => an.lat hl r) (fun _ _ r => an.lat hl r), fun x hx => let ⟨e, a1, a2, a3, a4⟩ := h9 x hx; ⟨e, a1, a2, a3.lat hl, a4.lat hl⟩⟩
 | mpk k c => obtain ⟨g, es, ck, h1, h2, h3, h4⟩ := hx; exact ⟨g, es, ck, by rw [e2]; exact h1, hn _ h2, h3, h4.ren h⟩
 | lop st pend s f params assign body => obtain ⟨g, d, q, tmps, h1, h2, h3, h5, h6, h4⟩ := hx; exact ⟨g, d, q, tmps, by rw [e2]; exact h1, hn _ h2, h3, h5, vc σ s, fun n => KVs.ren h (h4 n)⟩
 | dfr => obtain ⟨g, h1, h2, h3⟩ := hx; exact ⟨g, by rw [e2]; exact h1, hn _ h2, h3⟩
def kG (r : Nat) : Deferred := { target := .collected r, args := #[] }
def Mk (G : Gst) (w : World) (L : List Deferred) : Prop :=
 ∃ rs : List Nat, L = rs.map kG ∧ rs.Nodup ∧ ∀ r ∈ rs, G.O r ∧ G.w0.heap.size ≤ r ∧ r < w.heap.size ∧ w.heap[r]? = some (.deferred (some []))
theorem Mk.ext {G G' : Gst} {w w' : World} {L : List Deferred} (h : G.Ext w G' w') (hm : Mk G w L) : Mk G' w' L := by
 obtain ⟨rs, e, hn, hr⟩ := hm
 refine ⟨rs, e, hn, fun r hr' => ?_⟩
 obtain ⟨h1, h2, h3, h4⟩ := hr r hr'
 exact ⟨h.O.1 r h1, by rw [h.w0]; exact h2, Nat.lt_of_lt_of_le h3 h.lat.size, (h.keepO r h1 h3).trans h4⟩
def fO (G : Gst) : Option Nat → Option Nat → Prop
 | none, l => l = none
 | some id, l => (∃ x, G.b id = .live x ∨ G.b id = .dead) ∧ ∃ g, G.bk id = some g ∧ l = some g
theorem fO.ext0 {G G' : Gst} {w w' : World} (h : G.Ext0 w G' w') : ∀ {ro l : Option Nat}, fO G ro l → fO G' ro l
 | none, _, hh => hh
 | some id, _, ⟨h1, g, h2, h3⟩ => by
  have := h.hd id (d3 h1)
  exact ⟨gw this.2.2, g, by rw [this.2.1]; exact h2, h3⟩
def tmV (t : Array Value) (n : Nat) : Value := t.getD n undef
def k6 (G : Gst) (dst : Option Nat) (todo : List Item) (fr : Frame) : Option Nat → Prop
 | none => ∀ v, fr.finish v = fr.atR ((⟨fr.tmps, fr.defers⟩ : Act).put dst v) todo
 | some id => (∃ x, G.b id = .live x ∨ G.b id = .dead) ∧ ∃ g, G.bk id = some g ∧ ∀ v, fr.finish v = fr.atR ⟨fr.tmps, fr.defers⟩ (.endRangeFunc g :: todo)
theorem k6.ext0 {G G' : Gst} {w w' : World} {dst : Option Nat} {todo : List Item} {fr : Frame} (h : G.Ext0 w G' w') : ∀ {rng : Option Nat}, k6 G dst todo fr rng → k6 G' dst todo fr rng
 | none, hh => hh
 | some id, ⟨h1, g, h2, h3⟩ => by
  have := h.hd id (d3 h1)
  exact ⟨gw this.2.2, g, by rw [this.2.1]; exact h2, h3⟩
structure sx (P : Program) (ct : bq) (fr : Frame) (G : Gst) (w : World) : Prop where
 kv : ∀ n, KV P G w (tmV fr.tmps) (ct.s n) (tmV fr.tmps n)
 flat : ∀ n, flat (ct.s n) = true
 size : fr.tmps.size = ct.fx.fn.ntmps
 kind : fr.kind = .normal
 fn : ct.fx.ro = none → P.funcs[fr.fn]? = some ct.fx.fn
 ro : fO G ct.fx.ro fr.roundOf
 dst : fq ct.fx.fn.ntmps { (default : Oper) with dst := ct.dst } = true
 back : k6 G ct.dst ct.todo fr ct.rng
theorem sx.ext0 {ct : bq} {fr : Frame} {G G' : Gst} {w w' : World} (h : G.Ext0 w G' w') (hf : sx P ct fr G w) : sx P ct fr G' w' :=
 ⟨fun n => (hf.kv n).ext0 h, hf.flat, hf.size, hf.kind, hf.fn, hf.ro.ext0 h, hf.dst, hf.back.ext0 h⟩
def dR (P : Program) : List bq → List Frame → Gst → World → Prop
 | [], [], _, _ => True
 | ct :: stk, fr :: frs, G, w => sx P ct fr G w ∧ dR P stk frs G w
 | _, _, _, _ => False
theorem dR.ext0 : ∀ {stk : List bq} {frs : List Frame} {G G' : Gst} {w w' : World}, G.Ext0 w G' w' → dR P stk frs G w → dR P stk frs G' w'
 | [], [], _, _, _, _, _, _ => trivial
 | _ :: _, _ :: _, _, _, _, _, h, ⟨h1, h2⟩ => ⟨h1.ext0 h, h2.ext0 h⟩
 | [], _ :: _, _, _, _, _, _, h => h.elim
 | _ :: _, [], _, _, _, _, _, h => h.elim
def Cx.stk (P : Program) (c : Cx) (stk : List bq) (frs : List Frame) (df : List Deferred) (ro l : Option Nat) : Cx :=
 ⟨c.O, c.own, c.w0, fun G w => dR P stk frs G w ∧ Mk G w (df ++ frs.flatMap (·.defers)) ∧ fO G ro l, fun _ _ _ _ e h => ⟨h.1.ext0 e.to0, h.2.1.ext e, h.2.2.ext0 e.to0⟩, df⟩
def bP (P : Program) (X : bv) (c : Cx) (R0 : Ending → World → Prop) (stk : List bq) (fx : Fx) (todo : List Item) (env : Env) : Prop :=
 ∀ (frs : List Frame) (b : Frame) (a : Act) (w : World), b.kind = .normal → (fx.ro = none → P.funcs[b.fn]? = some fx.fn) → Sim P (X.at fx) (c.stk P stk frs a.defers fx.ro b.roundOf) env a w →
  ∀ cs : List Frame, ∃ v w' fr, R0 (.returned v) w' ∧ Steps P (lone (b.atR a todo) (frs ++ cs) w) (lone fr cs w') ∧ fr.fn = (frs.getLastD b).fn ∧ fr.leaving P w' (.returned v)
def aF (P : Program) (X : bv) (c : Cx) (R0 : Ending → World → Prop) (Z : K → Prop) : ae → Prop
 | .bad _ => False
 | .ret k => Z k
 | .ite c0 t e => (c0 = true → aF P X c R0 Z t) ∧ (c0 = false → aF P X c R0 Z e)
 | .req p t => p ∧ aF P X c R0 Z t
 | .all _ p t => ∀ x, p x → aF P X c R0 Z (t x)
 | .loop stk fx todo s b => bP P X c R0 stk fx todo (Env.of s b)
theorem m8 {c : Cx} {R0 : Ending → World → Prop} {Z : K → Prop} : ∀ {ps : List Prop} {t : ae}, aF P X c R0 Z (pd ps t) → (∀ p ∈ ps, p) ∧ aF P X c R0 Z t
 | [], t, h => ⟨by simp, h⟩
 | p :: ps, t, h => by
  obtain ⟨h1, h2⟩ := h
  obtain ⟨h3, h4⟩ := m8 h2
  refine ⟨fun q hq => ?_, h4⟩
  rcases List.mem_cons.1 hq with rfl | hq
  ·exact h1
  ·exact h3 q hq
theorem nt (h : cy o = false) : ∀ c, o.op ≠ .defer c := by
 intro c e
 unfold cy at h
 rw [e] at h
 cases h
theorem oB {ops : Array Oper} {i : Nat} {rest : List Nat} {k : List Item} {b : Frame} {cs : List Frame} {next : Act → World → Prop} {Q : Exit → Act → World → Prop} (hQ : ∀ e a w, Q e a w → e = .normal) (ho : ops[i]? = some o) (hnd : cy o = false) (hw : Region.wanted o (yielded ops a.tmps) = true) (h : o.wp P a w next Q) :
    ∃ a' w', next a' w' ∧ Steps P (lone (b.atR a (.inRegion ops (i :: rest) :: k)) cs w) (lone (b.atR a' (.inRegion ops rest :: k)) cs w') := by
  simp only [Oper.wp, Oper.upon] at h
  have hg := stepGR_op (P := P) (b := b) (k := k) (cs := cs) (w := w) (rest := rest) ho hw
  rw [Oper.semAt_eq _ _ _ (nt hnd)] at hg
  have hfin : ∀ v, (b.atR a (.inRegion ops (i :: rest) :: k)).finish v = b.atR (a.put o.dst v) (.inRegion ops rest :: k) := by
    intro v; rw [Frame.finish_atR, ho]; rfl
  split at h
  · rename_i v w' hr
    refine ⟨_, _, h, .one (step_lone_go ?_)⟩
    rw [hg, ← hfin]; simp [stepG.apply, hr]
  · rename_i w' hr
    refine ⟨_, _, h, .one (step_lone_go ?_)⟩
    rw [hg, ← hfin]; simp [stepG.apply, hr]
  · rename_i d w' hr
    refine ⟨_, _, h, .one (step_lone_go ?_)⟩
    have : ({ b.atR a (.inRegion ops (i :: rest) :: k) with defers := d :: a.defers } : Frame).finish undef =
        b.atR ({ a with defers := d :: a.defers }.put o.dst undef) (.inRegion ops rest :: k) := by
      have := Frame.finish_atR b { a with defers := d :: a.defers } ops i rest k undef
      rw [ho] at this; exact this
    rw [hg]; simp only [stepG.apply, Sem.runT_eq, hr, GStep.bare_after]
    exact congrArg (fun fr => GStep.go { frame := fr, callers := cs, status := .running, dying := none } w') this
  · rename_i f args w' hr
    obtain ⟨e, w'', fr, hR, hsteps, _, hleave⟩ := h (b.atR a (.inRegion ops (i :: rest) :: k) :: cs)
    have henter : step P (lone (b.atR a (.inRegion ops (i :: rest) :: k)) cs w) =
        .next (lone (Frame.enter P f args .normal) (b.atR a (.inRegion ops (i :: rest) :: k) :: cs) w') :=
      step_lone_go (by rw [hg]; simp [stepG.apply, hr, Frame.atR])
    cases e with
    | returned v =>
      refine ⟨_, _, hR, .head henter (hsteps.trans (.one ?_))⟩
      rw [← hfin]; exact step_leave_returned hleave
    | panicked chain => cases hQ _ _ _ hR
    | outgrown => obtain ⟨_, _, hq⟩ := hR; cases hQ _ _ _ hq
  · rename_i row args w' hr
    obtain ⟨v, w'', hR, hsteps⟩ := h (b.atR a (.inRegion ops (i :: rest) :: k)) cs
    have henter : step P (lone (b.atR a (.inRegion ops (i :: rest) :: k)) cs w) =
        .next (lone (Frame.ofRow P row args .normal) (b.atR a (.inRegion ops (i :: rest) :: k) :: cs) w') :=
      step_lone_go (by rw [hg]; simp [stepG.apply, hr, Frame.atR])
    refine ⟨_, _, hR, .head henter ?_⟩
    rw [← hfin]; exact hsteps
  · first | exact h.elim | cases hQ _ _ _ h
  · first | exact h.elim | cases hQ _ _ _ h
theorem mF {ops : Array Oper} {i : Nat} {rest : List Nat} {k : List Item} {b : Frame} {cs : List Frame} {next : Act → World → Prop} {Q : Exit → Act → World → Prop} (hQ : ∀ e a w, Q e a w → e = .normal) (hnd : ∀ o, ops[i]? = some o → cy o = false) (h : wpOp P ops Q i next a w) :
    ∃ a' w', next a' w' ∧ Steps P (lone (b.atR a (.inRegion ops (i :: rest) :: k)) cs w) (lone (b.atR a' (.inRegion ops rest :: k)) cs w') := by
  unfold wpOp at h
  split at h
  · rename_i ho
    refine ⟨_, _, h, .one ?_⟩
    have := stepR_op_skip (P := P) (b := b) (a := a) (k := k) (cs := cs) (w := w) (ops := ops) (i := i) (rest := rest) (by simp [ho])
    simpa [ho, Act.put] using this
  · rename_i o ho
    split at h
    · rename_i hw
      rcases h with h | ⟨_, _, _, h⟩
      · exact oB hQ ho (hnd o ho) hw h
      · cases hQ _ _ _ h
    · rename_i hw
      refine ⟨_, _, h, .one ?_⟩
      have := stepR_op_skip (P := P) (b := b) (a := a) (k := k) (cs := cs) (w := w) (ops := ops) (i := i) (rest := rest) (by simp [ho]; simpa using hw)
      simpa [ho] using this
theorem lR {ops : Array Oper} {k : List Item} {b : Frame} {cs : List Frame} {Q : Exit → Act → World → Prop} (hQ : ∀ e a w, Q e a w → e = .normal) (hnd : ∀ (i : Nat) o, ops[i]? = some o → cy o = false) : ∀ (l : List Nat) (a : Act) (w : World), wpOps P ops Q l a w →
    ∃ a' w', Q .normal a' w' ∧ Steps P (lone (b.atR a (.inRegion ops l :: k)) cs w) (lone (b.atR a' k) cs w')
  | [], a, w, h => ⟨a, w, h, .one stepR_region_end⟩
  | i :: l, a, w, h => by
    rw [wpOps_cons] at h
    obtain ⟨a1, w1, h1, s1⟩ := mF (rest := l) (k := k) (b := b) (cs := cs) hQ (fun o ho => hnd i o ho) h
    obtain ⟨a2, w2, h2, s2⟩ := lR hQ hnd l a1 w1 h1
    exact ⟨a2, w2, h2, s1.trans s2⟩
theorem Aj {D : ar} (hD : bM P D) (hh : cU D = true) {c0 : Cx} {id : Nat} {ops : Array Oper} {ord : List Nat} {env env' : Env} (hnd : ops.toList.any cy = false) (hR : oc D ops env = some ord) {ps : List Prop} (h : dE D ops ord env = some (env', ps)) (hp : ∀ p ∈ ps, p) (hS : Sim P D c0 env a w) (b : Frame) (k : List Item) (cs : List Frame) :
    ∃ a' w', Sim P D c0 env' a' w' ∧ Steps P (lone (b.atR a (.code (.region id ops true) :: k)) cs w) (lone (b.atR a' k) cs w') := by
  have hany := wc (Q := fun e a w => e = .normal ∧ Sim P D c0 env' a w) hD hh hR h hp hS (fun _ _ h => ⟨rfl, h⟩)
  have hnd' : ∀ (i : Nat) o, ops[i]? = some o → cy o = false := fun i o ho => by
    have hm : o ∈ ops.toList := by
      rw [← Array.getElem?_toList] at ho
      exact List.mem_of_getElem? ho
    cases hd : cy o with
    | false => rfl
    | true => rw [List.any_eq_false] at hnd; exact absurd hd (hnd o hm)
  have hops := wpAny_sound ops.size (w.tape w.drawn (.order b.fn id)) _ a _ hany
  obtain ⟨a', w', ⟨_, hS'⟩, hst⟩ := lR (k := k) (b := b) (cs := cs) (fun _ _ _ h => h.1) hnd' _ a _ hops
  refine ⟨a', w', hS', .head stepR_region_draw ?_⟩
  simp only [Region.schedule, hD.mixed, Bool.true_or, if_true]
  exact hst
end
end Go.Proofs.Ytiaplhcifflibaa
namespace Go.Proofs.Ytiaplhcifflibaa
open Go Go.RowKit
section
variable {P : Program} {X : bv} {D : ar} {o : Oper} {a : Act} {G : Gst} {w : World} {tm : Nat → Value}
theorem KV.unlit {k : K} {v : Value} (h : KV P G w tm k v) : KV P G w tm (Go.Proofs.Ytiaplhcifflibaa.unlit k) v := by
 cases k <;> first | exact h | exact aC.2 h
theorem kE {s : Nat → K} {n : Nat} {v : Value} (h : KV P G w tm (s n) v) : ∀ l : List Nat, KV P G w tm (ofS (fg s l) n) v
 | [] => trivial
 | m :: l => by
  unfold fg
  split
  ·exact kE h l
  ·rename_i k hk
   unfold ofS
   rw [List.lookup_cons]
   cases e : n == m
   ·exact kE h l
   ·have e : n = m := by simpa using e
    subst e
    exact h.unlit.strip
theorem wt {G' : Gst} {σ : List (Nat × Nat)} (h : Ren G G' w σ) : ∀ {ro l : Option Nat}, oA σ ro = true → fO G ro l → fO G' (oG σ ro) l
 | none, _, _, hh => hh
 | some id, _, hi, ⟨_, g, h2, h3⟩ => by
  obtain ⟨j, hj⟩ := Option.isSome_iff_exists.1 (show (σ.lookup id).isSome = true from hi)
  obtain ⟨_, e2, x, e3⟩ := h.hd id j hj
  show fO G' (some ((σ.lookup id).getD 0)) _
  rw [hj]
  exact ⟨⟨x, .inl e3⟩, g, by rw [← h2]; exact e2, h3⟩
theorem zh {G' : Gst} {σ : List (Nat × Nat)} (h : Ren G G' w σ) {dst : Option Nat} {todo : List Item} {fr : Frame} : ∀ {rng : Option Nat}, oA σ rng = true → k6 G dst todo fr rng → k6 G' dst todo fr (oG σ rng)
 | none, _, hh => hh
 | some id, hi, ⟨_, g, h2, h3⟩ => by
  obtain ⟨j, hj⟩ := Option.isSome_iff_exists.1 (show (σ.lookup id).isSome = true from hi)
  obtain ⟨_, e2, x, e3⟩ := h.hd id j hj
  show k6 G' dst todo fr (some ((σ.lookup id).getD 0))
  rw [hj]
  exact ⟨⟨x, .inl e3⟩, g, by rw [← h2]; exact e2, h3⟩
theorem uV {G' : Gst} {σ : List (Nat × Nat)} (h : Ren G G' w σ) {ct : bq} {fr : Frame} {l : List Nat} (h1 : oA σ ct.fx.ro = true) (h2 : oA σ ct.rng = true) (hf : sx P ct fr G w) :
    sx P { fx := xh σ ct.fx, todo := ct.todo, dst := ct.dst, s := ofS (iN σ (fg ct.s l)), rng := oG σ ct.rng } fr G' w :=
  ⟨fun n => KVs.ren h (kE (hf.kv n) l), fun n => KVs.flat σ _ n, hf.size, hf.kind, fun hro => hf.fn (by
    have hro : oG σ ct.fx.ro = none := hro
    cases hc : ct.fx.ro with
    | none => rfl
    | some id => rw [hc] at hro; cases hro), wt h h1 hf.ro, hf.dst, zh h h2 hf.back⟩
theorem r8 {G' : Gst} {σ : List (Nat × Nat)} (h : Ren G G' w σ) : ∀ {stk : List bq} {frs : List Frame} (ls : List (List Nat)), o6 σ (gz stk ls) = true → dR P stk frs G w → dR P (xl σ (gz stk ls)) frs G' w
 | [], [], _, _, _ => trivial
 | ct :: stk, fr :: frs, [], hi, ⟨h1, h2⟩ => by
  simp only [gz, o6, Bool.and_eq_true] at hi
  exact ⟨uV (l := []) h hi.1.1 hi.1.2 h1, r8 h [] hi.2 h2⟩
 | ct :: stk, fr :: frs, l :: ls, hi, ⟨h1, h2⟩ => by
  simp only [gz, o6, Bool.and_eq_true] at hi
  exact ⟨uV (l := l) h hi.1.1 hi.1.2 h1, r8 h ls hi.2 h2⟩
 | [], _ :: _, _, _, h => h.elim
 | _ :: _, [], _, _, h => h.elim
theorem AI {c : Cx} {stk : List bq} {frs : List Frame} {df : List Deferred} {ro l : Option Nat} {env : Env} {keep : List Nat} {ls : List (List Nat)} {σ : List (Nat × Nat)} {bs : List (Nat × Bx)} (hn1 : db (σ.map (·.1)) = true) (hn2 : db (σ.map (·.2)) = true) (hro : oA σ ro = true) (hst : o6 σ (gz stk ls) = true) (hbs : kL env.b σ σ = some bs) {a : Act} {w : World}
    (hS : Sim P D (c.stk P stk frs df ro l) env a w) : Sim P D (c.stk P (xl σ (gz stk ls)) frs df (oG σ ro) l) (Env.of (iN σ (fg env.s keep)) bs) a w := by
  obtain ⟨⟨G, hb, hC, hM, hgl, hs⟩, hfl, hsz, hdf⟩ := hS
  let G' : Gst := { hd := fun j => match inv σ j with | some i => G.hd i | none => undef, bk := fun j => match inv σ j with | some i => G.bk i | none => none, b := ofB bs, O := G.O, w0 := G.w0, own := G.own }
  have hd' : ∀ j i, inv σ j = some i → G'.hd j = G.hd i ∧ G'.bk j = G.bk i := fun j i h => by
    show (match inv σ j with | some i => G.hd i | none => undef) = _ ∧ (match inv σ j with | some i => G.bk i | none => none) = _
    rw [h]
    exact ⟨rfl, rfl⟩
  have live : ∀ j x, G'.b j = .live x → ∃ i y, inv σ j = some i ∧ G.b i = .live y ∧ x = qB σ y := by
    intro j x h
    have h : ofB bs j = .live x := h
    unfold ofB at h
    split at h
    · rename_i y hy
      have e : y = x := by injection h
      subst e
      rw [hb]
      exact nP hbs hy
    · cases h
  have hav : ∀ g, G'.av g → G.av g := by
    rintro g (h | ⟨j, x, h1, h2⟩)
    · exact .inl h
    · obtain ⟨i, y, hi, hx, _⟩ := live j x h1
      rw [(hd' j i hi).2] at h2
      exact .inr ⟨i, y, hx, h2⟩
  have hl : Lat G.av w G'.av w := ⟨Nat.le_refl _, fun g _ hg => ⟨rfl, fun h => hg (hav g h)⟩⟩
  have hR : Ren G G' w σ := ⟨hl, fun i j hij => by
    have hi := gU hn2 hij
    obtain ⟨x, hx⟩ := rv hbs (d7 hij)
    refine ⟨(hd' j i hi).1, (hd' j i hi).2, x, ?_⟩
    show ofB bs j = _
    unfold ofB
    rw [hx]⟩
  have hM' : MemOk P G' w := by
    refine ⟨hM.kept, hM.old, hM.dis, fun j x h => ?_, fun j j' x y g h h' k k' => ?_, fun j x g h k => ?_⟩
    · obtain ⟨i, y, hi, hx, rfl⟩ := live j x h
      exact (hM.box i y hx).ren hR rfl rfl (hd' j i hi).1 (hd' j i hi).2
    · obtain ⟨i, z, hi, hx, _⟩ := live j x h
      obtain ⟨i', z', hi', hx', _⟩ := live j' y h'
      rw [(hd' j i hi).2] at k
      rw [(hd' j' i' hi').2] at k'
      have e := hM.sep i i' z z' g hx hx' k k'
      subst e
      exact oO hn1 (pf hi) (pf hi')
    · obtain ⟨i, z, hi, hx, _⟩ := live j x h
      rw [(hd' j i hi).2] at k
      exact hM.boxO i z g hx k
  have hJ : dR P stk frs G w ∧ Mk G w (df ++ frs.flatMap (·.defers)) ∧ fO G ro l := hC.J
  have hmk : Mk G' w (df ++ frs.flatMap (·.defers)) := hJ.2.1
  exact ⟨⟨G', rfl, ⟨hC.O, hC.w0, hC.own, r8 hR ls hst hJ.1, hmk, wt hR hro hJ.2.2⟩, hM', hgl.lat hl, fun n => KVs.ren hR (kE (hs n) keep)⟩, fun n => KVs.flat σ _ n, hsz, hdf⟩
theorem pB {c : Cx} {R0 : Ending → World → Prop} {Z : K → Prop} {keep : List Nat} {own : List (Nat × Ty)} {ls : List (List Nat)} {stk : List bq} {fx : Fx} {todo : List Item} {env : Env}
    (h : aF P X c R0 Z (kd keep own ls stk fx todo env)) : bP P X c R0 stk fx todo env := by
  unfold kd at h
  split at h
  · exact h.elim
  · rename_i env1 h1
    simp only at h
    split at h
    · rename_i hn
      simp only [Bool.and_eq_true] at hn
      split at h
      · rename_i bs hbs
        intro frs b a w hk hfn hS cs
        exact h frs b a w hk (fun hro => hfn (by
          have hro : oG _ fx.ro = none := hro
          cases hc : fx.ro with
          | none => rfl
          | some id => rw [hc] at hro; cases hro)) (AI (D := X.at fx) hn.1.1.1 hn.1.1.2 hn.1.2 hn.2 hbs (lc h1 hS)) cs
      · exact h.elim
    · exact h.elim
theorem qS (hX : XOk P X) {fx : Fx} {c0 : Cx} {ops : Array Oper} {o : Oper} {env : Env} {st : Stp} (h : xC X (X.at fx) ops o env = some st) {a : Act} {w : World} (hS : Sim P (X.at fx) c0 env a w) {i : Nat} (hi : ops[i]? = some o) (hnd : cy o = false) {rest : List Nat} {k : List Item} (b : Frame) (cs : List Frame) :
    match st with
    | .one env' ps => (∀ p ∈ ps, p) → ∃ a' w', Sim P (X.at fx) c0 env' a' w' ∧ Steps P (lone (b.atR a (.inRegion ops (i :: rest) :: k)) cs w) (lone (b.atR a' (.inRegion ops rest :: k)) cs w')
    | .ex _ p f => ∃ x, p x ∧ ∃ a' w', Sim P (X.at fx) c0 (f x) a' w' ∧ Steps P (lone (b.atR a (.inRegion ops (i :: rest) :: k)) cs w) (lone (b.atR a' (.inRegion ops rest :: k)) cs w') := by
  have hD := hX.at fx
  have hh : cU (X.at fx) = true := hX.ht
  unfold xC at h
  split at h
  · rename_i env' ps hv
    have e := (Option.some.inj h).symm
    subst e
    exact fun hp => mF (Q := fun _ _ _ => False) (fun _ _ _ h => h.elim) (fun o' ho' => by rw [hi] at ho'; cases ho'; exact hnd) (lG hD hh hv hp hS hi _)
  · split at h
    · cases h
    · rename_i hcond
      simp only [Bool.or_eq_true, not_or, Bool.not_eq_true, Option.isSome_eq_false_iff, Bool.not_eq_false', Bool.not_eq_eq_eq_not, Bool.not_true] at hcond
      have hg : o.guard = none := by simpa using hcond.1
      have hdst : fq (X.at fx).n o = true := by simpa using hcond.2
      have hw : Region.wanted o (yielded ops a.tmps) = true := by unfold Region.wanted; rw [hg]
      obtain ⟨⟨G, hb, hC, hM, hgl, hs⟩, hfl, hsz, hdf⟩ := hS
      have hr := fun x => gD (a := a) (tm := tmF a) hD.toDOk hgl (g := none) (fun _ _ e => by cases e) hs (fun _ => rfl) x
      have fin : ∀ {k' : K} {ch' : Chg}, ag P o a G w (tmF a) k' ch' → ∃ a' w', Sim P (X.at fx) c0 { s := put env.s o.dst (Go.Proofs.Ytiaplhcifflibaa.strip k'), b := ao env.b ch', lim := env.lim } a' w' ∧
          Steps P (lone (b.atR a (.inRegion ops (i :: rest) :: k)) cs w) (lone (b.atR a' (.inRegion ops rest :: k)) cs w') := by
        intro k' ch' hy
        refine oB (Q := fun _ _ _ => False) (fun _ _ _ h => h.elim) (next := fun a' w' => Sim P (X.at fx) c0 { s := put env.s o.dst (Go.Proofs.Ytiaplhcifflibaa.strip k'), b := ao env.b ch', lim := env.lim } a' w') hi hnd hw (hy _ _ ?_)
        intro G' w' v e1 e2 e3 e4
        refine ⟨⟨G', by rw [e1, hb], hC.ext e2, e3, hgl.lat e2.lat, ?_⟩, eH hfl (gh (cw k')), ?_, ?_⟩
        · exact jp rfl hfl (fun n => (hs n).ext e2) hsz hdst (fun d hd => e4.strip.tm (cw _))
        · cases hd : o.dst <;> simp [Act.put, hsz]
        · cases hd : o.dst <;> simp [Act.put, hdf]
      rw [← hb] at h
      split at h
      · rename_i k1 ch ps hv
        have e := (Option.some.inj h).symm
        subst e
        intro hp
        have := lX (tm := tmF a) hD hM hgl hr hv hp
        rw [hb]
        exact fin this
      · rename_i α p k1 ch hv
        have e := (Option.some.inj h).symm
        subst e
        obtain ⟨x, hx, hy⟩ := lX (tm := tmF a) hD hM hgl hr hv
        refine ⟨x, hx, ?_⟩
        rw [hb]
        exact fin hy
      · split at h
        · rename_i k1 ch ps hv
          have e := (Option.some.inj h).symm
          subst e
          intro hp
          have := i5 (tm := tmF a) hD hM hr hv hp
          rw [hb]
          exact fin this
        · rename_i α p k1 ch hv
          have e := (Option.some.inj h).symm
          subst e
          obtain ⟨x, hx, hy⟩ := i5 (tm := tmF a) hD hM hr hv
          refine ⟨x, hx, ?_⟩
          rw [hb]
          exact fin hy
        · cases h
theorem AO (hD : bM P D) (hM : MemOk P G w) {id : Nat} {t : Ty} {k : K} (hl : G.b id = .live (.obj t k)) {ty : TypeId} (hty : D.ty ty = some t) {g : Nat} (hk : G.bk id = some g) : ∃ v, (loadVar ty ⟨g, 0, none⟩).run P w = .ok v w ∧ nog k = true ∧ KV P G w tm k v := by
 obtain ⟨g', arr, eid, v, h1, h2, h3, h4, h5, h6, h7, h8, h9, h10, h11⟩ := hM.box id _ hl
 rw [hk] at h1
 cases h1
 have hlen : arr.toList.length = siz t := by rw [Array.length_toList]; exact h7
 have hload := iZ (hD.fit hty) w ⟨g, 0, none⟩ arr.toList hlen (fun j u hj => by
  rw [bm, Nat.zero_add, cell_of_row w g j arr eid (0, 0) h3]
  simpa using hj)
 refine ⟨v, ?_, h4, h5.tm h4⟩
 rw [hload]
 congr 1
 unfold al
 cases ha : isAgg t
 ·have h1c := h10 ha
  rw [if_neg (by simp)]
  have : v.cells = #[v] := by cases v <;> first | rfl | (simp [Value.oneCell'] at h1c)
  rw [← h6, this]; rfl
 ·obtain ⟨cs, rfl⟩ := h9 ha
  rw [if_pos rfl]
  have : cs = arr := h6
  rw [this]
theorem yX (hD : bM P D) {c0 : Cx} {env : Env} {a : Act} {w : World} (hS : Sim P D c0 env a w) {G : Gst} (hb : G.b = env.b) (hM : MemOk P G w) (hs : ∀ n, KV P G w (tmF a) (env.s n) (tmF a n)) {r : ResultVar} {k : K} (h : wP D env r = some k) :
    ∃ v, (k3 a r).run P w = Result.ok v w ∧ nog k = true ∧ KV P G w (tmF a) k v := by
  cases r with
  | tmp t =>
    have e := (Option.some.inj h).symm
    subst e
    exact ⟨tmF a t, rfl, cw _, (hs t).strip⟩
  | cell q ty =>
    have hk := hs q
    simp only [wP] at h
    split at h
    · rename_i id base e
      rw [e] at hk
      obtain ⟨_, _, g, hg, ev⟩ := hk
      have hoff : ap base [] = 0 := by cases base <;> rfl
      have ev : a.tmps.getD q undef = .pointer (some ⟨g, eR (G.hd id) + ap base [], none⟩) := ev
      split at h
      · rename_i u x hl
        split at h
        · rename_i hty
          have e'' := (Option.some.inj h).symm
          subst e''
          rw [← hb] at hl
          obtain ⟨g', arr, eid, q1, q2, q3, q4, q5⟩ := hM.box id _ (ak hl)
          rw [hg] at q1
          cases q1
          have hload := iZ (hD.fit hty) w ⟨g, 0, none⟩ arr.toList q4.length (fun j u hj => by
            rw [bm, Nat.zero_add, cell_of_row w g j arr eid (0, 0) q3]
            simpa using hj)
          rw [q5, hoff] at ev
          refine ⟨al u arr.toList, ?_, rfl, ⟨_, rfl, q4⟩⟩
          show (do loadVar ty (← asAddr (a.tmps.getD q undef)) : Sem Value).run P w = _
          simp only [ev, asAddr, Sem.run_bind, Sem.run_pure, Result.andThen_ok, hload]
        · cases h
      · rename_i u k' hl
        split at h
        · rename_i hty
          have e'' := (Option.some.inj h).symm
          subst e''
          rw [← hb] at hl
          obtain ⟨_, _, _, _, _, _, _, _, _, _, _, _, _, _, q5⟩ := hM.box id _ (ak hl)
          obtain ⟨v, hload, h4, h5⟩ := AO (tm := tmF a) hD hM (ak hl) hty hg
          rw [q5, hoff] at ev
          refine ⟨v, ?_, h4, h5⟩
          show (do loadVar ty (← asAddr (a.tmps.getD q undef)) : Sem Value).run P w = _
          simp only [ev, asAddr, Sem.run_bind, Sem.run_pure, Result.andThen_ok, hload]
        · cases h
      · cases h
    · cases h
theorem wG (hD : bM P D) {c0 : Cx} {env : Env} {a : Act} {w : World} (hS : Sim P D c0 env a w) {G : Gst} (hb : G.b = env.b) (hM : MemOk P G w) (hs : ∀ n, KV P G w (tmF a) (env.s n) (tmF a n)) : ∀ {l : List ResultVar} {ks : List K}, uk D env l = some ks →
    ∃ vs : List Value, (l.mapM (k3 a)).run P w = Result.ok vs w ∧ vs.length = ks.length ∧ nog (ja ks) = true ∧ KV P G w (tmF a) (ja ks) (.tuple vs.toArray) ∧ ∀ k, ks = [k] → ∀ v, vs = [v] → nog k = true ∧ KV P G w (tmF a) k v
  | [], ks, h => by
    have e := (Option.some.inj h).symm
    subst e
    exact ⟨[], by simp, rfl, rfl, rfl, fun _ h => by cases h⟩
  | r :: l, ks, h => by
    simp only [uk] at h
    split at h
    · rename_i k ks' h1 h2
      have e := (Option.some.inj h).symm
      subst e
      obtain ⟨v, hv, hn, hk⟩ := yX hD hS hb hM hs h1
      obtain ⟨vs, hvs, hlen, hns, hks, _⟩ := wG hD hS hb hM hs h2
      refine ⟨v :: vs, ?_, by simp [hlen], by simp [ja, nog, hn, hns], ⟨v, vs, rfl, hk, hks⟩, ?_⟩
      · rw [List.mapM_cons]
        simp only [Sem.run_bind, hv, Result.andThen_ok, hvs, Sem.run_pure]
      · intro k' e1 v' e2
        injection e1 with e1 _
        injection e2 with e2 _
        rw [← e1, ← e2]
        exact ⟨hn, hk⟩
    · cases h
theorem yR (hD : bM P D) {c0 : Cx} {fn : Func} {env : Env} {a : Act} {w : World} (hS : Sim P D c0 env a w) {G : Gst} (hb : G.b = env.b) (hM : MemOk P G w) (hs : ∀ n, KV P G w (tmF a) (env.s n) (tmF a n)) {k : K} (h : xg D env fn.results.toList = some k) :
    ∃ v, (results fn a.tmps).run P w = .ok v w ∧ nog k = true ∧ KV P G w (tmF a) k v := by
  have key : ∀ ks, uk D env fn.results.toList = some ks → ∃ vs : List Value, (fn.results.mapM (k3 a)).run P w = Result.ok vs.toArray w ∧ vs.length = ks.length ∧ nog (ja ks) = true ∧ KV P G w (tmF a) (ja ks) (.tuple vs.toArray) ∧ ∀ k, ks = [k] → ∀ v, vs = [v] → nog k = true ∧ KV P G w (tmF a) k v := by
    intro ks hks
    obtain ⟨vs, h1, h2⟩ := wG hD hS hb hM hs hks
    refine ⟨vs, ?_, h2⟩
    rw [Array.mapM_eq_mapM_toList]
    simp only [Sem.run_map, h1, Result.andThen_ok]
  unfold xg at h
  split at h
  · rename_i k' hks
    have e := (Option.some.inj h).symm
    subst e
    obtain ⟨vs, h1, h2, _, _, h3⟩ := key _ hks
    match vs, h2 with
    | [v], _ =>
      refine ⟨v, ?_, h3 _ rfl v rfl⟩
      rw [iq]
      simp only [Sem.run_bind, h1, Result.andThen_ok]
      rfl
  · rename_i ks hne hks
    have e := (Option.some.inj h).symm
    subst e
    obtain ⟨vs, h1, h2, h3, h4, _⟩ := key _ hks
    refine ⟨.tuple vs.toArray, ?_, h3, h4⟩
    rw [iq]
    have hs1 : ¬ vs.toArray.size = 1 := by
      intro h
      have : ks.length = 1 := by rw [← h2]; simpa using h
      match ks, this with
      | [k], _ => exact hne k rfl
    simp only [Sem.run_bind, h1, Result.andThen_ok, dif_neg hs1, Sem.run_pure]
  · cases h
end
end Go.Proofs.Ytiaplhcifflibaa
namespace Go.Proofs.Ytiaplhcifflibaa
open Go Go.RowKit
section
variable {P : Program} {X : bv} {D : ar} {o : Oper} {a : Act} {G : Gst} {w : World} {tm : Nat → Value}
def ka : World → List Nat → World
 | w, [] => w
 | w, r :: rs => ka (w.putObj r (.deferred none)) rs
structure Tk (rs : List Nat) (w w' : World) : Prop where
 os : w'.os = w.os
 tape : Tp w w'
 output : w'.output = w.output
 size : w'.heap.size = w.heap.size
 same : ∀ g, g ∉ rs → w'.heap[g]? = w.heap[g]?
theorem rn : ∀ (rs : List Nat) (w : World), Tk rs w (ka w rs)
 | [], w => ⟨rfl, .refl w, rfl, rfl, fun _ _ => rfl⟩
 | r :: rs, w => by
  have h := rn rs (w.putObj r (.deferred none))
  exact ⟨h.os, ⟨h.tape.eq, h.tape.le⟩, h.output, h.size.trans World.putObj_size, fun g hg => by
   simp only [List.mem_cons, not_or] at hg
   exact (h.same g hg.2).trans (World.putObj_heap_other hg.1)⟩
theorem rG {cs : List Frame} : ∀ (rs : List Nat) (w : World) (fr : Frame), fr.mode ≠ .run → fr.defers = rs.map kG → (∀ r ∈ rs, w.heap[r]? = some (.deferred (some []))) → rs.Nodup →
    Steps P (lone fr cs w) (lone { fr with defers := [] } cs (ka w rs))
  | [], w, fr, _, hd, _, _ => by
    have : ({ fr with defers := [] } : Frame) = fr := by
      cases fr
      simp only [List.map_nil] at hd
      simp [hd]
    rw [this]
    exact .refl _ _
  | r :: rs, w, fr, hm, hd, hr, hn => by
    have h1 := step_collected (P := P) (cs := cs) (w := w) (w' := w.putObj r (.deferred none)) (d := kG r) (r := r) (ds := rs.map kG) (calls := []) hm hd rfl (run_takeDeferred (hr r (List.mem_cons_self ..)))
    rw [List.nodup_cons] at hn
    have h2 := rG (cs := cs) rs (w.putObj r (.deferred none)) { fr with defers := [] ++ rs.map kG } hm rfl (fun q hq => by
      have hne : q ≠ r := fun e => hn.1 (e ▸ hq)
      rw [World.putObj_heap_other hne]
      exact hr q (List.mem_cons_of_mem _ hq)) hn.2
    exact .head h1 h2
theorem xD (hM : MemOk P G w) {rs : List Nat} (hr : ∀ r ∈ rs, G.O r ∧ G.w0.heap.size ≤ r) {w' : World} (ht : Tk rs w w') : MemOk P G w' ∧ G.Ext0 w G w' := by
 have hE : G.Ext0 w G w' := ⟨⟨Nat.le_of_eq ht.size.symm, fun b _ hb => ⟨ht.same b fun h => hb (.inl (hr b h).1), hb⟩⟩, fun _ h => ⟨rfl, rfl, h⟩, rfl, rfl⟩
 refine ⟨⟨⟨ht.os.trans hM.kept.os, ht.tape.trans hM.kept.tape, ht.output.trans hM.kept.output, by rw [ht.size]; exact hM.kept.size, fun b hb ho => ?_⟩, fun g h => by rw [ht.size]; exact hM.old g h, hM.dis,
  fun id x hx => (hM.box id x hx).keep0 hE rfl rfl (fun g hg => ht.same g fun h => hM.boxO id x g hx hg (hr g h).1), hM.sep, hM.boxO⟩, hE⟩
 rw [ht.same b fun h => by have := (hr b h).2; omega]
 exact hM.kept.block b hb ho
theorem zx {c : Cx} {stk : List bq} {frs : List Frame} {ro l : Option Nat} {env : Env} (hS : Sim P D (c.stk P stk frs a.defers ro l) env a w) :
    ∃ rs, a.defers = rs.map kG ∧ rs.Nodup ∧ (∀ r ∈ rs, w.heap[r]? = some (.deferred (some []))) ∧ Sim P D (c.stk P stk frs [] ro l) env { a with defers := [] } (ka w rs) := by
  obtain ⟨⟨G, hb, hC, hM, hgl, hs⟩, hfl, hsz, hdf⟩ := hS
  obtain ⟨h1, ⟨rs0, e0, hn0, hr0⟩, h3⟩ : dR P stk frs G w ∧ Mk G w (a.defers ++ frs.flatMap (·.defers)) ∧ fO G ro l := hC.J
  obtain ⟨rs, rs', e1, e2, e3⟩ := List.map_eq_append_iff.1 e0.symm
  subst e1
  rw [List.nodup_append] at hn0
  have ht := rn rs w
  obtain ⟨hM', hE⟩ := xD hM (rs := rs) (fun r hr => ⟨(hr0 r (List.mem_append_left _ hr)).1, (hr0 r (List.mem_append_left _ hr)).2.1⟩) ht
  refine ⟨rs, e2.symm, hn0.1, fun r hr => (hr0 r (List.mem_append_left _ hr)).2.2.2, ⟨G, hb, ⟨hC.O, hC.w0, hC.own, h1.ext0 hE, ⟨rs', e3.symm, hn0.2.1, fun r hr => ?_⟩, h3.ext0 hE⟩, hM', hgl.lat hE.lat, fun n => (hs n).ext0 hE⟩, hfl, hsz, rfl⟩
  obtain ⟨q1, q2, q3, q4⟩ := hr0 r (List.mem_append_right _ hr)
  exact ⟨q1, q2, by rw [ht.size]; exact q3, by rw [ht.same r fun h => hn0.2.2 r h r hr rfl]; exact q4⟩
theorem kD (hM : MemOk P G w) {id g : Nat} {st : LoopState} {pend : Option Code} {s : List (Nat × K)} {n : Nat} {ps : Array Nat} {as c : Code} (hb : G.b id = .live (.lop st pend s n ps as c)) (hk : G.bk id = some g) :
    ∃ r : Loop, w.heap[g]? = some (.loop r) ∧ r.state = st ∧ r.pending = pend ∧ r.params = ps ∧ r.assign = as ∧ r.body = c ∧ r.tmps.size = n ∧ kX s = true ∧ (∀ m, KV P G w (fun _ => undef) (ofS s m) (r.tmps.getD m undef)) ∧
      ∀ st' pend', MemOk P (G.turn id (.lop st' pend' s n ps as c)) (w.putObj g (.loop { r with state := st', pending := pend' })) ∧ G.Ext w (G.turn id (.lop st' pend' s n ps as c)) (w.putObj g (.loop { r with state := st', pending := pend' })) := by
  obtain ⟨g', d, q, tmps, h1, h2, h3, h4, h5, h6⟩ := hM.box id _ hb
  rw [hk] at h1
  cases h1
  refine ⟨_, h3, rfl, rfl, rfl, rfl, rfl, h4, h5, h6, fun st' pend' => ?_⟩
  refine hM.turnO hb hk rfl (.same rfl rfl) rfl (by simp) (fun b hb' => World.putObj_heap_other hb') (fun G' hE e1 e2 => ?_)
  exact ⟨g, d, q, tmps, e2, by unfold Gst.nb; rw [hE.w0, hE.own]; exact h2, World.putObj_heap_same (cO hM hb hk).1, h4, h5, fun m => (h6 m).ext hE⟩
theorem sT {id : Nat} {x : Bx} {b : Nat → BS} (hb : G.b = b) : (G.turn id x).b = ao b [(id, .live x)] := by
 funext n
 subst hb
 rfl
theorem su {id : Nat} {x : Bx} {b : Nat → BS} (hb : G.b = b) : ((G.turn id x).drop id).b = ao b [(id, .dead)] := by
 funext n
 subst hb
 by_cases e : n = id
 ·simp [Gst.drop, Gst.turn, ao, e]
 ·simp [Gst.drop, Gst.turn, ao, e]
theorem nk (s : Nat → K) : ∀ l : List Nat, kX (fg s l) = true
 | [] => rfl
 | n :: l => by
  unfold fg
  split
  ·exact nk s l
  ·have := cw (unlit (s n))
   simp [kX, this, nk s l]
theorem ss : ∀ {l : List (Nat × K)} (n : Nat), kX l = true → nog (ofS l n) = true
 | [], n, _ => rfl
 | (m, k) :: l, n, h => by
  simp only [kX, Bool.and_eq_true] at h
  unfold ofS
  rw [List.lookup_cons]
  cases e : n == m
  ·exact ss n h.2
  ·exact h.1
theorem zF (hM : MemOk P G w) : MemOk P { G with O := fun g => G.O g ∨ g = w.heap.size } (w.alloc (.deferred (some []))) ∧ G.Ext w { G with O := fun g => G.O g ∨ g = w.heap.size } (w.alloc (.deferred (some []))) := by
 have hk := Kept.alloc w (.deferred (some []))
 have hav : ∀ g, Gst.av { G with O := fun g => G.O g ∨ g = w.heap.size } g → G.av g ∨ g = w.heap.size := by
  rintro g ((h | h) | h)
  ·exact .inl (.inl h)
  ·exact .inr h
  ·exact .inl (.inr h)
 have hE : G.Ext w { G with O := fun g => G.O g ∨ g = w.heap.size } (w.alloc (.deferred (some []))) :=
  ⟨⟨hk.size, fun b hb hO => ⟨hk.block b hb, fun h => (hav b h).elim hO (fun e => by omega)⟩⟩, fun _ h => ⟨rfl, rfl, h⟩, ⟨fun _ h => .inl h, fun g h => h.elim .inl fun e => .inr (by rw [e]; exact hM.kept.size)⟩, rfl, rfl, fun g _ hg => hk.block g hg⟩
 have hlt : ∀ {id x g}, G.b id = .live x → G.bk id = some g → g < w.heap.size := fun h1 h2 => (cO hM h1 h2).1
 refine ⟨⟨hM.kept.trans hk, fun g h => h.elim (fun h => Nat.lt_of_lt_of_le (hM.old g h) hk.size) (fun e => by rw [e]; simp), fun g h => ⟨fun hO => hO.elim (hM.dis g h).1 fun e => ?_, (hM.dis g h).2⟩,
  fun id x hx => (hM.box id x hx).keep hE rfl rfl (fun g hg => hk.block g (hlt hx hg)), hM.sep, fun id x g hx hg hO => hO.elim (hM.boxO id x g hx hg) fun e => ?_⟩, hE⟩
 ·have h1 := (hM.dis g h).2
  have h2 := hM.kept.size
  omega
 ·have := hlt hx hg
  omega
theorem vh (hM : MemOk P G w) {L : Nat} (hL : au G.b L = true) {q : FuncId} {tmps : Array Value} {d : Nat} {s : List (Nat × K)} {ps : Array Nat} {as c : Code} (hs : kX s = true) (hkv : ∀ m, KV P G w (fun _ => undef) (ofS s m) (tmps.getD m undef)) :
    MemOk P (G.add L w.heap.size undef (.lop .ready none s tmps.size ps as c)) (w.alloc (.loop { state := .ready, pending := none, fn := q, tmps, params := ps, assign := as, body := c, defers := d })) ∧
      G.Ext w (G.add L w.heap.size undef (.lop .ready none s tmps.size ps as c)) (w.alloc (.loop { state := .ready, pending := none, fn := q, tmps, params := ps, assign := as, body := c, defers := d })) := by
  have hk := Kept.alloc w (.loop { state := .ready, pending := none, fn := q, tmps, params := ps, assign := as, body := c, defers := d })
  refine hM.add hk (aK hL) (Nat.le_refl _) (fun G' hE _ e2 _ => ⟨w.heap.size, d, q, tmps, e2, by unfold Gst.nb; rw [hE.w0]; exact .inl hM.kept.size, ew w _, rfl, hs, fun m => (hkv m).ext hE⟩)
theorem yx {env : Env} (hb : G.b = env.b) (hM : MemOk P G w) {id : Nat} (h : mI env (some id) = true) {g : Nat} (hg : G.bk id = some g) : ∃ r : Loop, w.heap[g]? = some (.loop r) := by
 simp only [mI] at h
 split at h
 ·rename_i x1 x2 x3 x4 x5 x6 x7 hl
  rw [← hb] at hl
  obtain ⟨r, hr, _⟩ := kD hM (ak hl) hg
  exact ⟨r, hr⟩
 ·cases h
theorem uT {env : Env} (hb : G.b = env.b) (hM : MemOk P G w) {ro l : Option Nat} (hro : fO G ro l) (hrl : mI env ro = true) {L : Nat} (hL : au G.b L = true) {df : List Deferred} (hmk : Mk G w df) (q : FuncId) {tmps : Array Value} {s : List (Nat × K)} {ps : Array Nat} {as c : Code} (hs : kX s = true) (hkv : ∀ m, KV P G w (fun _ => undef) (ofS s m) (tmps.getD m undef)) :
    ∃ g mk w' G', (Instr.enterLoop q tmps ps as c l).run P w = .ok (g, mk) w' ∧ G'.b = ao G.b [(L, .live (.lop .ready none s tmps.size ps as c))] ∧ G.Ext w G' w' ∧ MemOk P G' w' ∧ G'.bk L = some g ∧ Mk G' w' (mk ++ df) := by
  cases ro with
  | none =>
    have hro : l = none := hro
    subst hro
    obtain ⟨hM1, hE1⟩ := zF hM
    obtain ⟨hM2, hE2⟩ := vh (L := L) (q := q) (tmps := tmps) (d := w.heap.size) (ps := ps) (as := as) (c := c) hM1 hL hs (fun m => (hkv m).ext hE1)
    refine ⟨_, _, _, _, run_enterLoop_outer q tmps ps as c, rfl, hE1.trans hE2, hM2, by simp [Gst.add], ?_⟩
    obtain ⟨rs, e, hn, hr⟩ := (hmk.ext (hE1.trans hE2))
    have hlt : ∀ r ∈ rs, r < w.heap.size := by
      obtain ⟨rs', e', _, hr'⟩ := hmk
      have : rs = rs' := by
        have h2 : rs.map kG = rs'.map kG := e.symm.trans e'
        have inj : ∀ x y, kG x = kG y → x = y := fun x y h => by
          unfold kG at h
          injection h with h1 _
          injection h1
        exact List.map_inj_right inj |>.1 h2
      intro r h
      rw [this] at h
      exact (hr' r h).2.2.1
    refine ⟨w.heap.size :: rs, by rw [e]; rfl, List.nodup_cons.2 ⟨fun h => Nat.lt_irrefl _ (hlt _ h), hn⟩, fun r h => ?_⟩
    rcases List.mem_cons.1 h with rfl | h
    · refine ⟨.inr rfl, hM.kept.size, by simp; omega, ?_⟩
      have h1 : (w.alloc (.deferred (some []))).heap[w.heap.size]? = some (.deferred (some [])) := ew w _
      have h2 := (Kept.alloc (w.alloc (.deferred (some []))) (.loop { state := .ready, pending := none, fn := q, tmps, params := ps, assign := as, body := c, defers := w.heap.size })).block w.heap.size (by simp)
      exact h2.trans h1
    · exact hr r h
  | some id =>
    obtain ⟨_, g, hg, rfl⟩ := hro
    obtain ⟨r, hr⟩ := yx hb hM hrl hg
    obtain ⟨hM2, hE2⟩ := vh (L := L) (q := q) (tmps := tmps) (d := r.defers) (ps := ps) (as := as) (c := c) hM hL hs hkv
    exact ⟨_, _, _, _, run_enterLoop_inner hr q tmps ps as c, rfl, hE2, hM2, by simp [Gst.add], hmk.ext hE2⟩
theorem uJ {tm : Nat → Value} : ∀ (ps : List Nat) (vs : List Value) (ks : List K) (s : Nat → K) (t : Array Value), ps.length = vs.length → ks.length = vs.length → (∀ p ∈ ps, p < t.size) → (∀ n, KV P G w tm (s n) (tmV t n)) → (∀ n, nog (s n) = true) →
    (∀ (i : Nat) k, ks[i]? = some k → ∃ v, vs[i]? = some v ∧ nog k = true ∧ KV P G w tm k v) →
    (∀ n, KV P G w tm (lx s ps ks n) (tmV ((ps.zip vs).foldl (fun t q => t.setIfInBounds q.1 q.2) t) n)) ∧ (∀ n, nog (lx s ps ks n) = true) ∧ ((ps.zip vs).foldl (fun t q => t.setIfInBounds q.1 q.2) t).size = t.size
  | [], vs, ks, s, t, _, _, _, h, hn, _ => by
    have e : ∀ m, lx s [] ks m = s m := fun _ => by cases ks <;> rfl
    exact ⟨fun n => by rw [e]; exact h n, fun n => by rw [e]; exact hn n, rfl⟩
  | p :: ps, v :: vs, k :: ks, s, t, h1, h2, h3, h, hn, h4 => by
    obtain ⟨v', e, hk1, hk2⟩ := h4 0 k rfl
    have e : v = v' := by simpa using e
    subst e
    have := uJ (tm := tm) ps vs ks (fun n => if n = p then k else s n) (t.setIfInBounds p v) (by simpa using h1) (by simpa using h2) (fun q hq => by simpa using h3 q (List.mem_cons_of_mem _ hq)) (fun n => ?_) (fun n => ?_) (fun i k' hk' => ?_)
    · obtain ⟨a1, a2, a3⟩ := this
      exact ⟨a1, a2, by simpa using a3⟩
    · by_cases e : n = p
      · subst e
        have hlt := h3 n (List.mem_cons_self ..)
        rw [if_pos rfl]
        have : tmV (t.setIfInBounds n v) n = v := by simp [tmV, hlt]
        rw [this]
        exact hk2
      · rw [if_neg e]
        have : tmV (t.setIfInBounds p v) n = tmV t n := by
          unfold tmV
          rw [Array.getD_eq_getD_getElem?, Array.getD_eq_getD_getElem?, Array.getElem?_setIfInBounds_ne (Ne.symm e)]
        rw [this]
        exact h n
    · by_cases e : n = p
      · rw [if_pos e]; exact hk1
      · rw [if_neg e]; exact hn n
    · exact h4 (i + 1) k' (by simpa using hk')
  | _ :: _, [], _, _, _, h1, _, _, _, _, _ => by simp at h1
  | _ :: _, _ :: _, [], _, _, _, h2, _, _, _, _ => by simp at h2
end
end Go.Proofs.Ytiaplhcifflibaa
namespace Go.Proofs.Ytiaplhcifflibaa
open Go Go.RowKit
section
variable {P : Program} {X : bv} {a : Act} {w : World} {c : Cx} {R0 : Ending → World → Prop} {Z : K → Prop} {m : c7}
theorem en {stk : List bq} {fx : Fx} {todo todo' : List Item} {env : Env} (h : ∀ (a : Act) (w : World) (b : Frame) (cs : List Frame), step P (lone (b.atR a todo) cs w) = .next (lone (b.atR a todo') cs w)) (hg : bP P X c R0 stk fx todo' env) : bP P X c R0 stk fx todo env := by
 intro frs b a w hk hfn hS cs
 obtain ⟨v, w', fr, h1, h2, h3⟩ := hg frs b a w hk hfn hS cs
 exact ⟨v, w', fr, h1, .head (h a w b _) h2, h3⟩
theorem uS {D : ar} {c0 : Cx} {env : Env} {x : Operand} {b : Bool} (h : tD env.s x = some b) {a : Act} {w : World} (hS : Sim P D c0 env a w) : a.eval x = .bool b := by
 obtain ⟨⟨G, _, _, _, _, hs⟩, _⟩ := hS
 unfold tD at h
 split at h
 ·rename_i t
  split at h
  ·rename_i b' e
   have h := Option.some.inj h
   subst h
   have := hs t
   rw [e] at this
   exact this
  ·cases h
 ·cases h
theorem wH {D : ar} {c0 : Cx} {env : Env} {x : Operand} {b : Bool} {a : Act} {w : World} (hS : Sim P D c0 env a w) (hx : a.eval x = .bool b) : Sim P D c0 (mR env x b) a w := by
 unfold mR
 split
 ·rename_i t
  obtain ⟨⟨G, h1, h2, h3, h4, hs⟩, h5, h6, h7⟩ := hS
  refine ⟨⟨G, h1, h2, h3, h4, fun n => ?_⟩, fun n => ?_, h6, h7⟩
  ·show KV P G w (tmF a) (if n = t then .lit b else env.s n) (tmF a n)
   split
   ·rename_i e
    subst e
    exact hx
   ·exact hs n
  ·show Go.Proofs.Ytiaplhcifflibaa.flat (if n = t then .lit b else env.s n) = true
   split
   ·rfl
   ·exact h5 n
 ·exact hS
theorem fl {stk : List bq} {fx : Fx} {todo todo' : List Item} {env' : Env} (hg : bP P X c R0 stk fx todo' env')
    {frs : List Frame} {b : Frame} {a a' : Act} {w w' : World} (hk : b.kind = .normal) (hfn : fx.ro = none → P.funcs[b.fn]? = some fx.fn) (hS : Sim P (X.at fx) (c.stk P stk frs a.defers fx.ro b.roundOf) env' a' w') {cs : List Frame}
    (hst : Steps P (lone (b.atR a todo) (frs ++ cs) w) (lone (b.atR a' todo') (frs ++ cs) w')) : ∃ v w' fr, R0 (.returned v) w' ∧ Steps P (lone (b.atR a todo) (frs ++ cs) w) (lone fr cs w') ∧ fr.fn = (frs.getLastD b).fn ∧ fr.leaving P w' (.returned v) := by
  have hd : a'.defers = a.defers := hS.defers
  rw [← hd] at hS
  obtain ⟨v, w2, fr, h1, h2, h3⟩ := hg frs b a' w' hk hfn hS cs
  exact ⟨v, w2, fr, h1, hst.trans h2, h3⟩
theorem r9 (frs : List Frame) {f b : Frame} (h : f.fn = b.fn) : (frs.getLastD f).fn = (frs.getLastD b).fn := by
 cases frs with
 | nil => exact h
 | cons x l => rw [List.getLastD_cons, List.getLastD_cons]
theorem lU {G : Gst} {tm : Nat → Value} : ∀ {cap : K} {vs : List Value}, KV P G w tm cap (.tuple vs.toArray) → nog cap = true → wM cap = true → vs.length = (gQ cap).length ∧ ∀ (n : Nat) (k : K), (gQ cap)[n]? = some k → ∃ v, vs[n]? = some v ∧ nog k = true ∧ KV P G w tm k v := by
 intro cap
 induction cap with
 | kcons p q _ ihq =>
  intro vs h hn he
  simp only [nog, Bool.and_eq_true] at hn
  obtain ⟨x, xs, e, h1, h2⟩ := h
  have e : vs = x :: xs := by injection e with e; simpa using congrArg Array.toList e
  subst e
  obtain ⟨i1, i2⟩ := ihq h2 hn.2 he
  refine ⟨by simp [gQ, i1], fun n k hk => ?_⟩
  cases n with
  | zero =>
   have e : p = k := by simpa [gQ] using hk
   subst e
   exact ⟨x, rfl, hn.1, h1⟩
  | succ n => exact i2 n k (by simpa [gQ] using hk)
 | knil =>
  intro vs h _ _
  have h : Value.tuple vs.toArray = .tuple #[] := h
  have e : vs = [] := by injection h with e; simpa using congrArg Array.toList e
  subst e
  exact ⟨rfl, fun n k hk => by simp [gQ] at hk⟩
 | _ => intro vs _ _ he; cases he
theorem yN (hX : XOk P X) {fx fx' : Fx} {o : Oper} {env : Env} {ks : List K} (h : nX X (X.at fx) o env = some (fx', ks)) {c0 : Cx} {a : Act} {w : World} (hS : Sim P (X.at fx) c0 env a w) :
    o.guard = none ∧ fq fx.fn.ntmps o = true ∧ ∃ f args cb, P.funcs[f]? = some fx'.fn ∧ fx'.ro = none ∧ fx'.fn.body = some cb ∧ (execOp a.eval o).run P w = .ok (.enter f args) w ∧
      args.size ≤ fx'.fn.ntmps ∧ ∀ G : Gst, G.b = env.b → MemOk P G w → GlobOk P X.D.G G.av w → (∀ n, KV P G w (tmF a) (env.s n) (tmF a n)) →
        (∀ n, KV P G w (tmF { tmps := args ++ Array.replicate (fx'.fn.ntmps - args.size) undef, defers := [] }) (ce ks n) (tmF { tmps := args ++ Array.replicate (fx'.fn.ntmps - args.size) undef, defers := [] } n)) ∧ (∀ n, flat (ce ks n) = true) := by
  unfold nX at h
  split at h
  · cases h
  · rename_i hcond
    simp only [Bool.or_eq_true, not_or, Bool.not_eq_true] at hcond
    have hg : o.guard = none := by simpa using hcond.1
    have hdst : fq (X.at fx).n o = true := by simpa using hcond.2
    refine ⟨hg, hdst, ?_⟩
    have slots : ∀ {G : Gst} {args : Array Value} {N : Nat} (hN : args.size ≤ N) {ks : List K}, (∀ (n : Nat) (k : K), ks[n]? = some k → ∃ v, args[n]? = some v ∧ nog k = true ∧ KV P G w (tmF a) k v) →
        (∀ n, KV P G w (tmF { tmps := args ++ Array.replicate (N - args.size) undef, defers := [] }) (ce ks n) (tmF { tmps := args ++ Array.replicate (N - args.size) undef, defers := [] } n)) ∧ (∀ n, flat (ce ks n) = true) := by
      intro G args N hN ks hks
      refine ⟨fun n => ?_, fun n => ?_⟩
      · unfold ce
        rw [List.getD_eq_getElem?_getD]
        cases hk : ks[n]? with
        | none => trivial
        | some k =>
          obtain ⟨v, hv, hn, hkv⟩ := hks n k hk
          have e : tmF { tmps := args ++ Array.replicate (N - args.size) undef, defers := [] } n = v := by
            unfold tmF
            have hlt : n < args.size := (Array.getElem?_eq_some_iff.1 hv).1
            rw [Array.getD_eq_getD_getElem?, Array.getElem?_append, if_pos hlt, hv]
            rfl
          rw [e]
          exact hkv.tm hn
      · unfold ce
        rw [List.getD_eq_getElem?_getD]
        cases hk : ks[n]? with
        | none => rfl
        | some k => obtain ⟨_, _, hn, _⟩ := hks n k hk; exact gh hn
    split at h
    · rename_i cl ho
      split at h
      · rename_i q hq
        obtain ⟨⟨G0, hb0, hC0, hM0, hgl0, hs0⟩, _⟩ := hS
        have hr0 := gD (a := a) (tm := tmF a) (hX.at fx).toDOk hgl0 (g := none) (fun _ _ e => by cases e) hs0 (fun _ => rfl) q
        split at h
        · rename_i f hf
          split at h
          · rename_i fx1 hfx
            split at h
            · rename_i hle
              simp only [Option.some.injEq, Prod.mk.injEq] at h
              obtain ⟨rfl, rfl⟩ := h
              obtain ⟨h1, h2, h3, h4⟩ := hX.inl f fx1 hfx
              obtain ⟨cb, hcb⟩ := Option.isSome_iff_exists.1 h2
              rw [hf] at hr0
              have hr0 : a.eval q = .func (.func f) #[] #[] := hr0
              have hle : cl.args.size ≤ fx1.fn.ntmps := of_decide_eq_true hle
              refine ⟨f, cl.args.map a.eval, cb, h1, h4, hcb, ?_, by simpa using hle, fun G hb hM hgl hs => ?_⟩
              · simp only [execOp, ho, resolve, hq, hr0, Deferred.ofValue, Sem.run_bind, Sem.run_pure, Result.andThen_ok, invoke, Array.append_empty, Array.empty_append]
                exact h3 _ _
              · refine slots (by simpa using hle) (fun n k hk => ?_)
                rw [List.getElem?_map] at hk
                obtain ⟨x, hx, rfl⟩ := Option.map_eq_some_iff.1 hk
                have hx' : cl.args[n]? = some x := by simpa using hx
                exact ⟨a.eval x, by rw [Array.getElem?_map, hx']; rfl, cw _, (gD (a := a) (tm := tmF a) (hX.at fx).toDOk hgl (g := none) (fun _ _ e => by cases e) hs (fun _ => rfl) x).strip⟩
            · cases h
          · cases h
        · rename_i f cap hf
          split at h
          · rename_i fx1 hfx
            split at h
            · rename_i hle
              simp only [Bool.and_eq_true, decide_eq_true_eq] at hle
              simp only [Option.some.injEq, Prod.mk.injEq] at h
              obtain ⟨rfl, rfl⟩ := h
              obtain ⟨h1, h2, h3, h4⟩ := hX.inl f fx1 hfx
              obtain ⟨cb, hcb⟩ := Option.isSome_iff_exists.1 h2
              rw [hf] at hr0
              obtain ⟨vs, hv1, hv2⟩ := hr0
              obtain ⟨p1, _⟩ := lU hv1 hle.1.2 hle.2
              have hsz : (cl.args.map a.eval ++ vs.toArray).size ≤ fx1.fn.ntmps := by simp [p1]; exact hle.1.1
              refine ⟨f, cl.args.map a.eval ++ vs.toArray, cb, h1, h4, hcb, ?_, hsz, fun G hb hM hgl hs => ?_⟩
              · simp only [execOp, ho, resolve, hq, hv2, Deferred.ofValue, Sem.run_bind, Sem.run_pure, Result.andThen_ok, invoke, Array.empty_append]
                exact h3 _ _
              · have hrq := gD (a := a) (tm := tmF a) (hX.at fx).toDOk hgl (g := none) (fun _ _ e => by cases e) hs (fun _ => rfl) q
                rw [hf] at hrq
                obtain ⟨vs', hv1', hv2'⟩ := hrq
                have evs : vs' = vs := by
                  rw [hv2] at hv2'
                  injection hv2' with _ _ e
                  simpa using congrArg Array.toList e.symm
                subst evs
                obtain ⟨_, p2⟩ := lU hv1' hle.1.2 hle.2
                refine slots hsz (fun n k hk => ?_)
                rw [List.getElem?_append] at hk
                simp only [List.length_map, Array.length_toList] at hk
                split at hk
                · rename_i hlt
                  rw [List.getElem?_map] at hk
                  obtain ⟨x, hx, rfl⟩ := Option.map_eq_some_iff.1 hk
                  have hx' : cl.args[n]? = some x := by simpa using hx
                  exact ⟨a.eval x, by rw [Array.getElem?_append, if_pos (by simpa using hlt), Array.getElem?_map, hx']; rfl, cw _, (gD (a := a) (tm := tmF a) (hX.at fx).toDOk hgl (g := none) (fun _ _ e => by cases e) hs (fun _ => rfl) x).strip⟩
                · rename_i hlt
                  obtain ⟨v, hv, hn, hkv⟩ := p2 _ _ hk
                  exact ⟨v, by rw [Array.getElem?_append, if_neg (by simpa using hlt)]; simpa using hv, hn, hkv⟩
            · cases h
          · cases h
        · cases h
      · cases h
    · cases h
theorem vQ (hX : XOk P X) {fx fx' : Fx} {q : Operand} {env : Env} {ks : List K} (h : kP X (X.at fx) q env = some (fx', ks)) {c0 : Cx} {a : Act} {w : World} (hS : Sim P (X.at fx) c0 env a w) :
    ∃ (f : FuncId) (vs : List Value) (cb : Code), P.funcs[f]? = some fx'.fn ∧ fx'.fn.body = some cb ∧ dF P f ∧ fx'.ro = none ∧ a.eval q = .func (.func f) #[] vs.toArray ∧ vs.length = ks.length ∧
      ∀ G : Gst, G.b = env.b → MemOk P G w → GlobOk P X.D.G G.av w → (∀ n, KV P G w (tmF a) (env.s n) (tmF a n)) → ∀ (n : Nat) (k : K), ks[n]? = some k → ∃ v, vs[n]? = some v ∧ nog k = true ∧ KV P G w (tmF a) k v := by
  unfold kP at h
  obtain ⟨⟨G0, hb0, hC0, hM0, hgl0, hs0⟩, _⟩ := hS
  have hr0 := gD (a := a) (tm := tmF a) (hX.at fx).toDOk hgl0 (g := none) (fun _ _ e => by cases e) hs0 (fun _ => rfl) q
  split at h
  · rename_i f hf
    split at h
    · rename_i fx1 hfx
      simp only [Option.some.injEq, Prod.mk.injEq] at h
      obtain ⟨rfl, rfl⟩ := h
      obtain ⟨h1, h2, h3, h4⟩ := hX.inl f fx1 hfx
      obtain ⟨cb, hcb⟩ := Option.isSome_iff_exists.1 h2
      rw [hf] at hr0
      exact ⟨f, [], cb, h1, hcb, h3, h4, hr0, rfl, fun _ _ _ _ _ n k hk => by simp at hk⟩
    · cases h
  · rename_i f cap hf
    split at h
    · rename_i fx1 hfx
      split at h
      · rename_i hcap
        simp only [Bool.and_eq_true] at hcap
        simp only [Option.some.injEq, Prod.mk.injEq] at h
        obtain ⟨rfl, rfl⟩ := h
        obtain ⟨h1, h2, h3, h4⟩ := hX.inl f fx1 hfx
        obtain ⟨cb, hcb⟩ := Option.isSome_iff_exists.1 h2
        rw [hf] at hr0
        obtain ⟨vs, hv1, hv2⟩ := hr0
        obtain ⟨p1, _⟩ := lU hv1 hcap.1 hcap.2
        refine ⟨f, vs, cb, h1, hcb, h3, h4, hv2, p1, fun G hb hM hgl hs n k hk => ?_⟩
        have hrq := gD (a := a) (tm := tmF a) (hX.at fx).toDOk hgl (g := none) (fun _ _ e => by cases e) hs (fun _ => rfl) q
        rw [hf] at hrq
        obtain ⟨vs', hv1', hv2'⟩ := hrq
        have evs : vs' = vs := by
          rw [hv2] at hv2'
          injection hv2' with _ _ e
          simpa using congrArg Array.toList e.symm
        subst evs
        exact (lU hv1' hcap.1 hcap.2).2 n k hk
      · cases h
    · cases h
  · cases h
theorem wd (hX : XOk P X) {stk : List bq} {fx fx' : Fx} {ops : Array Oper} {i : Nat} {l : List Nat} {k : List Item} {o : Oper} {env : Env} {ks : List K} (hi : ops[i]? = some o) (hnd : cy o = false) (h : nX X (X.at fx) o env = some (fx', ks)) {lim : Nat}
    (hg : bP P X c R0 (⟨fx, .inRegion ops l :: k, o.dst, env.s, none⟩ :: stk) fx' (aG fx'.fn) { s := ce ks, b := env.b, lim }) : bP P X c R0 stk fx (.inRegion ops (i :: l) :: k) env := by
  intro frs b a w hk hfn hS cs
  obtain ⟨hgd, hdst, f, args, cb, hf, hro', hcb, hrun, hsz, hsl⟩ := yN hX h hS
  obtain ⟨⟨G, hb, hC, hM, hgl, hs⟩, hfl, hsize, hdf⟩ := hS
  obtain ⟨hs1, hs2⟩ := hsl G hb hM hgl hs
  obtain ⟨hj1, hj2, hj3⟩ : dR P stk frs G w ∧ Mk G w (a.defers ++ frs.flatMap (·.defers)) ∧ fO G fx.ro b.roundOf := hC.J
  have hw : Region.wanted o (yielded ops a.tmps) = true := by unfold Region.wanted; rw [hgd]
  let b' : Frame := { (default : Frame) with fn := f, kind := .normal }
  let fr0 : Frame := b.atR a (.inRegion ops (i :: l) :: k)
  have henter : Frame.enter P f args .normal = b'.atR { tmps := args ++ Array.replicate (fx'.fn.ntmps - args.size) undef, defers := [] } (aG fx'.fn) := by
    simp [Frame.enter, Frame.atR, hf, hcb, b', aG]
    rfl
  have hstep : step P (lone fr0 (frs ++ cs) w) = .next (lone (Frame.enter P f args .normal) (fr0 :: (frs ++ cs)) w) :=
    step_lone_go (by
      have hgs := stepGR_op (P := P) (b := b) (k := k) (cs := frs ++ cs) (w := w) (rest := l) hi hw
      rw [Oper.semAt_eq _ _ _ (nt hnd)] at hgs
      show (stepG P true { frame := b.atR a (.inRegion ops (i :: l) :: k), callers := frs ++ cs, status := .running, dying := none } w).bare = _
      rw [hgs]; simp [stepG.apply, hrun, Frame.atR, fr0])
  have hfin : ∀ v, fr0.finish v = fr0.atR ((⟨fr0.tmps, fr0.defers⟩ : Act).put o.dst v) (.inRegion ops l :: k) := by
    intro v
    show (b.atR a (.inRegion ops (i :: l) :: k)).finish v = _
    rw [Frame.finish_atR, hi]; rfl
  have hS' : Sim P (X.at fx') (c.stk P (⟨fx, .inRegion ops l :: k, o.dst, env.s, none⟩ :: stk) (fr0 :: frs) [] fx'.ro none) { s := ce ks, b := env.b, lim } { tmps := args ++ Array.replicate (fx'.fn.ntmps - args.size) undef, defers := [] } w :=
    ⟨⟨G, hb, ⟨hC.O, hC.w0, hC.own, ⟨⟨⟨hs, hfl, hsize, hk, hfn, hj3, hdst, hfin⟩, hj1⟩, hj2, by rw [hro']; rfl⟩⟩, hM, hgl, hs1⟩, hs2, by simp [bv.at]; omega, rfl⟩
  obtain ⟨v, w', fr, q1, q2, q3, q4⟩ := hg (fr0 :: frs) b' { tmps := args ++ Array.replicate (fx'.fn.ntmps - args.size) undef, defers := [] } w rfl (fun _ => hf) hS' cs
  rw [← henter] at q2
  exact ⟨v, w', fr, q1, .head hstep q2, by rw [q3, List.getLastD_cons]; exact r9 frs rfl, q4⟩
theorem vR (hX : XOk P X) {stk : List bq} {fx fx' : Fx} {q : Operand} {ps : Array Nat} {as bd : Code} {k : List Item} {env : Env} {ks : List K} (h : kP X (X.at fx) q env = some (fx', ks)) {L lim : Nat} (hL : au env.b L = true) (hrl : mI env fx.ro = true) (hsz : 1 + ks.length ≤ fx'.fn.ntmps) {ls : List Nat}
    (hg : bP P X c R0 (⟨fx, k, none, env.s, some L⟩ :: stk) fx' (aG fx'.fn) { s := ce (.yld L :: ks), b := ao env.b [(L, .live (.lop .ready none (fg env.s ls) fx.fn.ntmps ps as bd))], lim }) : bP P X c R0 stk fx (.code (.rangeFunc q ps as bd) :: k) env := by
  intro frs b a w hk hfn hS cs
  obtain ⟨f, vs, cb, hf, hcb, hcan, hro', heval, hvl, hks⟩ := vQ hX h hS
  obtain ⟨⟨G, hb, hC, hM, hgl, hs⟩, hfl, hsize, hdf⟩ := hS
  obtain ⟨hj1, hj2, hj3⟩ : dR P stk frs G w ∧ Mk G w (a.defers ++ frs.flatMap (·.defers)) ∧ fO G fx.ro b.roundOf := hC.J
  have hsize : a.tmps.size = fx.fn.ntmps := hsize
  have hnl := nk env.s ls
  obtain ⟨g, mk, w1, G1, hrun, hb1, hE, hM1, hg1, hmk1⟩ := uT hb hM hj3 hrl (L := L) (by rw [hb]; exact hL) hj2 b.fn (tmps := a.tmps) (ps := ps) (as := as) (c := bd) hnl (fun m => (kE (hs m) ls).tm (ss m hnl))
  rw [hsize, hb] at hb1
  let b' : Frame := { (default : Frame) with fn := f, kind := .normal }
  let fr0 : Frame := b.atR { a with defers := mk ++ a.defers } (.inRangeFunc g :: k)
  let args : Array Value := #[.func (.yield g) #[] #[]] ++ vs.toArray
  have hasz : args.size = 1 + ks.length := by simp [args, hvl]; omega
  have hres : (resolve a.eval (rangeCall q g) 0).run P w1 = .ok { target := .fn (.func f) vs.toArray, args := #[.func (.yield g) #[] #[]] } w1 := by
    have hm : Array.map a.eval #[Operand.const (.func (.yield g) #[] #[])] = #[.func (.yield g) #[] #[]] := by simp [Act.eval]
    simp only [resolve, rangeCall, heval, Deferred.ofValue, Sem.run_pure, Array.empty_append, hm]
  have hinv : (invoke (.fn (.func f) vs.toArray) #[.func (.yield g) #[] #[]]).run P w1 = .ok (.enter f args) w1 := hcan args w1
  have hstep := stepR_rangeFunc (P := P) (b := b) (a := a) (k := k) (cs := frs ++ cs) (g := q) (ps := ps) (assign := as) (body := bd) hrun hres hinv
  have henter : Frame.enter P f args .normal = b'.atR { tmps := args ++ Array.replicate (fx'.fn.ntmps - args.size) undef, defers := [] } (aG fx'.fn) := by
    simp [Frame.enter, Frame.atR, hf, hcb, b', aG]
    rfl
  have hL0 : (∃ x, G1.b L = .live x ∨ G1.b L = .dead) := ⟨.lop .ready none (fg env.s ls) fx.fn.ntmps ps as bd, .inl (by rw [hb1]; simp [ao])⟩
  have slots : ∀ n, KV P G1 w1 (tmF { tmps := args ++ Array.replicate (fx'.fn.ntmps - args.size) undef, defers := [] }) (ce (.yld L :: ks) n) (tmF { tmps := args ++ Array.replicate (fx'.fn.ntmps - args.size) undef, defers := [] } n) ∧ flat (ce (.yld L :: ks) n) = true := by
    have tmv : ∀ n v, args[n]? = some v → tmF { tmps := args ++ Array.replicate (fx'.fn.ntmps - args.size) undef, defers := [] } n = v := fun n v hv => by
      unfold tmF
      have hlt : n < args.size := (Array.getElem?_eq_some_iff.1 hv).1
      rw [Array.getD_eq_getD_getElem?, Array.getElem?_append, if_pos hlt, hv]
      rfl
    intro n
    cases n with
    | zero =>
      have e : ce (.yld L :: ks) 0 = .yld L := rfl
      rw [e, tmv 0 (.func (.yield g) #[] #[]) (by simp [args])]
      exact ⟨⟨hL0, g, hg1, rfl⟩, rfl⟩
    | succ n =>
      have e : ce (.yld L :: ks) (n + 1) = ks.getD n .any := by simp [ce]
      rw [e, List.getD_eq_getElem?_getD]
      cases hkn : ks[n]? with
      | none => exact ⟨trivial, rfl⟩
      | some kk =>
        obtain ⟨v, hv, hn, hkv⟩ := hks G hb hM hgl hs n kk hkn
        rw [tmv (n + 1) v (by simp only [args, Array.getElem?_append]; rw [if_neg (by simp)]; simpa using hv)]
        exact ⟨(hkv.ext hE).tm hn, gh hn⟩
  have hS' : Sim P (X.at fx') (c.stk P (⟨fx, k, none, env.s, some L⟩ :: stk) (fr0 :: frs) [] fx'.ro none) { s := ce (.yld L :: ks), b := ao env.b [(L, .live (.lop .ready none (fg env.s ls) fx.fn.ntmps ps as bd))], lim } { tmps := args ++ Array.replicate (fx'.fn.ntmps - args.size) undef, defers := [] } w1 := by
    have hC1 := hC.ext hE
    refine ⟨⟨G1, hb1, ⟨hC1.O, hC1.w0, hC1.own, ⟨⟨⟨fun n => (hs n).ext hE, hfl, hsize, hk, hfn, hj3.ext0 hE.to0, rfl, ⟨hL0, g, hg1, fun v => ?_⟩⟩, hj1.ext0 hE.to0⟩, ?_, by rw [hro']; rfl⟩⟩, hM1, hgl.lat hE.lat, fun n => (slots n).1⟩, fun n => (slots n).2, ?_, rfl⟩
    · exact finish_atR_inRangeFunc g v
    · show Mk G1 w1 ((mk ++ a.defers) ++ frs.flatMap (·.defers))
      rw [List.append_assoc]
      exact hmk1
    · simp [bv.at]; omega
  obtain ⟨v, w', fr, q1, q2, q3, q4⟩ := hg (fr0 :: frs) b' { tmps := args ++ Array.replicate (fx'.fn.ntmps - args.size) undef, defers := [] } w1 rfl (fun _ => hf) hS' cs
  rw [← henter] at q2
  exact ⟨v, w', fr, q1, .head hstep q2, by rw [q3, List.getLastD_cons]; exact r9 frs rfl, q4⟩
theorem yH (hX : XOk P X) {fx : Fx} {o : Oper} {env : Env} {id : Nat} {ks : List K} (h : oF (X.at fx) o env = some (id, ks)) {c0 : Cx} {a : Act} {w : World} (hS : Sim P (X.at fx) c0 env a w) :
    o.guard = none ∧ fq fx.fn.ntmps o = true ∧ ∃ g args, (∀ (r : Loop), w.heap[g]? = some (.loop r) → args.size = r.params.size → (execOp a.eval o).run P w = .ok (.round g r.fn ((r.params.zip args).foldl (fun tmps (t, a) => tmps.setIfInBounds t a) r.tmps) r.assign r.body) w) ∧ args.size = ks.length ∧
      ∀ G : Gst, G.b = env.b → MemOk P G w → GlobOk P X.D.G G.av w → (∀ n, KV P G w (tmF a) (env.s n) (tmF a n)) → (∃ x, G.b id = .live x ∨ G.b id = .dead) ∧ G.bk id = some g ∧ ∀ (n : Nat) (k : K), ks[n]? = some k → ∃ v, args.toList[n]? = some v ∧ nog k = true ∧ KV P G w (tmF a) k v := by
  unfold oF at h
  split at h
  · cases h
  · rename_i hcond
    simp only [Bool.or_eq_true, not_or, Bool.not_eq_true] at hcond
    have hg : o.guard = none := by simpa using hcond.1
    have hdst : fq (X.at fx).n o = true := by simpa using hcond.2
    refine ⟨hg, hdst, ?_⟩
    split at h
    · rename_i cl ho
      split at h
      · rename_i q hq
        obtain ⟨⟨G0, hb0, hC0, hM0, hgl0, hs0⟩, _⟩ := hS
        have hr0 := gD (a := a) (tm := tmF a) (hX.at fx).toDOk hgl0 (g := none) (fun _ _ e => by cases e) hs0 (fun _ => rfl) q
        split at h
        · rename_i id' hid
          simp only [Option.some.injEq, Prod.mk.injEq] at h
          obtain ⟨rfl, rfl⟩ := h
          rw [hid] at hr0
          obtain ⟨_, g, _, hv⟩ := hr0
          refine ⟨g, cl.args.map a.eval, fun r hr hsz => ?_, by simp, fun G hb hM hgl hs => ?_⟩
          · simp only [execOp, ho, resolve, hq, hv, Deferred.ofValue, Sem.run_bind, Sem.run_pure, Result.andThen_ok, invoke, Array.empty_append]
            exact run_yield hr hsz
          · have hrq := gD (a := a) (tm := tmF a) (hX.at fx).toDOk hgl (g := none) (fun _ _ e => by cases e) hs (fun _ => rfl) q
            rw [hid] at hrq
            obtain ⟨h1, g', h2, hv'⟩ := hrq
            have eg : g' = g := by
              rw [hv] at hv'
              injection hv' with e _ _
              injection e with e
              exact e.symm
            subst eg
            refine ⟨h1, h2, fun n k hk => ?_⟩
            rw [List.getElem?_map] at hk
            obtain ⟨x, hx, rfl⟩ := Option.map_eq_some_iff.1 hk
            exact ⟨a.eval x, by rw [Array.toList_map, List.getElem?_map, hx]; rfl, cw _, (gD (a := a) (tm := tmF a) (hX.at fx).toDOk hgl (g := none) (fun _ _ e => by cases e) hs (fun _ => rfl) x).strip⟩
        · cases h
      · cases h
    · cases h
theorem yF (ps : Array Nat) (vs : Array Value) (t : Array Value) : (ps.zip vs).foldl (fun tmps (t, a) => tmps.setIfInBounds t a) t = (ps.toList.zip vs.toList).foldl (fun t q => t.setIfInBounds q.1 q.2) t := by
 rw [← Array.foldl_toList, Array.toList_zip]
theorem vu (hX : XOk P X) {stk : List bq} {fx fx' : Fx} {ops : Array Oper} {i : Nat} {l : List Nat} {k : List Item} {o : Oper} {env : Env} {id : Nat} {ks : List K} (hi : ops[i]? = some o) (hnd : cy o = false) (h : oF (X.at fx) o env = some (id, ks)) {pend : Option Code} {s : List (Nat × K)} {nn : Nat} {ps : Array Nat} {as bd : Code} (hl : aj env.b id = some (.lop .ready pend s nn ps as bd))
    (hlen : ks.length = ps.size) (hnn : nn = fx'.fn.ntmps) (hps : ∀ p ∈ ps.toList, p < nn) {lim : Nat}
    (hg : bP P X c R0 (⟨fx, .inRegion ops l :: k, o.dst, env.s, none⟩ :: stk) (fx'.rd id) [.code as, .beginRound, .code bd] { s := lx (ofS s) ps.toList ks, b := env.b, lim }) : bP P X c R0 stk fx (.inRegion ops (i :: l) :: k) env := by
  intro frs b a w hk hfn hS cs
  obtain ⟨hgd, hdst, g, args, hrun, hal, hfacts⟩ := yH hX h hS
  obtain ⟨⟨G, hb, hC, hM, hgl, hs⟩, hfl, hsize, hdf⟩ := hS
  obtain ⟨hj1, hj2, hj3⟩ : dR P stk frs G w ∧ Mk G w (a.defers ++ frs.flatMap (·.defers)) ∧ fO G fx.ro b.roundOf := hC.J
  obtain ⟨hu, hbk, hargs⟩ := hfacts G hb hM hgl hs
  rw [← hb] at hl
  obtain ⟨r, hr, e1, e2, e3, e4, e5, e6, e7, e8, _⟩ := kD hM (ak hl) hbk
  have hpsz : args.size = r.params.size := by rw [e3, ← hlen, hal]
  have hrun := hrun r hr hpsz
  rw [yF, e3, e4, e5] at hrun
  obtain ⟨p1, p2, p3⟩ := uJ (P := P) (G := G) (w := w) (tm := fun _ => undef) ps.toList args.toList ks (ofS s) r.tmps (by simp; omega) (by simp [hal]) (fun p hp => by rw [e6]; exact hps p hp) e8 (fun n => ss n e7) (fun j kk hj => by
    obtain ⟨v, hv, hn, hkv⟩ := hargs j kk hj
    exact ⟨v, hv, hn, hkv.tm hn⟩)
  have hw : Region.wanted o (yielded ops a.tmps) = true := by unfold Region.wanted; rw [hgd]
  let T := (ps.toList.zip args.toList).foldl (fun t q => t.setIfInBounds q.1 q.2) r.tmps
  let b' : Frame := { (default : Frame) with fn := r.fn, kind := .normal, roundOf := some g }
  let fr0 : Frame := b.atR a (.inRegion ops (i :: l) :: k)
  have hstep : step P (lone fr0 (frs ++ cs) w) = .next (lone (b'.atR ⟨T, []⟩ [.code as, .beginRound, .code bd]) (fr0 :: (frs ++ cs)) w) :=
    step_lone_go (by
      have hgs := stepGR_op (P := P) (b := b) (k := k) (cs := frs ++ cs) (w := w) (rest := l) hi hw
      rw [Oper.semAt_eq _ _ _ (nt hnd)] at hgs
      show (stepG P true { frame := b.atR a (.inRegion ops (i :: l) :: k), callers := frs ++ cs, status := .running, dying := none } w).bare = _
      rw [hgs]; simp [stepG.apply, hrun, Frame.atR, fr0, Frame.round, b', T])
  have hfin : ∀ v, fr0.finish v = fr0.atR ((⟨fr0.tmps, fr0.defers⟩ : Act).put o.dst v) (.inRegion ops l :: k) := by
    intro v
    show (b.atR a (.inRegion ops (i :: l) :: k)).finish v = _
    rw [Frame.finish_atR, hi]; rfl
  have hS' : Sim P (X.at (fx'.rd id)) (c.stk P (⟨fx, .inRegion ops l :: k, o.dst, env.s, none⟩ :: stk) (fr0 :: frs) [] (fx'.rd id).ro (some g)) { s := lx (ofS s) ps.toList ks, b := env.b, lim } ⟨T, []⟩ w :=
    ⟨⟨G, hb, ⟨hC.O, hC.w0, hC.own, ⟨⟨⟨hs, hfl, hsize, hk, hfn, hj3, hdst, hfin⟩, hj1⟩, hj2, ⟨hu, g, hbk, rfl⟩⟩⟩, hM, hgl, fun n => (p1 n).tm (p2 n)⟩, fun n => gh (p2 n), by
      show T.size = fx'.fn.ntmps
      rw [← hnn, ← e6]
      exact p3, rfl⟩
  obtain ⟨v, w', fr, q1, q2, q3, q4⟩ := hg (fr0 :: frs) b' ⟨T, []⟩ w rfl (fun h => by cases h) hS' cs
  exact ⟨v, w', fr, q1, .head hstep q2, by rw [q3, List.getLastD_cons]; exact r9 frs rfl, q4⟩
theorem vr {stk : List bq} {fx : Fx} {k : List Item} {env : Env} {id : Nat} (hro : fx.ro = some id) {pend : Option Code} {s : List (Nat × K)} {nn : Nat} {ps : Array Nat} {as bd : Code} (hl : aj env.b id = some (.lop .ready pend s nn ps as bd))
    (hg : bP P X c R0 stk fx k { env with b := ao env.b [(id, .live (.lop .busy pend s nn ps as bd))] }) : bP P X c R0 stk fx (.beginRound :: k) env := by
  intro frs b a w hk hfn hS cs
  obtain ⟨⟨G, hb, hC, hM, hgl, hs⟩, hfl, hsize, hdf⟩ := hS
  have hj : dR P stk frs G w ∧ Mk G w (a.defers ++ frs.flatMap (·.defers)) ∧ fO G fx.ro b.roundOf := hC.J
  have hj3 := hj.2.2
  rw [hro] at hj3
  obtain ⟨_, g, hbk, hrof⟩ := hj3
  rw [← hb] at hl
  obtain ⟨r, hr, e1, e2, _, _, _, _, _, _, ht⟩ := kD hM (ak hl) hbk
  obtain ⟨hM', hE⟩ := ht .busy pend
  have hbr := run_beginRound (P := P) hr e1
  have e : ({ r with state := .busy, pending := pend } : Loop) = { r with state := .busy } := by rw [← e2]
  rw [e] at hM' hE
  refine fl hg hk hfn ⟨⟨_, sT hb, hC.ext hE, hM', hgl.lat hE.lat, fun n => (hs n).ext hE⟩, hfl, hsize, hdf⟩ (.one (stepR_beginRound hrof hbr))
theorem ml {rec : List bq → Fx → List Item → Env → ae} (hrec : ∀ stk fx todo env, aF P X c R0 Z (rec stk fx todo env) → bP P X c R0 stk fx todo env) {stk : List bq} {fx : Fx} {todo : List Item} {env : Env} {id : Nat} {jump : Option Code} (hro : fx.ro = some id)
    (hstep : ∀ (a : Act) (w w' : World) (b f : Frame) (cs : List Frame) (g : Nat) (v : Value), b.roundOf = some g → b.kind = .normal → (Instr.endRound g jump).run P w = .ok v w' → step P (lone (b.atR a todo) (f :: cs) w) = .next (lone (f.finish v) cs w'))
    (h : aF P X c R0 Z (jf rec stk env id jump)) : bP P X c R0 stk fx todo env := by
  cases stk with
  | nil => exact h.elim
  | cons ct stk =>
    unfold jf at h
    simp only at h
    split at h
    · exact h.elim
    · rename_i hrng
      have hrng : ct.rng = none := by simpa using hrng
      split at h
      · rename_i st pend s nn ps as bd hl
        intro frs b a w hk hfn hS cs
        obtain ⟨⟨G, hb, hC, hM, hgl, hs⟩, hfl, hsize, hdf⟩ := hS
        have hj : dR P (ct :: stk) frs G w ∧ Mk G w (a.defers ++ frs.flatMap (·.defers)) ∧ fO G fx.ro b.roundOf := hC.J
        have hj3 := hj.2.2
        rw [hro] at hj3
        obtain ⟨_, g, hbk, hrof⟩ := hj3
        rw [← hb] at hl
        obtain ⟨r, hr, e1, e2, _, _, _, _, _, _, ht⟩ := kD hM (ak hl) hbk
        obtain ⟨hM', hE⟩ := ht (if jump.isNone then .ready else .done) jump
        cases frs with
        | nil => exact hj.1.elim
        | cons f frs =>
          obtain ⟨hf, hj1⟩ := hj.1
          have hback := hf.back
          rw [hrng] at hback
          have hst := hstep a w _ b f (frs ++ cs) g _ hrof hk (run_endRound jump hr)
          rw [hback] at hst
          have hf1 := hf.ext0 hE.to0
          have hmk : Mk G w (f.defers ++ frs.flatMap (·.defers)) := by
            obtain ⟨rs, e0, hn0, hr0⟩ := hj.2.1
            obtain ⟨rs1, rs2, q1, q2, q3⟩ := List.map_eq_append_iff.1 e0.symm
            subst q1
            exact ⟨rs2, q3.symm, (List.nodup_append.1 hn0).2.1, fun r hr => hr0 r (List.mem_append_right _ hr)⟩
          have hS' : Sim P (X.at ct.fx) (c.stk P stk frs f.defers ct.fx.ro f.roundOf) { s := put ct.s ct.dst (.val .bool jump.isNone), b := ao env.b [(id, .live (.lop (if jump.isNone then .ready else .done) jump s nn ps as bd))], lim := env.lim } ((⟨f.tmps, f.defers⟩ : Act).put ct.dst (.bool jump.isNone)) (w.putObj g (.loop { r with state := if jump.isNone then .ready else .done, pending := jump })) := by
            have hC1 := hC.ext hE
            refine ⟨⟨_, sT hb, ⟨hC1.O, hC1.w0, hC1.own, hj1.ext0 hE.to0, hmk.ext hE, hf1.ro⟩, hM', hgl.lat hE.lat, ?_⟩, eH hf.flat rfl, ?_, ?_⟩
            · exact jp (a := ⟨f.tmps, f.defers⟩) (o := { (default : Oper) with dst := ct.dst }) rfl hf.flat hf1.kv hf.size hf.dst (fun d hd => aC.2 rfl)
            · cases hd : ct.dst <;> simp [Act.put, hf.size, bv.at]
            · cases hd : ct.dst <;> simp [Act.put, Cx.stk]
          have hdd : ((⟨f.tmps, f.defers⟩ : Act).put ct.dst (.bool jump.isNone)).defers = f.defers := by cases ct.dst <;> rfl
          obtain ⟨v, w', fr, q1, q2, q3, q4⟩ := hrec _ _ _ _ h frs f _ _ hf.kind hf.fn (by rw [hdd]; exact hS') cs
          exact ⟨v, w', fr, q1, .head hst q2, by rw [q3, List.getLastD_cons], q4⟩
      · exact h.elim
theorem pH (hX : XOk P X) (hZ : ∀ fx env, aF P X c R0 Z (rM X m fx env) → ∀ a w, Sim P (X.at fx) (c.stk P [] [] [] none none) env a w → ∃ v, (results fx.fn a.tmps).run P w = .ok v w ∧ R0 (.returned v) w)
    {rec : List bq → Fx → List Item → Env → ae} (hrec : ∀ stk fx todo env, aF P X c R0 Z (rec stk fx todo env) → bP P X c R0 stk fx todo env) {stk : List bq} {fx : Fx} {todo : List Item} {env : Env} (hro : fx.ro = none)
    (hstep : ∀ (a : Act) (w : World) (b : Frame) (cs : List Frame), b.roundOf = none → step P (lone (b.atR a todo) cs w) = .next (lone { b.atR a todo with mode := .returning } cs w))
    (h : aF P X c R0 Z (rW X m rec stk fx env)) : bP P X c R0 stk fx todo env := by
  intro frs b a w hk hfn hS cs
  have hrof : b.roundOf = none := by
    obtain ⟨⟨G, _, hC, _⟩, _⟩ := hS
    have hj : dR P stk frs G w ∧ Mk G w (a.defers ++ frs.flatMap (·.defers)) ∧ fO G fx.ro b.roundOf := hC.J
    have := hj.2.2
    rw [hro] at this
    exact this
  obtain ⟨rs, hd, hnd, hrs, hS2⟩ := zx hS
  have hst0 : Steps P (lone (b.atR a todo) (frs ++ cs) w) (lone { b.atR a todo with mode := .returning, defers := [] } (frs ++ cs) (ka w rs)) :=
    .head (hstep a w b _ hrof) (rG rs w { b.atR a todo with mode := .returning } (by simp) hd hrs hnd)
  rw [hro, hrof] at hS2
  generalize ka w rs = w2 at hS2 hst0
  cases stk with
  | nil =>
    cases frs with
    | cons f frs => obtain ⟨⟨G, _, hC, _⟩, _⟩ := hS2; exact (hC.J : dR P [] (f :: frs) G w2 ∧ _).1.elim
    | nil =>
      obtain ⟨v, hr, hR⟩ := hZ fx env h { a with defers := [] } w2 hS2
      exact ⟨v, w2, _, hR, hst0, rfl, rfl, rfl, hk, fx.fn, hfn hro, hr⟩
  | cons ct stk =>
    unfold rW at h
    simp only at h
    split at h
    · rename_i k hkr
      cases frs with
      | nil => obtain ⟨⟨G, _, hC, _⟩, _⟩ := hS2; exact (hC.J : dR P (ct :: stk) [] G w2 ∧ _).1.elim
      | cons f frs =>
        obtain ⟨⟨G, hb, hC, hM, hgl, hs⟩, hfl, hsz, hdf⟩ := hS2
        obtain ⟨v, hv, hn, hkv⟩ := yR (hX.at fx) (c0 := c.stk P (ct :: stk) (f :: frs) [] none none) ⟨⟨G, hb, hC, hM, hgl, hs⟩, hfl, hsz, hdf⟩ hb hM hs hkr
        obtain ⟨⟨hf, hj1⟩, hj2, _⟩ : dR P (ct :: stk) (f :: frs) G w2 ∧ Mk G w2 ([] ++ (f :: frs).flatMap (·.defers)) ∧ fO G none none := hC.J
        have hmk : Mk G w2 (f.defers ++ frs.flatMap (·.defers)) := hj2
        have hst1 : step P (lone { b.atR a todo with mode := .returning, defers := [] } (f :: (frs ++ cs)) w2) = .next (lone (f.finish v) (frs ++ cs) w2) := step_leave_returned ⟨rfl, rfl, hk, fx.fn, hfn hro, hv⟩
        have hback := hf.back
        split at h
        · rename_i hrng
          rw [hrng] at hback
          rw [hback] at hst1
          have hS' : Sim P (X.at ct.fx) (c.stk P stk frs f.defers ct.fx.ro f.roundOf) { s := put ct.s ct.dst k, b := env.b, lim := env.lim } ((⟨f.tmps, f.defers⟩ : Act).put ct.dst v) w2 := by
            refine ⟨⟨G, hb, ⟨hC.O, hC.w0, hC.own, hj1, hmk, hf.ro⟩, hM, hgl, ?_⟩, eH hf.flat (gh hn), ?_, ?_⟩
            · exact jp (a := ⟨f.tmps, f.defers⟩) (o := { (default : Oper) with dst := ct.dst }) rfl hf.flat hf.kv hf.size hf.dst (fun d hd => hkv.tm hn)
            · cases hd : ct.dst <;> simp [Act.put, hf.size, bv.at]
            · cases hd : ct.dst <;> simp [Act.put, Cx.stk]
          have hdd : ((⟨f.tmps, f.defers⟩ : Act).put ct.dst v).defers = f.defers := by cases ct.dst <;> rfl
          obtain ⟨v', w', fr, q1, q2, q3, q4⟩ := hrec _ _ _ _ h frs f _ _ hf.kind hf.fn (by rw [hdd]; exact hS') cs
          exact ⟨v', w', fr, q1, hst0.trans (.head hst1 q2), by rw [q3, List.getLastD_cons], q4⟩
        · rename_i id hrng
          rw [hrng] at hback
          obtain ⟨_, g, hbk, hback⟩ := hback
          rw [hback] at hst1
          split at h
          · rename_i st pend s nn ps as bd hl
            split at h
            · exact h.elim
            · rename_i hbusy
              have hbusy : ¬ st = .busy := by simpa using hbusy
              rw [← hb] at hl
              obtain ⟨r, hr, e1, e2, _, _, _, _, _, _, ht⟩ := kD hM (ak hl) hbk
              obtain ⟨hM', hE⟩ := ht .exhausted pend
              have e : ({ r with state := .exhausted, pending := pend } : Loop) = { r with state := .exhausted } := by rw [← e2]
              rw [e] at hM' hE
              obtain ⟨hM'', hE'⟩ := hM'.drop id
              have hE2 := hE.trans hE'
              have hst2 := stepR_endRangeFunc (P := P) (b := f) (a := ⟨f.tmps, f.defers⟩) (k := ct.todo) (cs := frs ++ cs) (run_endLoop hr (by rw [e1]; exact hbusy))
              rw [show Option.map Item.code r.pending = Option.map Item.code pend from by rw [e2]] at hst2
              have hf1 := hf.ext0 hE2.to0
              have hC1 := hC.ext hE2
              have hS' : Sim P (X.at ct.fx) (c.stk P stk frs f.defers ct.fx.ro f.roundOf) { s := ct.s, b := ao env.b [(id, .dead)], lim := env.lim } ⟨f.tmps, f.defers⟩ (w2.putObj g (.loop { r with state := .exhausted })) :=
                ⟨⟨_, su hb, ⟨hC1.O, hC1.w0, hC1.own, hj1.ext0 hE2.to0, hmk.ext hE2, hf1.ro⟩, hM'', (hgl.lat hE.lat).lat hE'.lat, hf1.kv⟩, hf.flat, hf.size, rfl⟩
              obtain ⟨v', w', fr, q1, q2, q3, q4⟩ := hrec _ _ _ _ h frs f ⟨f.tmps, f.defers⟩ _ hf.kind hf.fn hS' cs
              exact ⟨v', w', fr, q1, hst0.trans (.head hst1 (.head hst2 q2)), by rw [q3, List.getLastD_cons], q4⟩
          · exact h.elim
    · exact h.elim
theorem fu {Z : K → Prop} : ∀ (l : List Nat) (env : Env) (k : Env → ae), aF P X c R0 Z (fh l env k) → aF P X c R0 Z (k env)
 | [], env, k, h => h
 | d :: l, env, k, h => by
  unfold fh at h
  split at h
  ·rename_i t x hd
   have := fu l _ k (h x rfl)
   rwa [show ({ env with s := fun n => if n = d then .val t x else env.s n } : Env) = env from by
    have : (fun n => if n = d then K.val t x else env.s n) = env.s := by
     funext n
     split
     ·rename_i e; rw [e, hd]
     ·rfl
    rw [this]] at this
  ·rename_i t x hd
   have := fu l _ k (h x rfl)
   rwa [show ({ env with s := fun n => if n = d then .tup t x else env.s n } : Env) = env from by
    have : (fun n => if n = d then K.tup t x else env.s n) = env.s := by
     funext n
     split
     ·rename_i e; rw [e, hd]
     ·rfl
    rw [this]] at this
  ·exact fu l env k h
theorem aJ (hX : XOk P X) (hZ : ∀ fx env, aF P X c R0 Z (rM X m fx env) → ∀ a w, Sim P (X.at fx) (c.stk P [] [] [] none none) env a w → ∃ v, (results fx.fn a.tmps).run P w = .ok v w ∧ R0 (.returned v) w) :
    ∀ (n : Nat) (stk : List bq) (fx : Fx) (todo : List Item) (env : Env), aF P X c R0 Z (ax X m n stk fx todo env) → bP P X c R0 stk fx todo env
  | 0, _, _, _, _, h => h.elim
  | n + 1, stk, fx, [], env, h => by
    have h : aF P X c R0 Z (g9 X m (ax X m n) stk fx env none) := h
    unfold g9 at h
    split at h
    · rename_i hro
      exact pH hX hZ (aJ hX hZ n) hro (fun _ _ _ _ hb => stepR_end hb) h
    · rename_i id hro
      exact ml (aJ hX hZ n) hro (fun _ _ _ _ _ _ _ _ h1 h2 h3 => stepR_round_end h1 h2 h3) h
  | n + 1, stk, fx, .code cd :: k, env, h => by
    cases cd with
    | skip => exact en (fun _ _ _ _ => stepR_skip) (aJ hX hZ n _ _ _ _ h)
    | region id ops draw =>
      have hT : aF P X c R0 Z (match f9 ((fx.ann.frz.lookup id).getD []) env with
        | none => .bad 6
        | some env =>
          if ops.toList.any cy then .bad 21 else
          if draw then
            (match oc (X.at fx) ops env with
            | none => .bad 12
            | some ord => (match dE (X.at fx) ops ord env with
              | none => .bad (1000 + id)
              | some (env', ps) => pd ps (fh (ops.toList.flatMap (tM fx)) { env' with lim := env'.lim + 1000 } fun env => ax X m n stk fx k env)))
          else ax X m n stk fx (.inRegion ops (List.range ops.size) :: k) { env with lim := env.lim + 1000 }) := h
      clear h
      split at hT
      · exact hT.elim
      · rename_i env1 hf
        split at hT
        · exact hT.elim
        · rename_i hnd
          have hnd : ops.toList.any cy = false := by simpa using hnd
          split at hT
          · rename_i hd
            split at hT
            · exact hT.elim
            · rename_i ord hreg
              split at hT
              · exact hT.elim
              · rename_i env2 ps hv
                subst hd
                obtain ⟨hp, ht⟩ := m8 hT
                intro frs b a w hk hfn hS cs
                obtain ⟨a', w', hS', hst⟩ := Aj (id := id) (hX.at fx) hX.ht hnd hreg hv hp (fU hf hS) b k (frs ++ cs)
                exact fl (aJ hX hZ n _ _ _ _ (fu _ _ _ ht)) hk hfn ⟨hS'.ex, hS'.flat, hS'.size, hS'.defers⟩ hst
          · rename_i hd
            have hd : draw = false := by simpa using hd
            subst hd
            intro frs b a w hk hfn hS cs
            have hS1 := fU hf hS
            exact fl (aJ hX hZ n _ _ _ _ hT) hk hfn ⟨hS1.ex, hS1.flat, hS1.size, hS1.defers⟩ (.one stepR_region)
    | seq x y => exact en (fun _ _ _ _ => stepR_seq) (aJ hX hZ n _ _ _ _ h)
    | cond cc x y =>
      have h : aF P X c R0 Z (match tD env.s cc with
        | some true => ax X m n stk fx (.code x :: k) env
        | some false => ax X m n stk fx (.code y :: k) env
        | none => match lw (rd (X.at fx) env.s none cc) with
          | some t => .ite t (ax X m n stk fx (.code x :: k) (mR env cc true)) (ax X m n stk fx (.code y :: k) (mR env cc false))
          | none => .bad 7) := h
      split at h
      · rename_i hlit
        intro frs b a w hk hfn hS cs
        exact fl (aJ hX hZ n _ _ _ _ h) hk hfn hS (.one (stepR_cond (uS hlit hS)))
      · rename_i hlit
        intro frs b a w hk hfn hS cs
        exact fl (aJ hX hZ n _ _ _ _ h) hk hfn hS (.one (stepR_cond (uS hlit hS)))
      split at h
      · rename_i t ht
        have hb : ∀ {c0 : Cx} {a : Act} {w : World}, Sim P (X.at fx) c0 env a w → a.eval cc = .bool t := by
          intro c0 a w hS
          obtain ⟨⟨G, _, _, _, hgl, hs⟩, _⟩ := hS
          have := gD (a := a) (tm := tmF a) (hX.at fx).toDOk hgl (g := none) (fun _ _ e => by cases e) hs (fun _ => rfl) cc
          unfold lw at ht
          split at ht
          · rename_i b e
            have e' := Option.some.inj ht
            subst e'
            rw [e] at this
            exact aC.1 this
          · cases ht
        cases t with
        | true =>
          intro frs b a w hk hfn hS cs
          exact fl (aJ hX hZ n _ _ _ _ (h.1 rfl)) hk hfn (wH hS (hb hS)) (.one (stepR_cond (hb hS)))
        | false =>
          intro frs b a w hk hfn hS cs
          exact fl (aJ hX hZ n _ _ _ _ (h.2 rfl)) hk hfn (wH hS (hb hS)) (.one (stepR_cond (hb hS)))
      · exact h.elim
    | block id bd => exact en (fun _ _ _ _ => stepR_block) (aJ hX hZ n _ _ _ _ h)
    | loop bd =>
      have h : aF P X c R0 Z (match (bB bd).bind (fun i => (List.lookup i fx.ann.loops).map fun L => (i, L)) with
        | some (i, L) => kd L.keep L.own (nB fx i) stk fx (.code bd :: .inLoop bd :: k) env
        | none => .bad 8) := h
      split at h
      · exact en (fun _ _ _ _ => stepR_loop) (pB h)
      · exact h.elim
    | exit id =>
      have h : aF P X c R0 Z (match exitTo id k with
        | some k' => ax X m n stk fx k' env
        | none => match fx.ro with
          | none => .bad 9
          | some rid => jf (ax X m n) stk env rid (some (.exit id))) := h
      split at h
      · rename_i k' hk
        exact en (fun _ _ _ _ => stepR_exit hk) (aJ hX hZ n _ _ _ _ h)
      · rename_i hk
        split at h
        · exact h.elim
        · rename_i rid hro
          exact ml (aJ hX hZ n) hro (fun _ _ _ _ _ _ _ _ h1 h2 h3 => stepR_round_exit h1 h2 hk h3) h
    | ret =>
      have h : aF P X c R0 Z (g9 X m (ax X m n) stk fx env (some .ret)) := h
      unfold g9 at h
      split at h
      · rename_i hro
        exact pH hX hZ (aJ hX hZ n) hro (fun _ _ _ _ hb => stepR_ret hb) h
      · rename_i id hro
        exact ml (aJ hX hZ n) hro (fun _ _ _ _ _ _ _ _ h1 h2 h3 => stepR_round_ret h1 h2 h3) h
    | rangeFunc q ps as bd =>
      have h : aF P X c R0 Z (match kP X (X.at fx) q env with
        | none => .bad 40
        | some (fx', ks) =>
          if au env.b (env.lim + 999) && mI env fx.ro && decide (1 + ks.length ≤ fx'.fn.ntmps) then
            ax X m n (⟨fx, k, none, env.s, some (env.lim + 999)⟩ :: stk) fx' (aG fx'.fn)
              { s := ce (.yld (env.lim + 999) :: ks), b := ao env.b [(env.lim + 999, .live (.lop .ready none (fg env.s (lh (fC as ++ fC bd))) fx.fn.ntmps ps as bd))], lim := env.lim + 1000 }
          else .bad 41) := h
      split at h
      · exact h.elim
      · rename_i fx' ks hc
        split at h
        · rename_i hcond
          simp only [Bool.and_eq_true, decide_eq_true_eq] at hcond
          exact vR hX hc hcond.1.1 hcond.1.2 hcond.2 (aJ hX hZ n _ _ _ _ h)
        · exact h.elim
    | _ => exact h.elim
  | n + 1, stk, fx, .inBlock _ :: k, env, h => en (fun _ _ _ _ => stepR_inBlock) (aJ hX hZ n _ _ _ _ h)
  | n + 1, stk, fx, .inLoop bd :: k, env, h => by
    have h : aF P X c R0 Z (match (bB bd).bind (fun i => (List.lookup i fx.ann.loops).map fun L => (i, L)) with
      | some (i, L) => kd L.keep L.own (nB fx i) stk fx (.code bd :: .inLoop bd :: k) env
      | none => .bad 8) := h
    split at h
    · exact en (fun _ _ _ _ => stepR_inLoop) (pB h)
    · exact h.elim
  | n + 1, stk, fx, .inRegion ops [] :: k, env, h => en (fun _ _ _ _ => stepR_region_end) (aJ hX hZ n _ _ _ _ h)
  | n + 1, stk, fx, .beginRound :: k, env, h => by
    have h : aF P X c R0 Z (match fx.ro with
      | none => .bad 45
      | some id => match aj env.b id with
        | some (.lop .ready pend s nn ps a c) => ax X m n stk fx k { env with b := ao env.b [(id, .live (.lop .busy pend s nn ps a c))] }
        | _ => .bad 44) := h
    split at h
    · exact h.elim
    · rename_i id hro
      split at h
      · rename_i pend s nn ps as bd hl
        exact vr hro hl (aJ hX hZ n _ _ _ _ h)
      · exact h.elim
  | n + 1, stk, fx, .inRegion ops (i :: l) :: k, env, h => by
    have h : aF P X c R0 Z (match ops[i]? with
      | none => .bad 20
      | some o => if cy o then .bad 21 else match oF (X.at fx) o env with
       | some (id, ks) => (match aj env.b id, zi id stk with
         | some (.lop .ready _ s nn ps a c), some fx' =>
           if decide (ks.length = ps.size) && decide (nn = fx'.fn.ntmps) && ps.toList.all (fun p => decide (p < nn)) then
             ax X m n (⟨fx, .inRegion ops l :: k, o.dst, env.s, none⟩ :: stk) (fx'.rd id) [.code a, .beginRound, .code c] { s := lx (ofS s) ps.toList ks, b := env.b, lim := env.lim + 1000 }
           else .bad 43
         | _, _ => .bad 42)
       | none => match nX X (X.at fx) o env with
        | some (fx', ks) => ax X m n (⟨fx, .inRegion ops l :: k, o.dst, env.s, none⟩ :: stk) fx' (aG fx'.fn) { s := ce ks, b := env.b, lim := env.lim + 1000 }
        | none => match xC X (X.at fx) ops o env with
          | none => .bad (100000 + 1000 * (bB (.region 0 ops false)).getD 0 + i)
          | some (.one env' ps) => pd ps (fh (ws fx o) env' fun env => ax X m n stk fx (.inRegion ops l :: k) env)
          | some (.ex α p f) => .all α p fun x => ax X m n stk fx (.inRegion ops l :: k) (f x)) := h
    split at h
    · exact h.elim
    · rename_i o hi
      split at h
      · exact h.elim
      · rename_i hnd
        have hnd : cy o = false := by simpa using hnd
        split at h
        · rename_i id ks hy
          split at h
          · rename_i pend s nn ps as bd fx' hl hfx
            split at h
            · rename_i hcond
              simp only [Bool.and_eq_true, decide_eq_true_eq, List.all_eq_true] at hcond
              exact vu hX hi hnd hy hl hcond.1.1 hcond.1.2 hcond.2 (aJ hX hZ n _ _ _ _ h)
            · exact h.elim
          · exact h.elim
        · split at h
          · rename_i fx' ks he
            exact wd hX hi hnd he (aJ hX hZ n _ _ _ _ h)
          · split at h
            · exact h.elim
            · rename_i env' ps hv
              obtain ⟨hp, ht⟩ := m8 h
              intro frs b a w hk hfn hS cs
              obtain ⟨a', w', hS', hst⟩ := qS hX hv hS hi hnd (rest := l) (k := k) b (frs ++ cs) hp
              exact fl (aJ hX hZ n _ _ _ _ (fu _ _ _ ht)) hk hfn hS' hst
            · rename_i α p f hv
              intro frs b a w hk hfn hS cs
              obtain ⟨x, hx, a', w', hS', hst⟩ := qS hX hv hS hi hnd (rest := l) (k := k) b (frs ++ cs)
              exact fl (aJ hX hZ n _ _ _ _ (h x hx)) hk hfn hS' hst
  | n + 1, _, _, .inScope _ :: _, _, h => h.elim
  | n + 1, _, _, .inRangeFunc _ :: _, _, h => h.elim
  | n + 1, _, _, .endRangeFunc _ :: _, _, h => h.elim
  | n + 1, _, _, .call .. :: _, _, h => h.elim
  | n + 1, _, _, .extern .. :: _, _, h => h.elim
end
end Go.Proofs.Ytiaplhcifflibaa
namespace Go.Proofs.Ytiaplhcifflibaa
open Go Go.RowKit
section
variable {P : Program} {X : bv} {a : Act} {w : World}
def ZD (rs : Ty) (p : den rs → Prop) (k : K) : Prop := ∃ x, aH rs k = some x ∧ p x
theorem zw {c : Cx} {R0 : Ending → World → Prop} {rs : Ty} {p : den rs → Prop} {D : ar} {O : Nat → Prop} {w0 : World} {fn : Func} : ∀ {t : aI}, aF P X c R0 (ZD rs p) (toS t) → aT P D O w0 fn rs p t
 | .ret k, h => h
 | .bad _, h => h.elim
 | .ite _ _ _, h => h.elim
 | .req _ _, h => h.elim
 | .loop _ _ _, h => h.elim
abbrev xw (P : Program) (X : bv) (O : Nat → Prop) (w0 : World) (rs : Ty) (p : den rs → Prop) := aF P X (Cx.base O w0) (cV P O w0 rs p) (ZD rs p)
theorem wk (hX : XOk P X) {O : Nat → Prop} {w0 : World} {rs : Ty} {p : den rs → Prop} : ∀ fx env, xw P X O w0 rs p (rM X (.data rs) fx env) → ∀ a w, Sim P (X.at fx) ((Cx.base O w0).stk P [] [] [] none none) env a w → ∃ v, (results fx.fn a.tmps).run P w = .ok v w ∧ cV P O w0 rs p (.returned v) w := by
 intro fx env h a w hS
 obtain ⟨⟨G, hb, hC, hM, hgl, hs⟩, hfl, hsz, hdf⟩ := hS
 exact (oN (hX.at fx) (zw h) ⟨⟨G, hb, ⟨hC.O, hC.w0, hC.own, trivial⟩, hM, hgl, hs⟩, hfl, hsz, hdf⟩).2
theorem y7 {D : ar} {c : Cx} {env : Env} {a : Act} {w : World} {J : Gst → World → Prop} {jx : ∀ G w G' w', G.Ext w G' w' → J G w → J G' w'} (hS : Sim P D ⟨c.O, c.own, c.w0, J, jx, []⟩ env a w) : Sim P D (c.stk P [] [] a.defers none none) env a w := by
 obtain ⟨⟨G, hb, hC, hM, hgl, hs⟩, hfl, hsz, hdf⟩ := hS
 have hdf : a.defers = [] := hdf
 rw [hdf]
 exact ⟨⟨G, hb, ⟨hC.O, hC.w0, hC.own, trivial, ⟨[], rfl, List.nodup_nil, fun _ h => by cases h⟩, rfl⟩, hM, hgl, hs⟩, hfl, hsz, hdf⟩
theorem sy {c : Cx} {R0 : Ending → World → Prop} {fx : Fx} {f : FuncId} {args : Array Value} {env : Env} (hro : fx.ro = none) (hf : P.funcs[f]? = some fx.fn) (hb : fx.fn.body.isSome = true) (hg : bP P X c R0 [] fx (aG fx.fn) env)
    (hS : Sim P (X.at fx) (c.stk P [] [] [] none none) env { tmps := args ++ Array.replicate (fx.fn.ntmps - args.size) undef, defers := [] } w) : Calls P f args w R0 := by
  obtain ⟨cd, hbody⟩ := Option.isSome_iff_exists.1 hb
  intro cs
  let b : Frame := { (default : Frame) with fn := f, kind := .normal }
  have henter : Frame.enter P f args .normal = b.atR { tmps := args ++ Array.replicate (fx.fn.ntmps - args.size) undef, defers := [] } (aG fx.fn) := by
    simp [Frame.enter, Frame.atR, hf, hbody, b, aG]
    rfl
  obtain ⟨v, w', fr, h1, h2, h3, h4⟩ := hg [] b { tmps := args ++ Array.replicate (fx.fn.ntmps - args.size) undef, defers := [] } w rfl (fun _ => hf) (by rw [hro]; exact hS) cs
  rw [← henter] at h2
  exact ⟨.returned v, w', fr, h1, h2, h3, h4⟩
theorem cE (hX : XOk P X) {O : Nat → Prop} {w0 : World} {rs : Ty} {p : den rs → Prop} {n : Nat} {stk : List bq} {fx : Fx} {todo : List Item} {env : Env} {T : ae} (heq : ax X (.data rs) n stk fx todo env = T) (h : xw P X O w0 rs p T) : bP P X (Cx.base O w0) (cV P O w0 rs p) stk fx todo env :=
 aJ hX (wk hX) n stk fx todo env (by rw [heq]; exact h)
theorem eO (hX : XOk P X) {fx : Fx} {f : FuncId} {S : bU} (hf : P.funcs[f]? = some fx.fn) (hb : (fx.fn.body.isSome && !(fx.fn.name == "runtime.NumGoroutine") && decide (j6 S.as ≤ fx.fn.ntmps) && fx.ro.isNone) = true) (hall : S.tot = true → ∀ x, S.pre x) {n : Nat} {T : den S.as → ae}
    (heq : ∀ x, ax X (.data S.rs) n [] fx (aG fx.fn) (Env.of (a8 S.as x 0) []) = T x) (h : ∀ (O : Nat → Prop) (w0 : World) (x : den S.as), okT S.as x → S.pre x → xw P X O w0 S.rs (fun y => y = S.g x) (T x)) : aP P X.D.G f S := by
  simp only [Bool.and_eq_true, Bool.not_eq_true', decide_eq_true_eq] at hb
  obtain ⟨⟨⟨h1, h2⟩, h3⟩, h4⟩ := hb
  have hro : fx.ro = none := by simpa using h4
  refine ⟨i7 hf h1 h2, hall, fun O w vs x hO hg hx hp => ?_⟩
  have hg1 : bP P X (Cx.base O w) (cV P O w S.rs fun y => y = S.g x) [] fx (aG fx.fn) (Env.of (a8 S.as x 0) []) := cE hX (heq x) (h O w x (s8 hx) hp)
  have hS := s4 (D := X.at fx) hO hg hx h3
  refine Calls.mono (sy (c := Cx.base O w) hro hf h1 hg1 (y7 (c := Cx.base O w) hS)) fun e w' he => ?_
  obtain ⟨v, y, e1, e2, e3, e4⟩ := he
  exact ⟨v, e1, e2, by rw [← e4]; exact e3⟩
def my (P : Program) (Gl : eS) (R : List (Nat × ef)) : Prop := ∀ f S, R.lookup f = some S → ROk P Gl f S
def tE (P : Program) (R : List (Nat × Fx)) : Prop := ∀ f fx, R.lookup f = some fx → P.funcs[f]? = some fx.fn ∧ fx.fn.body.isSome = true ∧ dF P f ∧ fx.ro = none
def yj (P : Program) (D : ar) (R : List Nat) : Prop := ∀ f, R.contains f = true → wQ P D f
theorem ci {Gl : eS} : my P Gl [] := fun _ _ h => by cases h
theorem yS {Gl : eS} {R : List (Nat × ef)} {f : Nat} {S : ef} (h : ROk P Gl f S) (hr : my P Gl R) : my P Gl ((f, S) :: R) := fun g S' hl => by
 rw [List.lookup_cons] at hl
 split at hl
 ·rename_i e
  have e : g = f := by simpa using e
  have e' := Option.some.inj hl
  subst e; subst e'
  exact h
 ·exact hr g S' hl
theorem zr {Gl : eS} {R : List (Nat × ef)} {f : Nat} {S : ef} (h : jZ P Gl f S) (hr : my P Gl R) : my P Gl ((f, S) :: R) := yS (.inr h) hr
theorem cJ : tE P [] := fun _ _ h => by cases h
theorem sK {R : List (Nat × Fx)} {f : Nat} {fx : Fx} (hf : P.funcs[f]? = some fx.fn) (hb : (fx.fn.body.isSome && !(fx.fn.name == "runtime.NumGoroutine") && fx.ro.isNone) = true) (hr : tE P R) : tE P ((f, fx) :: R) := fun g fx' hl => by
 rw [List.lookup_cons] at hl
 simp only [Bool.and_eq_true, Bool.not_eq_true'] at hb
 split at hl
 ·rename_i e
  have e : g = f := by simpa using e
  have e' := Option.some.inj hl
  subst e; subst e'
  exact ⟨hf, hb.1.1, i7 hf hb.1.1 hb.1.2, by simpa using hb.2⟩
 ·exact hr g fx' hl
theorem cK {D : ar} : yj P D [] := fun _ h => by simp at h
theorem xok {T : List (Nat × Ty)} {F : List (Nat × bU)} {G : eS} {R : List (Nat × ef)} {inl : List (Nat × Fx)} {ovl : List Nat} (hD : DOk P { T, F, G }) (hh : cU { T, F, G } = true) (h1 : my P G R) (h2 : tE P inl) (h3 : yj P { T, F, G } ovl) : XOk P { D := { T, F, G, R, ovl }, inl } := ⟨⟨⟨hD.tab, hD.fns, hD.mixed⟩, h1, h3⟩, hh, h2⟩
end
end Go.Proofs.Ytiaplhcifflibaa
namespace Go.Proofs.Ytiaplhcifflibaa
open Go Go.RowKit Go.ChangeShapes Go.WideShapes Go.ChangeAt
def kK : Ty → Bool
 | .int _ => true
 | .bool => true
 | .str => true
 | .unit => true
 | .pair a b => kK a && kK b
 | .st b => kK b
 | .arr _ e => kK e
 | .slc e => kK e
 | _ => false
section
variable {H : Type} {enc : TypeId × Value → H} {P : Program} {w : World} {spare : Nat → Bool} {held : Bool} {O : Nat → Prop}
theorem xU {T : Nat → Option Ty} {t : TypeId} {τ : Ty} (h : Fit P T t τ) : P.cellsOf t = siz τ := by
 obtain ⟨i, z, hi, hs, _⟩ := h.info
 unfold Program.cellsOf
 rw [hi]; exact hs
theorem xN {k : IntKind} {n : Int} (h : (Lit.int k n).wf = true) : InK k n := by
 simpa [Lit.wf, InK] using h
def tH (P : Program) (w : World) (t : TypeId) (τ : Ty) (cs : List Value) : Prop := ∃ y : den τ, Rep P τ .cells (fun _ => False) w cs y
theorem rH {T : Nat → Option Ty} {G : TypeId → List Value → Prop} (hT : ∀ i a, T i = some a → P.cellsOf i = siz a) (ih : ∀ i a cs, T i = some a → kK a = true → G i cs → tH P w i a cs) : ∀ (fs : List Field) (b : Ty) (off : Nat) (cs : List Value), bN T fs b off = true → kK b = true →
    (∀ f ∈ fs, G f.type ((cs.drop f.offset).take (P.cellsOf f.type))) → cs.length = off + siz b → ∃ y : den b, Rep P b .cells (fun _ => False) w (cs.drop off) y
  | [], b, off, cs, h, hd, _, hl => by
    cases b <;> simp only [bN] at h <;> try cases h
    exact ⟨(), by show cs.drop off = []; rw [List.drop_eq_nil_iff]; simp [siz] at hl; omega⟩
  | f :: fs, b, off, cs, h, hd, hf, hl => by
    cases b with
    | pair a b =>
      simp only [bN, Bool.and_eq_true, beq_iff_eq, decide_eq_true_eq] at h
      obtain ⟨⟨⟨⟨h1, h2⟩, _⟩, h4⟩, h5⟩ := h
      simp only [kK, Bool.and_eq_true] at hd
      have h0 := hf f (List.mem_cons_self ..)
      rw [h1, hT _ _ h2] at h0
      obtain ⟨x, hx⟩ := ih _ _ _ h2 hd.1 h0
      obtain ⟨y, hy⟩ := rH hT ih fs b (off + siz a) cs h5 hd.2 (fun g hg => hf g (List.mem_cons_of_mem _ hg)) (by simp only [siz] at hl; omega)
      exact ⟨(x, y), hx, by rw [List.drop_drop]; exact hy⟩
    | _ => simp only [bN] at h; cases h
theorem wB {e : TypeId} {te : Ty} {G : List Value → Prop} (ih : ∀ cs, G cs → tH P w e te cs) (cs : List Value) : ∀ (m k : Nat), (∀ i, i < m → G ((cs.drop ((k + i) * siz te)).take (siz te))) →
    ∃ ys : List (den te), ys.length = m ∧ RepAll (fun cs x => Rep P te .cells (fun _ => False) w cs x) (siz te) ((cs.drop (k * siz te)).take (m * siz te)) ys
  | 0, k, _ => ⟨[], rfl, by simp [RepAll]⟩
  | m + 1, k, h => by
    obtain ⟨y, hy⟩ := ih _ (h 0 (by omega))
    obtain ⟨ys, hl, hys⟩ := wB ih cs m (k + 1) (fun i hi => by have := h (i + 1) (by omega); rwa [show k + (i + 1) = k + 1 + i by omega] at this)
    have e0 : (m + 1) * siz te = siz te + m * siz te := by rw [Nat.add_mul, Nat.one_mul, Nat.add_comm]
    have e1 : (k + 1) * siz te = siz te + k * siz te := by rw [Nat.add_mul, Nat.one_mul, Nat.add_comm]
    refine ⟨y :: ys, by simp [hl], ?_, ?_⟩
    · rw [List.take_take, Nat.min_eq_left (by omega)]; exact hy
    · rw [List.drop_take, List.drop_drop, e0, Nat.add_sub_cancel_left, Nat.add_comm (k * siz te), ← e1]; exact hys
theorem wr {e : TypeId} {te : Ty} {G : List Value → Prop} {a : Addr} (ih : ∀ cs, G cs → tH P w e te cs) (hs : a.spot = none) : ∀ (m k : Nat), (∀ i, i < m → ∃ cs, w.cells? 0 (a.add ((k + i) * siz te)) (siz te) = some cs ∧ G cs) →
    ∃ (L : List Value) (ys : List (den te)), ys.length = m ∧ L.length = m * siz te ∧ RepAll (fun cs x => Rep P te .cells (fun _ => False) w cs x) (siz te) L ys ∧ ∀ j u, L[j]? = some u → w.cell? (a.add (k * siz te + j)) = some u
  | 0, k, _ => ⟨[], [], rfl, by simp, rfl, fun j u h => by simp at h⟩
  | m + 1, k, h => by
    obtain ⟨cs, hc, hG⟩ := h 0 (by omega)
    obtain ⟨y, hy⟩ := ih _ hG
    obtain ⟨L, ys, h1, h2, h3, h4⟩ := wr ih hs m (k + 1) (fun i hi => by have := h (i + 1) (by omega); rwa [show k + (i + 1) = k + 1 + i by omega] at this)
    unfold World.cells? at hc
    rw [if_pos (Nat.zero_le _)] at hc
    have hl : cs.length = siz te := by have := mapM_some_length hc; simpa using this
    have e0 : (m + 1) * siz te = siz te + m * siz te := by rw [Nat.add_mul, Nat.one_mul, Nat.add_comm]
    have e1 : (k + 1) * siz te = siz te + k * siz te := by rw [Nat.add_mul, Nat.one_mul, Nat.add_comm]
    refine ⟨cs ++ L, y :: ys, by simp [h1], by rw [List.length_append, hl, h2, e0], ⟨by rw [List.take_left' hl]; exact hy, by rw [List.drop_left' hl]; exact h3⟩, fun j u hj => ?_⟩
    rw [List.getElem?_append] at hj
    split at hj
    · rename_i hlt
      have := mapM_some_get hc j j (by rw [List.getElem?_range (by omega)])
      rw [Nat.add_zero, mq _ _ _ hs] at this
      rw [this]; exact hj
    · rename_i hge
      have := h4 (j - cs.length) u hj
      rw [e1] at this
      rw [← this]; congr 2; omega
theorem i8 {T : List (Nat × Ty)} (htab : ow P T = true) : ∀ (n : Nat) (t : TypeId) (τ : Ty) (cs : List Value) (x : DataW H × List MemPlace), T.lookup t = some τ → kK τ = true → DataW.trod enc P w 0 spare held n t cs = some x → tH P w t τ cs
  | 0, t, τ, cs, x, hl, hd, h => by simp [DataW.trod] at h
  | n + 1, t, τ, cs, x, hl, hd, h => by
    have hf := gv htab hl
    have hT : ∀ i a, (fun i => T.lookup i) i = some a → P.cellsOf i = siz a := fun i a h => xU (gv htab h)
    have hs := hf.shape
    cases τ with
    | int k =>
      obtain ⟨z, h1, _, h3⟩ := DataW.trod_int (cL hs) h
      exact ⟨z, h1, xN h3⟩
    | bool =>
      obtain ⟨z, h1, _⟩ := DataW.trod_bool (jU hs) h
      exact ⟨z, h1⟩
    | str =>
      obtain ⟨z, h1, _, h3⟩ := DataW.trod_string (dh hs) h
      exact ⟨z, h1, h3⟩
    | st b =>
      obtain ⟨fs, hu, hfs, _⟩ := eF hs
      obtain ⟨xs, m, hm, _, h3, h4, h5⟩ := DataW.trod_struct hu h
      cases hm
      have hsz := hT t _ hl
      rw [hsz] at h3
      have := rH (w := w) (G := fun i cs => ∃ x, DataW.trod enc P w 0 spare held n i cs = some x) hT (fun i a cs hi hd' ⟨x, hx⟩ => i8 htab n i a cs x hi hd' hx) fs.toList b 0 cs hfs hd (fun f hf' => by
        obtain ⟨i, hi, he⟩ := List.getElem_of_mem hf'
        have hi' : i < fs.size := by simpa using hi
        have := h5 i f (by rw [Array.getElem?_eq_getElem hi']; simpa using he)
        rw [this, List.getElem?_eq_getElem (by omega)]
        exact ⟨_, rfl⟩) (by rw [h3]; simp [siz])
      obtain ⟨y, hy⟩ := this
      exact ⟨y, hy⟩
    | arr m te =>
      obtain ⟨e, hu, he, _⟩ := ep hs
      obtain ⟨xs, k, hm, _, h3, h4, h5⟩ := DataW.trod_array hu h
      cases hm
      have hse := hT e _ he
      obtain ⟨ys, hy1, hy2⟩ := wB (P := P) (w := w) (e := e) (te := te) (G := fun cs => ∃ x, DataW.trod enc P w 0 spare held n e cs = some x) (fun cs ⟨x, hx⟩ => i8 htab n e te cs x he hd hx) cs m 0 (fun i hi => by
        have := h5 i hi
        rw [hse] at this
        rw [Nat.zero_add, this, List.getElem?_eq_getElem (by omega)]
        exact ⟨_, rfl⟩)
      have hlen : cs.length = m * siz te := by rw [h3, hT t _ hl]; rfl
      refine ⟨ys, hy1, ?_⟩
      rw [Nat.zero_mul, List.drop_zero, ← hlen, List.take_length] at hy2
      exact hy2
    | slc te =>
      obtain ⟨e, hu, he, h1⟩ := aw hs
      have hse := hT e _ he
      rcases DataW.trod_slice hu h with ⟨h2, _⟩ | ⟨a, len, cap, elems, rest, k, hm, h2, _, _, h5, h6, h7, h8, _⟩
      · exact ⟨[], none, 0, [], h2, Nat.le_refl _, Nat.zero_le _, by simp, rfl, fun h => absurd rfl h, fun _ => rfl⟩
      · cases hm
        have hG : ∀ i, i < len → ∃ cs, w.cells? 0 (a.add (i * siz te)) (siz te) = some cs ∧ ∃ x, DataW.trod enc P w 0 spare held n e cs = some x := fun i hi => by
          have := h8 i hi
          rw [hse, List.getElem?_eq_getElem (by omega)] at this
          obtain ⟨cs, hc, hx⟩ := Option.bind_eq_some_iff.1 this
          exact ⟨cs, hc, _, hx⟩
        by_cases h0 : len = 0
        · subst h0
          exact ⟨[], some a, cap, [], h2, Nat.zero_le _, h6, by simp, rfl, fun h => absurd rfl h, fun h => by cases h⟩
        · have hsp : a.spot = none ∧ a.block < w.heap.size := by
            obtain ⟨cs, hc, _⟩ := hG 0 (by omega)
            unfold World.cells? at hc
            rw [if_pos (Nat.zero_le _), Nat.zero_mul] at hc
            have hl0 : cs.length = siz te := by have := mapM_some_length hc; simpa using this
            have := mapM_some_get hc 0 0 (by rw [List.getElem?_range (by omega)])
            rw [List.getElem?_eq_getElem (by omega)] at this
            have ea : (a.add 0).add 0 = a := by simp [Addr.add]
            rw [ea] at this
            refine ⟨World.cell?_spot this, ?_⟩
            unfold World.cell? at this
            split at this
            · rename_i hh
              first
                | exact (Array.getElem?_eq_some_iff.1 hh).1
                | (obtain ⟨hh, _⟩ := Array.getElem?_eq_some_iff.1 hh; exact hh)
            · cases this
          obtain ⟨L, ys, g1, g2, g3, g4⟩ := wr (P := P) (w := w) (e := e) (te := te) (a := a) (G := fun cs => ∃ x, DataW.trod enc P w 0 spare held n e cs = some x) (fun cs ⟨x, hx⟩ => i8 htab n e te cs x he hd hx) hsp.1 len 0 (fun i hi => by rw [Nat.zero_add]; exact hG i hi)
          refine ⟨ys, some a, cap, L, by rw [g1]; exact h2, by rw [g1]; exact h5, h6, by rw [g1]; exact g2, g3, fun _ => ⟨a, rfl, fun h => h, hsp.2, fun j u hj => ?_⟩, fun h => by cases h⟩
          have := g4 j u hj
          rwa [Nat.zero_mul, Nat.zero_add] at this
    | unit => exact absurd rfl (d4 hs).1
    | pair a b => exact absurd rfl ((d4 hs).2.1 a b)
    | fn _ _ => cases hd
    | ref _ => cases hd
    | mp _ _ => cases hd
    | clo _ _ => cases hd
end
section
variable {H : Type} {enc : TypeId × Value → H} {P : Program} {w : World}
theorem xF {T : List (Nat × Ty)} (htab : ow P T = true) {t : TypeId} {τ : Ty} (hl : T.lookup t = some τ) (hd : kK τ = true) {r : Reach} {b : Nat} {v : Value} (h : Value.okWide P w r b t v) : v = al τ v.cells.toList := by
 have hf := gv htab hl
 have hs := hf.shape
 cases τ with
 | int k => obtain ⟨n, rfl⟩ := okWide_int (cL hs) h; rfl
 | bool => obtain ⟨n, rfl⟩ := okWide_bool (jU hs) h; rfl
 | str => obtain ⟨n, rfl⟩ := okWide_string (dh hs) h; rfl
 | slc e =>
  obtain ⟨e', hu, _⟩ := aw hs
  obtain ⟨a, l, c, rfl⟩ := okWide_slice hu h; rfl
 | st e =>
  obtain ⟨fs, hu, _⟩ := eF hs
  unfold Value.okWide at h
  rw [hu] at h
  obtain ⟨cs, rfl, _⟩ := h
  rfl
 | arr n e =>
  obtain ⟨e', hu, _⟩ := ep hs
  unfold Value.okWide at h
  rw [hu] at h
  obtain ⟨cs, rfl, _⟩ := h
  rfl
 | unit => exact absurd rfl (d4 hs).1
 | pair a b => exact absurd rfl ((d4 hs).2.1 a b)
 | fn _ _ => cases hd
 | ref _ => cases hd
 | mp _ _ => cases hd
 | clo _ _ => cases hd
def gO (P : Program) (T : List (Nat × Ty)) : List TypeId → Ty → Bool
 | [], .unit => true
 | t :: ts, .pair a b => decide (T.lookup t = some a) && kK a && P.readableRec t && decide (t < P.types.size) && gO P T ts b
 | _, _ => false
theorem nO {T : List (Nat × Ty)} (htab : ow P T = true) {r : Reach} {b0 : Nat} {spare : Nat → Bool} {held : Bool} : ∀ (ts : List TypeId) (as : Ty) (vs : List Value) (ds : List (DataW H)) (ps : List MemPlace), gO P T ts as = true → DataW.TrodAll enc P w 0 spare held ts vs ds ps →
    (∀ (j : Nat) (t : TypeId) (v : Value), ts[j]? = some t → vs[j]? = some v → Value.okWide P w r b0 t v) → ∃ x : den as, Rep P as .chain (fun _ => False) w vs x
  | [], as, vs, ds, ps, hc, h, _ => by
    cases as <;> simp only [gO] at hc <;> try cases hc
    cases vs with
    | nil => exact ⟨(), rfl⟩
    | cons _ _ => cases ds <;> exact h.elim
  | t :: ts, as, vs, ds, ps, hc, h, hv => by
    cases as with
    | pair a b =>
      simp only [gO, Bool.and_eq_true, decide_eq_true_eq] at hc
      obtain ⟨⟨⟨⟨h1, h2⟩, _⟩, _⟩, h3⟩ := hc
      obtain ⟨v, vs', d, ds', p, q, rfl, rfl, rfl, h4, h5⟩ := trodAll_cons h
      obtain ⟨n, hn⟩ := h4
      obtain ⟨y, hy⟩ := i8 htab n t a _ _ h1 h2 hn
      obtain ⟨z, hz⟩ := nO htab ts b vs' ds' q h3 h5 (fun j t v hj hv' => hv (j + 1) t v hj hv')
      exact ⟨(y, z), vs', _, by rw [← xF htab h1 h2 (hv 0 t v rfl rfl)], hy, hz⟩
    | _ => simp only [gO] at hc; cases hc
theorem mu {T : List (Nat × Ty)} (hlo : laidOutB P = true) {W W' : World} (hb : Below W.heap.size W W') : ∀ (ts : List TypeId) (as : Ty) (vs : List Value) (ds : List (DataW H)) (ps : List MemPlace), gO P T ts as = true → DataW.TrodAll enc P W 0 (fun _ => true) true ts vs ds ps →
    DataW.TrodAll enc P W' 0 (fun b => decide (b < W.heap.size)) true ts vs ds ps
  | [], as, vs, ds, ps, _, h => by
    cases vs <;> cases ds <;> exact h
  | t :: ts, as, vs, ds, ps, hc, h => by
    cases as with
    | pair a b =>
      simp only [gO, Bool.and_eq_true, decide_eq_true_eq] at hc
      obtain ⟨⟨⟨⟨_, _⟩, h1⟩, h2⟩, h3⟩ := hc
      obtain ⟨v, vs', d, ds', p, q, rfl, rfl, rfl, h4, h5⟩ := trodAll_cons h
      have lt : ∀ x ∈ p, x.block < W.heap.size := by obtain ⟨m, hm⟩ := h4; exact DataW.trod_lt m _ _ _ hm
      exact ⟨p, q, Below.trod hlo h1 h2 h4 hb lt, mu hlo hb ts b vs' ds' q h3 h5, rfl⟩
    | _ => simp only [gO] at hc; cases hc
theorem u3 {base : Nat} {spare : Nat → Bool} {held : Bool} : ∀ {ts : List TypeId} {vs : List Value} {ds : List (DataW H)} {ps : List MemPlace}, DataW.TrodAll enc P w base spare held ts vs ds ps → ds.length = ts.length
 | [], [], [], _, _ => rfl
 | _ :: _, _ :: _, _ :: _, _, h => by
  obtain ⟨_, _, _, h, _⟩ := h
  simp [u3 h]
 | [], [], _ :: _, _, h => h.elim
 | [], _ :: _, _, _, h => by rename_i ds _; cases ds <;> exact h.elim
 | _ :: _, [], _, _, h => by rename_i ds _; cases ds <;> exact h.elim
 | _ :: _, _ :: _, [], _, h => h.elim
def zJ : Ty → List Value
 | .pair a b => al a (aq a) :: zJ b
 | _ => []
@[reducible] def zy (as : Ty) : bU := ⟨as, .pair .bool .unit, fun _ => (true, ()), fun _ => True, true⟩
theorem xQ {T : List (Nat × Ty)} (htab : ow P T = true) {f : FuncId} {as : Ty} (hk : aP P [] f (zy as)) {ts : List TypeId} (hc : gO P T ts as = true) {r : Reach} {b0 : Nat} {spare : Nat → Bool} {held : Bool} {args : Array Value} {ds : List (DataW H)} {ps : List MemPlace}
    (h : DataW.TrodAll enc P w 0 spare held ts args.toList ds ps) (hv : ∀ (j : Nat) t v, ts[j]? = some t → args[j]? = some v → Value.okWide P w r b0 t v) : Calls P f args w fun e w' => e = .returned (.bool true) ∧ Below w.heap.size w w' := by
  obtain ⟨x, hx⟩ := nO htab ts as args.toList ds ps hc h (fun j t v hj hv' => hv j t v hj (by simpa using hv'))
  have := hk.does (fun _ => False) w args.toList x (fun _ h => h.elim) (fun _ _ _ h => by cases h) hx trivial
  rw [Array.toArray_toList] at this
  refine Calls.mono this fun e w' ⟨v, e1, e2, rest, cs, e3, e4, e5⟩ => ?_
  have e4 : cs = [.bool true] := e4
  subst e4
  have e3 : [v] = [Value.bool true] := e3
  have : v = .bool true := by simpa using e3
  subst this
  exact ⟨e1, ⟨e2.os, e2.tape.eq, e2.output, e2.size, e2.block⟩⟩
end
end Go.Proofs.Ytiaplhcifflibaa
