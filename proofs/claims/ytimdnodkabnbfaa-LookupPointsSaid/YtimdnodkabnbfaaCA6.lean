/- Part 6 of 10 of what this claim's proof stands on: a theory of programs on data, and the contracts of the functions that the law reaches. It holds no condition of its own. -/
import Derived.Test.YtimdnodkabnbfaaCA5
import Derived.AtR
import Derived.RangeFuncRecord
import Derived.RangeFuncLeaves
import Derived.RangeFuncNested
import Derived.ProofKit
import Derived.OpenShut
import Derived.ShutString
import Derived.ChangeOld
namespace Go.Proofs.Ytimdnodkabnbfaa
open Go Go.RowKit
structure XOk (P : Program) (X : a8) : Prop where
 D : cQ P X.D
 ht : dX X.D = true
 inl : ∀ f fx, X.inl.lookup f = some fx → P.funcs[f]? = some fx.fn ∧ fx.fn.body.isSome = true ∧ gx P f ∧ fx.ro = none
theorem XOk.at {P : Program} {X : a8} (h : XOk P X) (fx : Fx) : cQ P (X.at fx) := ⟨⟨h.D.tab, h.D.fns, h.D.mixed⟩, h.D.rows, h.D.ovl, h.D.clp⟩
section
variable {P : Program} {X : a8} {D : aK} {o : Oper} {a : Act} {G : Gst} {w : World} {tm : Nat → Value}
theorem yF {b : Nat → BS} {σ : List (Nat × Nat)} : ∀ {τ : List (Nat × Nat)} {bs : List (Nat × Bx)}, tj b σ τ = some bs → ∀ {j : Nat} {x : Bx}, bs.lookup j = some x → ∃ i y, inv τ j = some i ∧ b i = .live y ∧ x = De σ y
 | [], bs, h, j, x, hl => by
  have e := Option.some.inj h
  subst e
  cases hl
 | (i0, j0) :: τ, bs, h, j, x, hl => by
  simp only [tj] at h
  split at h
  ·rename_i y r hy hr
   have e := (Option.some.inj h).symm
   subst e
   rw [List.lookup_cons] at hl
   unfold inv
   rw [List.map_cons, List.lookup_cons]
   split at hl
   ·rename_i e
    rw [e]
    have e' : De σ y = x := by simpa using hl
    exact ⟨i0, y, rfl, aq hy, e'.symm⟩
   ·rename_i e
    have e : (j == j0) = false := by simpa using e
    rw [e]
    exact yF hr hl
  ·cases h
theorem C9 {b : Nat → BS} {σ : List (Nat × Nat)} : ∀ {τ : List (Nat × Nat)} {bs : List (Nat × Bx)}, tj b σ τ = some bs → ∀ {i j : Nat}, (i, j) ∈ τ → ∃ x, bs.lookup j = some x
 | [], bs, h, i, j, hm => by cases hm
 | (i0, j0) :: τ, bs, h, i, j, hm => by
  simp only [tj] at h
  split at h
  ·rename_i y r hy hr
   have e := (Option.some.inj h).symm
   subst e
   rw [List.lookup_cons]
   split
   ·exact ⟨_, rfl⟩
   ·rename_i hne
    rcases List.mem_cons.1 hm with hm | hm
    ·injection hm with _ e2
     subst e2
     simp at hne
    ·exact C9 hr hm
  ·cases h
structure Ren (G G' : Gst) (w : World) (σ : List (Nat × Nat)) : Prop where
 lat : Lat G.av w G'.av w
 hd : ∀ i j, σ.lookup i = some j → G'.hd j = G.hd i ∧ G'.bk j = G.bk i ∧ ∃ x, G'.b j = .live x
theorem KV.ren {G' : Gst} {σ : List (Nat × Nat)} (h : Ren G G' w σ) : ∀ {k : K} {v : Value}, KV P G w tm k v → KV P G' w tm (eM σ k) v := by
 intro k
 induction k with
 | any => intro v _; trivial
 | nilsl => intro v hv; exact hv
 | val t x => intro v hv; exact aB.lat h.lat hv
 | clip e xs => intro v hv; exact ⟨aB.lat h.lat hv.1, hv.2⟩
 | grd s c cs k ih => intro v _; trivial
 | opt cs k ih => intro v _; trivial
 | tup t x => intro v _; trivial
 | ref t x => intro v hv; obtain ⟨ad, e, hr⟩ := hv; exact ⟨ad, e, hr.lat h.lat⟩
 | ptr id base p =>
  intro v hv
  simp only [eM]
  split
  ·rename_i j hj
   obtain ⟨_, hp, g, hg, e⟩ := hv
   obtain ⟨e1, e2, x, e3⟩ := h.hd id j hj
   exact ⟨⟨x, .inl e3⟩, hp, g, by rw [e2]; exact hg, by rw [e1]; exact e⟩
  ·trivial
 | sl id e =>
  intro v hv
  simp only [eM]
  split
  ·rename_i j hj
   obtain ⟨e1, e2, x, e3⟩ := h.hd id j hj
   exact ⟨⟨x, .inl e3⟩, by rw [e1]; exact hv.2⟩
  ·trivial
 | fnc f => intro v hv; exact hv
 | knil => intro v hv; exact hv
 | kcons a b iha ihb => intro v hv; obtain ⟨x, xs, e, h1, h2⟩ := hv; exact ⟨x, xs, e, iha h1, ihb h2⟩
 | agg b c ih => intro v hv; obtain ⟨vs, h1, h2, e⟩ := hv; exact ⟨vs, ih h1, h2, e⟩
 | clo f c ih => intro v hv; obtain ⟨vs, h1, e⟩ := hv; exact ⟨vs, ih h1, e⟩
 | vw id e lo n =>
  intro v hv
  simp only [eM]
  split
  ·rename_i j hj
   obtain ⟨_, a, len, cap, h1, h2⟩ := hv
   obtain ⟨e1, e2, x, e3⟩ := h.hd id j hj
   exact ⟨⟨x, .inl e3⟩, a, len, cap, by rw [e1]; exact h1, h2⟩
  ·trivial
 | sel c a b iha ihb => intro v hv; exact ⟨fun hc => iha (hv.1 hc), fun hc => ihb (hv.2 hc)⟩
 | pm id =>
  intro v hv
  simp only [eM]
  split
  ·rename_i j hj
   obtain ⟨_, g, hg, e⟩ := hv
   obtain ⟨e1, e2, x, e3⟩ := h.hd id j hj
   exact ⟨⟨x, .inl e3⟩, g, by rw [e2]; exact hg, e⟩
  ·trivial
 | nilmp => intro v hv; exact hv
 | ifc t k ih => intro v hv; obtain ⟨u, e, h1⟩ := hv; exact ⟨u, e, ih h1⟩
 | nilif => intro v hv; exact hv
 | yld id =>
  intro v hv
  simp only [eM]
  split
  ·rename_i j hj
   obtain ⟨_, g, hg, e⟩ := hv
   obtain ⟨e1, e2, x, e3⟩ := h.hd id j hj
   exact ⟨⟨x, .inl e3⟩, g, by rw [e2]; exact hg, e⟩
  ·trivial
 | lit b => intro v hv; exact hv
 | asl id base p m e lo n =>
  intro v hv
  simp only [eM]
  split
  ·rename_i j hj
   obtain ⟨_, hp, g, a', hg, e4, e5⟩ := hv
   obtain ⟨e1, e2, x, e3⟩ := h.hd id j hj
   exact ⟨⟨x, .inl e3⟩, hp, g, a', by rw [e2]; exact hg, e4, by rw [e1]; exact e5⟩
  ·trivial
theorem Fe (σ : List (Nat × Nat)) : ∀ k : K, nog (eM σ k) = true := by
 intro k
 induction k with
 | kcons a b iha ihb => simp [eM, nog, iha, ihb]
 | agg b c ih => simp [eM, nog, ih]
 | clo f c ih => simp [eM, nog, ih]
 | sel c a b iha ihb => simp [eM, nog, iha, ihb]
 | ifc t k ih => simp [eM, nog, ih]
 | ptr id base p => simp only [eM]; split <;> rfl
 | sl id e => simp only [eM]; split <;> rfl
 | vw id e lo n => simp only [eM]; split <;> rfl
 | pm id => simp only [eM]; split <;> rfl
 | yld id => simp only [eM]; split <;> rfl
 | asl id base p m e lo n => simp only [eM]; split <;> rfl
 | _ => rfl
theorem KE.ren {G' : Gst} {σ : List (Nat × Nat)} (h : Ren G G' w σ) : ∀ {k : K} {ms : List MapEntry}, KE P G w k ms → KE P G' w (eM σ k) ms
 | .knil, _, hh => hh
 | .kcons (.kcons _ _) _, _, ⟨m, ms', e, h1, h2, h3⟩ => ⟨m, ms', e, h1.ren h, h2.ren h, KE.ren h h3⟩
theorem FD (σ : List (Nat × Nat)) : ∀ (l : List (Nat × K)) (n : Nat), ofS (pU σ l) n = eM σ (ofS l n) ∨ (ofS (pU σ l) n = .any)
 | [], n => .inr rfl
 | (m, k) :: l, n => by
  unfold ofS pU
  rw [List.lookup_cons, List.lookup_cons]
  cases h : n == m
  ·exact FD σ l n
  ·exact .inl rfl
theorem KVs.ren {G' : Gst} {σ : List (Nat × Nat)} (h : Ren G G' w σ) {l : List (Nat × K)} {n : Nat} {v : Value} (hv : KV P G w tm (ofS l n) v) : KV P G' w tm (ofS (pU σ l) n) v := by
 rcases FD σ l n with e | e <;> rw [e]
 ·exact hv.ren h
 ·trivial
theorem KVs.flat (σ : List (Nat × Nat)) (l : List (Nat × K)) (n : Nat) : Go.Proofs.Ytimdnodkabnbfaa.flat (ofS (pU σ l) n) = true := by
 rcases FD σ l n with e | e <;> rw [e]
 ·exact jm (Fe σ _)
 ·rfl
theorem HN (σ : List (Nat × Nat)) : ∀ l : List (Nat × K), tZ (pU σ l) = true
 | [] => rfl
 | (_, k) :: l => by simp [pU, tZ, Fe σ k, HN σ l]
theorem fE.ren {G' : Gst} {σ : List (Nat × Nat)} (h : Ren G G' w σ) (hw0 : G'.w0 = G.w0) (hown : G'.own = G.own) {i j : Nat} (e1 : G'.hd j = G.hd i) (e2 : G'.bk j = G.bk i) {x : Bx} (hx : fE P G w i x) : fE P G' w j (De σ x) := by
 have hl := h.lat
 have hn : ∀ g, G.nb g → G'.nb g := fun g h => by unfold Gst.nb; rw [hw0, hown]; exact h
 cases x with
 | cell t y =>
  obtain ⟨g, arr, eid, h1, h2, h3, h4, h5⟩ := hx
  exact ⟨g, arr, eid, by rw [e2]; exact h1, hn _ h2, h3, h4.lat hl, by rw [e1]; exact h5⟩
 | row e xs =>
  rcases hx with ⟨q1, h1, a, h2⟩ | ⟨g, arr, eid, off, sp, h1, h2, h3, h4, h5, h6, h8⟩
  ·exact .inl ⟨q1, by rw [e2]; exact h1, a, by rw [e1]; exact h2⟩
  ·exact .inr ⟨g, arr, eid, off, sp, by rw [e2]; exact h1, by rw [e1]; exact h2, hn _ h3, h4, h5, h6, h8.imp fun _ _ r => r.lat hl⟩
 | full e n zs =>
  rcases hx with ⟨q1, q2, h1, a, h2⟩ | ⟨g, arr, eid, off, h1, h2, h3, h4, h5, h6, h7, h8⟩
  ·exact .inl ⟨q1, q2, by rw [e2]; exact h1, a, by rw [e1]; exact h2⟩
  ·exact .inr ⟨g, arr, eid, off, by rw [e2]; exact h1, by rw [e1]; exact h2, hn _ h3, h4, h5, h6, h7, h8.imp fun _ _ r => r.lat hl⟩
 | obj t k =>
  obtain ⟨g, arr, eid, v, h1, h2, h3, h4, h5, h6, h7, h8, h9, h10, h11⟩ := hx
  exact ⟨g, arr, eid, v, by rw [e2]; exact h1, hn _ h2, h3, Fe σ k, h5.ren h, h6, h7, h8, h9, h10, by rw [e1]; exact h11⟩
 | mpd k v l => obtain ⟨g, es, ck, h1, h2, h3, hst, h4⟩ := hx; exact ⟨g, es, ck, by rw [e2]; exact h1, hn _ h2, h3, hst, h4.imp (fun _ _ r => aB.lat hl r) (fun _ _ r => aB.lat hl r)⟩
 | itr k v left cur =>
  obtain ⟨g, gm, since, seen, es, h1, h2, h3, h0, h4, h5, h6, h7, h8, h9⟩ := hx
  exact ⟨g, gm, since, seen, es, by rw [e2]; exact h1, hn _ h2, h3, by rw [e1]; exact h0, (hl.keep gm h5 h4).2, h5, h6, h7,
   h8.imp (fun _ _ r => aB.lat hl r) (fun _ _ r => aB.lat hl r), fun x hx => let ⟨e, a1, a2, a3, a4⟩ := h9 x hx; ⟨e, a1, a2, a3.lat hl, a4.lat hl⟩⟩
 | mpk k c => obtain ⟨g, es, ck, h1, h2, h3, h4⟩ := hx; exact ⟨g, es, ck, by rw [e2]; exact h1, hn _ h2, h3, h4.ren h⟩
 | lop st pend s f params assign body => obtain ⟨g, d, q, tmps, h1, h2, h3, h5, h6, h4⟩ := hx; exact ⟨g, d, q, tmps, by rw [e2]; exact h1, hn _ h2, h3, h5, HN σ s, fun n => KVs.ren h (h4 n)⟩
 | dfr => obtain ⟨g, h1, h2, h3⟩ := hx; exact ⟨g, by rw [e2]; exact h1, hn _ h2, h3⟩
def tw (r : Nat) : Deferred := { target := .collected r, args := #[] }
def Mk (G : Gst) (w : World) (L : List Deferred) : Prop :=
 ∃ rs : List Nat, L = rs.map tw ∧ rs.Nodup ∧ ∀ r ∈ rs, G.O r ∧ G.w0.heap.size ≤ r ∧ r < w.heap.size ∧ w.heap[r]? = some (.deferred (some []))
theorem Mk.ext {G G' : Gst} {w w' : World} {L : List Deferred} (h : G.Ext w G' w') (hm : Mk G w L) : Mk G' w' L := by
 obtain ⟨rs, e, hn, hr⟩ := hm
 refine ⟨rs, e, hn, fun r hr' => ?_⟩
 obtain ⟨h1, h2, h3, h4⟩ := hr r hr'
 exact ⟨h.O.1 r h1, by rw [h.w0]; exact h2, Nat.lt_of_lt_of_le h3 h.lat.size, (h.keepO r h1 h3).trans h4⟩
def lh (G : Gst) : Option Nat → Option Nat → Prop
 | none, l => l = none
 | some id, l => (∃ x, G.b id = .live x ∨ G.b id = .dead) ∧ ∃ g, G.bk id = some g ∧ l = some g
theorem lh.ext0 {G G' : Gst} {w w' : World} (h : G.Ext0 w G' w') : ∀ {ro l : Option Nat}, lh G ro l → lh G' ro l
 | none, _, hh => hh
 | some id, _, ⟨h1, g, h2, h3⟩ => by
  have := h.hd id (i9 h1)
  exact ⟨mD this.2.2, g, by rw [this.2.1]; exact h2, h3⟩
def tmV (t : Array Value) (n : Nat) : Value := t.getD n undef
def tB (G : Gst) (dst : Option Nat) (todo : List Item) (fr : Frame) : Option Nat → Prop
 | none => ∀ v, fr.finish v = fr.atR ((⟨fr.tmps, fr.defers⟩ : Act).put dst v) todo
 | some id => (∃ x, G.b id = .live x ∨ G.b id = .dead) ∧ ∃ g, G.bk id = some g ∧ ∀ v, fr.finish v = fr.atR ⟨fr.tmps, fr.defers⟩ (.endRangeFunc g :: todo)
theorem tB.ext0 {G G' : Gst} {w w' : World} {dst : Option Nat} {todo : List Item} {fr : Frame} (h : G.Ext0 w G' w') : ∀ {rng : Option Nat}, tB G dst todo fr rng → tB G' dst todo fr rng
 | none, hh => hh
 | some id, ⟨h1, g, h2, h3⟩ => by
  have := h.hd id (i9 h1)
  exact ⟨mD this.2.2, g, by rw [this.2.1]; exact h2, h3⟩
structure FF (P : Program) (ct : cr) (fr : Frame) (G : Gst) (w : World) : Prop where
 kv : ∀ n, KV P G w (tmV fr.tmps) (ct.s n) (tmV fr.tmps n)
 flat : ∀ n, flat (ct.s n) = true
 size : fr.tmps.size = ct.fx.fn.ntmps
 kind : fr.kind = .normal
 fn : ct.fx.ro = none → P.funcs[fr.fn]? = some ct.fx.fn
 ro : lh G ct.fx.ro fr.roundOf
 dst : fm ct.fx.fn.ntmps { (default : Oper) with dst := ct.dst } = true
 back : tB G ct.dst ct.todo fr ct.rng
theorem FF.ext0 {ct : cr} {fr : Frame} {G G' : Gst} {w w' : World} (h : G.Ext0 w G' w') (hf : FF P ct fr G w) : FF P ct fr G' w' :=
 ⟨fun n => (hf.kv n).ext0 h, hf.flat, hf.size, hf.kind, hf.fn, hf.ro.ext0 h, hf.dst, hf.back.ext0 h⟩
def ir (P : Program) : List cr → List Frame → Gst → World → Prop
 | [], [], _, _ => True
 | ct :: stk, fr :: frs, G, w => FF P ct fr G w ∧ ir P stk frs G w
 | _, _, _, _ => False
theorem ir.ext0 : ∀ {stk : List cr} {frs : List Frame} {G G' : Gst} {w w' : World}, G.Ext0 w G' w' → ir P stk frs G w → ir P stk frs G' w'
 | [], [], _, _, _, _, _, _ => trivial
 | _ :: _, _ :: _, _, _, _, _, h, ⟨h1, h2⟩ => ⟨h1.ext0 h, h2.ext0 h⟩
 | [], _ :: _, _, _, _, _, _, h => h.elim
 | _ :: _, [], _, _, _, _, _, h => h.elim
def Cx.stk (P : Program) (c : Cx) (stk : List cr) (frs : List Frame) (df : List Deferred) (ro l : Option Nat) : Cx :=
 ⟨c.O, c.own, c.w0, fun G w => ir P stk frs G w ∧ Mk G w (df ++ frs.flatMap (·.defers)) ∧ lh G ro l, fun _ _ _ _ e h => ⟨h.1.ext0 e.to0, h.2.1.ext e, h.2.2.ext0 e.to0⟩, df⟩
def bG (P : Program) (X : a8) (c : Cx) (R0 : Ending → World → Prop) (stk : List cr) (fx : Fx) (todo : List Item) (env : Env) : Prop :=
 ∀ (frs : List Frame) (b : Frame) (a : Act) (w : World), b.kind = .normal → (fx.ro = none → P.funcs[b.fn]? = some fx.fn) → Sim P (X.at fx) (c.stk P stk frs a.defers fx.ro b.roundOf) env a w →
  ∀ cs : List Frame, ∃ v w' fr, R0 (.returned v) w' ∧ Steps P (lone (b.atR a todo) (frs ++ cs) w) (lone fr cs w') ∧ fr.fn = (frs.getLastD b).fn ∧ fr.leaving P w' (.returned v)
def bh (P : Program) (X : a8) (c : Cx) (R0 : Ending → World → Prop) (Z : K → Prop) : af → Prop
 | .bad _ => False
 | .ret k => Z k
 | .ite c0 t e => (c0 = true → bh P X c R0 Z t) ∧ (c0 = false → bh P X c R0 Z e)
 | .req p t => p ∧ bh P X c R0 Z t
 | .all _ p t => ∀ x, p x → bh P X c R0 Z (t x)
 | .loop stk fx todo s b => bG P X c R0 stk fx todo (Env.of s b)
theorem rX {c : Cx} {R0 : Ending → World → Prop} {Z : K → Prop} : ∀ {ps : List Prop} {t : af}, bh P X c R0 Z (uO ps t) → (∀ p ∈ ps, p) ∧ bh P X c R0 Z t
 | [], t, h => ⟨by simp, h⟩
 | p :: ps, t, h => by
  obtain ⟨h1, h2⟩ := h
  obtain ⟨h3, h4⟩ := rX h2
  refine ⟨fun q hq => ?_, h4⟩
  rcases List.mem_cons.1 hq with rfl | hq
  ·exact h1
  ·exact h3 q hq
theorem xX (h : dx o = false) : ∀ c, o.op ≠ .defer c := by
 intro c e
 unfold dx at h
 rw [e] at h
 cases h
theorem AF {ops : Array Oper} {i : Nat} {rest : List Nat} {k : List Item} {b : Frame} {cs : List Frame} {next : Act → World → Prop} {Q : Exit → Act → World → Prop} (hQ : ∀ e a w, Q e a w → e = .normal) (ho : ops[i]? = some o) (hnd : dx o = false) (hw : Region.wanted o (yielded ops a.tmps) = true) (h : o.wp P a w next Q) :
    ∃ a' w', next a' w' ∧ Steps P (lone (b.atR a (.inRegion ops (i :: rest) :: k)) cs w) (lone (b.atR a' (.inRegion ops rest :: k)) cs w') := by
  simp only [Oper.wp, Oper.upon] at h
  have hg := stepGR_op (P := P) (b := b) (k := k) (cs := cs) (w := w) (rest := rest) ho hw
  rw [Oper.semAt_eq _ _ _ (xX hnd)] at hg
  have hfin : ∀ v, (b.atR a (.inRegion ops (i :: rest) :: k)).finish v = b.atR (a.put o.dst v) (.inRegion ops rest :: k) := by
    intro v; rw [Frame.finish_atR, ho]; rfl
  split at h
  · rename_i v w' hr
    refine ⟨_, _, h, .one (step_lone_go ?_)⟩
    rw [hg, ← hfin]; simp [stepG.apply, hr]
  · rename_i w' hr
    refine ⟨_, _, h, .one (step_lone_go ?_)⟩
    rw [hg, ← hfin]; simp [stepG.apply, hr]
  · rename_i d w' hr
    refine ⟨_, _, h, .one (step_lone_go ?_)⟩
    have : ({ b.atR a (.inRegion ops (i :: rest) :: k) with defers := d :: a.defers } : Frame).finish undef =
        b.atR ({ a with defers := d :: a.defers }.put o.dst undef) (.inRegion ops rest :: k) := by
      have := Frame.finish_atR b { a with defers := d :: a.defers } ops i rest k undef
      rw [ho] at this; exact this
    rw [hg]; simp only [stepG.apply, Sem.runT_eq, hr, GStep.bare_after]
    exact congrArg (fun fr => GStep.go { frame := fr, callers := cs, status := .running, dying := none } w') this
  · rename_i f args w' hr
    obtain ⟨e, w'', fr, hR, hsteps, _, hleave⟩ := h (b.atR a (.inRegion ops (i :: rest) :: k) :: cs)
    have henter : step P (lone (b.atR a (.inRegion ops (i :: rest) :: k)) cs w) =
        .next (lone (Frame.enter P f args .normal) (b.atR a (.inRegion ops (i :: rest) :: k) :: cs) w') :=
      step_lone_go (by rw [hg]; simp [stepG.apply, hr, Frame.atR])
    cases e with
    | returned v =>
      refine ⟨_, _, hR, .head henter (hsteps.trans (.one ?_))⟩
      rw [← hfin]; exact step_leave_returned hleave
    | panicked chain => cases hQ _ _ _ hR
    | outgrown => obtain ⟨_, _, hq⟩ := hR; cases hQ _ _ _ hq
  · rename_i row args w' hr
    obtain ⟨v, w'', hR, hsteps⟩ := h (b.atR a (.inRegion ops (i :: rest) :: k)) cs
    have henter : step P (lone (b.atR a (.inRegion ops (i :: rest) :: k)) cs w) =
        .next (lone (Frame.ofRow P row args .normal) (b.atR a (.inRegion ops (i :: rest) :: k) :: cs) w') :=
      step_lone_go (by rw [hg]; simp [stepG.apply, hr, Frame.atR])
    refine ⟨_, _, hR, .head henter ?_⟩
    rw [← hfin]; exact hsteps
  · first | exact h.elim | cases hQ _ _ _ h
  · first | exact h.elim | cases hQ _ _ _ h
theorem pR {ops : Array Oper} {i : Nat} {rest : List Nat} {k : List Item} {b : Frame} {cs : List Frame} {next : Act → World → Prop} {Q : Exit → Act → World → Prop} (hQ : ∀ e a w, Q e a w → e = .normal) (hnd : ∀ o, ops[i]? = some o → dx o = false) (h : wpOp P ops Q i next a w) :
    ∃ a' w', next a' w' ∧ Steps P (lone (b.atR a (.inRegion ops (i :: rest) :: k)) cs w) (lone (b.atR a' (.inRegion ops rest :: k)) cs w') := by
  unfold wpOp at h
  split at h
  · rename_i ho
    refine ⟨_, _, h, .one ?_⟩
    have := stepR_op_skip (P := P) (b := b) (a := a) (k := k) (cs := cs) (w := w) (ops := ops) (i := i) (rest := rest) (by simp [ho])
    simpa [ho, Act.put] using this
  · rename_i o ho
    split at h
    · rename_i hw
      rcases h with h | ⟨_, _, _, h⟩
      · exact AF hQ ho (hnd o ho) hw h
      · cases hQ _ _ _ h
    · rename_i hw
      refine ⟨_, _, h, .one ?_⟩
      have := stepR_op_skip (P := P) (b := b) (a := a) (k := k) (cs := cs) (w := w) (ops := ops) (i := i) (rest := rest) (by simp [ho]; simpa using hw)
      simpa [ho] using this
theorem uR {ops : Array Oper} {k : List Item} {b : Frame} {cs : List Frame} {Q : Exit → Act → World → Prop} (hQ : ∀ e a w, Q e a w → e = .normal) (hnd : ∀ (i : Nat) o, ops[i]? = some o → dx o = false) : ∀ (l : List Nat) (a : Act) (w : World), wpOps P ops Q l a w →
    ∃ a' w', Q .normal a' w' ∧ Steps P (lone (b.atR a (.inRegion ops l :: k)) cs w) (lone (b.atR a' k) cs w')
  | [], a, w, h => ⟨a, w, h, .one stepR_region_end⟩
  | i :: l, a, w, h => by
    rw [wpOps_cons] at h
    obtain ⟨a1, w1, h1, s1⟩ := pR (rest := l) (k := k) (b := b) (cs := cs) hQ (fun o ho => hnd i o ho) h
    obtain ⟨a2, w2, h2, s2⟩ := uR hQ hnd l a1 w1 h1
    exact ⟨a2, w2, h2, s1.trans s2⟩
theorem Pi {D : aK} (hD : cQ P D) (hh : dX D = true) {c0 : Cx} {id : Nat} {ops : Array Oper} {ord : List Nat} {env env' : Env} (hnd : ops.toList.any dx = false) (hR : zP D ops env = some ord) {ps : List Prop} (h : f7 D ops ord env = some (env', ps)) (hp : ∀ p ∈ ps, p) (hS : Sim P D c0 env a w) (b : Frame) (k : List Item) (cs : List Frame) :
    ∃ a' w', Sim P D c0 env' a' w' ∧ Steps P (lone (b.atR a (.code (.region id ops true) :: k)) cs w) (lone (b.atR a' k) cs w') := by
  have hany := Jq (Q := fun e a w => e = .normal ∧ Sim P D c0 env' a w) hD hh hR h hp hS (fun _ _ h => ⟨rfl, h⟩)
  have hnd' : ∀ (i : Nat) o, ops[i]? = some o → dx o = false := fun i o ho => by
    have hm : o ∈ ops.toList := by
      rw [← Array.getElem?_toList] at ho
      exact List.mem_of_getElem? ho
    cases hd : dx o with
    | false => rfl
    | true => rw [List.any_eq_false] at hnd; exact absurd hd (hnd o hm)
  have hops := wpAny_sound ops.size (w.tape w.drawn (.order b.fn id)) _ a _ hany
  obtain ⟨a', w', ⟨_, hS'⟩, hst⟩ := uR (k := k) (b := b) (cs := cs) (fun _ _ _ h => h.1) hnd' _ a _ hops
  refine ⟨a', w', hS', .head stepR_region_draw ?_⟩
  simp only [Region.schedule, hD.mixed, Bool.true_or, if_true]
  exact hst
end
end Go.Proofs.Ytimdnodkabnbfaa
namespace Go.Proofs.Ytimdnodkabnbfaa
open Go Go.RowKit
section
variable {P : Program} {X : a8} {D : aK} {o : Oper} {a : Act} {G : Gst} {w : World} {tm : Nat → Value}
theorem KV.unlit {k : K} {v : Value} (h : KV P G w tm k v) : KV P G w tm (Go.Proofs.Ytimdnodkabnbfaa.unlit k) v := by
 cases k <;> first | exact h | exact bA.2 h
theorem tv {s : Nat → K} {n : Nat} {v : Value} (h : KV P G w tm (s n) v) : ∀ l : List Nat, KV P G w tm (ofS (j5 s l) n) v
 | [] => trivial
 | m :: l => by
  unfold j5
  split
  ·exact tv h l
  ·rename_i k hk
   unfold ofS
   rw [List.lookup_cons]
   cases e : n == m
   ·exact tv h l
   ·have e : n = m := by simpa using e
    subst e
    exact h.unlit.strip
theorem KG {G' : Gst} {σ : List (Nat × Nat)} (h : Ren G G' w σ) : ∀ {ro l : Option Nat}, Af σ ro = true → lh G ro l → lh G' (zS σ ro) l
 | none, _, _, hh => hh
 | some id, _, hi, ⟨_, g, h2, h3⟩ => by
  obtain ⟨j, hj⟩ := Option.isSome_iff_exists.1 (show (σ.lookup id).isSome = true from hi)
  obtain ⟨_, e2, x, e3⟩ := h.hd id j hj
  show lh G' (some ((σ.lookup id).getD 0)) _
  rw [hj]
  exact ⟨⟨x, .inl e3⟩, g, by rw [← h2]; exact e2, h3⟩
theorem NQ {G' : Gst} {σ : List (Nat × Nat)} (h : Ren G G' w σ) {dst : Option Nat} {todo : List Item} {fr : Frame} : ∀ {rng : Option Nat}, Af σ rng = true → tB G dst todo fr rng → tB G' dst todo fr (zS σ rng)
 | none, _, hh => hh
 | some id, hi, ⟨_, g, h2, h3⟩ => by
  obtain ⟨j, hj⟩ := Option.isSome_iff_exists.1 (show (σ.lookup id).isSome = true from hi)
  obtain ⟨_, e2, x, e3⟩ := h.hd id j hj
  show tB G' dst todo fr (some ((σ.lookup id).getD 0))
  rw [hj]
  exact ⟨⟨x, .inl e3⟩, g, by rw [← h2]; exact e2, h3⟩
theorem It {G' : Gst} {σ : List (Nat × Nat)} (h : Ren G G' w σ) {ct : cr} {fr : Frame} {l : List Nat} (h1 : Af σ ct.fx.ro = true) (h2 : Af σ ct.rng = true) (hf : FF P ct fr G w) :
    FF P { fx := KR σ ct.fx, todo := ct.todo, dst := ct.dst, s := ofS (pU σ (j5 ct.s l)), rng := zS σ ct.rng } fr G' w :=
  ⟨fun n => KVs.ren h (tv (hf.kv n) l), fun n => KVs.flat σ _ n, hf.size, hf.kind, fun hro => hf.fn (by
    have hro : zS σ ct.fx.ro = none := hro
    cases hc : ct.fx.ro with
    | none => rfl
    | some id => rw [hc] at hro; cases hro), KG h h1 hf.ro, hf.dst, NQ h h2 hf.back⟩
theorem EG {G' : Gst} {σ : List (Nat × Nat)} (h : Ren G G' w σ) : ∀ {stk : List cr} {frs : List Frame} (ls : List (List Nat)), A5 σ (mH stk ls) = true → ir P stk frs G w → ir P (KY σ (mH stk ls)) frs G' w
 | [], [], _, _, _ => trivial
 | ct :: stk, fr :: frs, [], hi, ⟨h1, h2⟩ => by
  simp only [mH, A5, Bool.and_eq_true] at hi
  exact ⟨It (l := []) h hi.1.1 hi.1.2 h1, EG h [] hi.2 h2⟩
 | ct :: stk, fr :: frs, l :: ls, hi, ⟨h1, h2⟩ => by
  simp only [mH, A5, Bool.and_eq_true] at hi
  exact ⟨It (l := l) h hi.1.1 hi.1.2 h1, EG h ls hi.2 h2⟩
 | [], _ :: _, _, _, h => h.elim
 | _ :: _, [], _, _, h => h.elim
theorem PO {c : Cx} {stk : List cr} {frs : List Frame} {df : List Deferred} {ro l : Option Nat} {env : Env} {keep : List Nat} {ls : List (List Nat)} {σ : List (Nat × Nat)} {bs : List (Nat × Bx)} (hn1 : fV (σ.map (·.1)) = true) (hn2 : fV (σ.map (·.2)) = true) (hro : Af σ ro = true) (hst : A5 σ (mH stk ls) = true) (hbs : tj env.b σ σ = some bs) {a : Act} {w : World}
    (hS : Sim P D (c.stk P stk frs df ro l) env a w) : Sim P D (c.stk P (KY σ (mH stk ls)) frs df (zS σ ro) l) (Env.of (pU σ (j5 env.s keep)) bs) a w := by
  obtain ⟨⟨G, hb, hC, hM, hgl, hs⟩, hfl, hsz, hdf⟩ := hS
  let G' : Gst := { hd := fun j => match inv σ j with | some i => G.hd i | none => undef, bk := fun j => match inv σ j with | some i => G.bk i | none => none, b := ofB bs, O := G.O, w0 := G.w0, own := G.own }
  have hd' : ∀ j i, inv σ j = some i → G'.hd j = G.hd i ∧ G'.bk j = G.bk i := fun j i h => by
    show (match inv σ j with | some i => G.hd i | none => undef) = _ ∧ (match inv σ j with | some i => G.bk i | none => none) = _
    rw [h]
    exact ⟨rfl, rfl⟩
  have live : ∀ j x, G'.b j = .live x → ∃ i y, inv σ j = some i ∧ G.b i = .live y ∧ x = De σ y := by
    intro j x h
    have h : ofB bs j = .live x := h
    unfold ofB at h
    split at h
    · rename_i y hy
      have e : y = x := by injection h
      subst e
      rw [hb]
      exact yF hbs hy
    · cases h
  have hav : ∀ g, G'.av g → G.av g := by
    rintro g (h | ⟨j, x, h1, h2⟩)
    · exact .inl h
    · obtain ⟨i, y, hi, hx, _⟩ := live j x h1
      rw [(hd' j i hi).2] at h2
      exact .inr ⟨i, y, hx, h2⟩
  have hl : Lat G.av w G'.av w := ⟨Nat.le_refl _, fun g _ hg => ⟨rfl, fun h => hg (hav g h)⟩⟩
  have hR : Ren G G' w σ := ⟨hl, fun i j hij => by
    have hi := nx hn2 hij
    obtain ⟨x, hx⟩ := C9 hbs (iY hij)
    refine ⟨(hd' j i hi).1, (hd' j i hi).2, x, ?_⟩
    show ofB bs j = _
    unfold ofB
    rw [hx]⟩
  have hM' : MemOk P G' w := by
    refine ⟨hM.kept, hM.old, hM.dis, fun j x h => ?_, fun j j' x y g h h' k k' => ?_, fun j x g h k => ?_⟩
    · obtain ⟨i, y, hi, hx, rfl⟩ := live j x h
      exact (hM.box i y hx).ren hR rfl rfl (hd' j i hi).1 (hd' j i hi).2
    · obtain ⟨i, z, hi, hx, _⟩ := live j x h
      obtain ⟨i', z', hi', hx', _⟩ := live j' y h'
      rw [(hd' j i hi).2] at k
      rw [(hd' j' i' hi').2] at k'
      have e := hM.sep i i' z z' g hx hx' k k'
      subst e
      exact AH hn1 (AV hi) (AV hi')
    · obtain ⟨i, z, hi, hx, _⟩ := live j x h
      rw [(hd' j i hi).2] at k
      exact hM.boxO i z g hx k
  have hJ : ir P stk frs G w ∧ Mk G w (df ++ frs.flatMap (·.defers)) ∧ lh G ro l := hC.J
  have hmk : Mk G' w (df ++ frs.flatMap (·.defers)) := hJ.2.1
  exact ⟨⟨G', rfl, ⟨hC.O, hC.w0, hC.own, EG hR ls hst hJ.1, hmk, KG hR hro hJ.2.2⟩, hM', hgl.lat hl, fun n => KVs.ren hR (tv (hs n) keep)⟩, fun n => KVs.flat σ _ n, hsz, hdf⟩
theorem B4 {c : Cx} {R0 : Ending → World → Prop} {Z : K → Prop} {keep : List Nat} {own : List (Nat × Ty)} {ls : List (List Nat)} {stk : List cr} {fx : Fx} {todo : List Item} {env : Env}
    (h : bh P X c R0 Z (sB keep own ls stk fx todo env)) : bG P X c R0 stk fx todo env := by
  unfold sB at h
  split at h
  · exact h.elim
  · rename_i env1 h1
    simp only at h
    split at h
    · rename_i hn
      simp only [Bool.and_eq_true] at hn
      split at h
      · rename_i bs hbs
        intro frs b a w hk hfn hS cs
        exact h frs b a w hk (fun hro => hfn (by
          have hro : zS _ fx.ro = none := hro
          cases hc : fx.ro with
          | none => rfl
          | some id => rw [hc] at hro; cases hro)) (PO (D := X.at fx) hn.1.1.1 hn.1.1.2 hn.1.2 hn.2 hbs (sX h1 hS)) cs
      · exact h.elim
    · exact h.elim
theorem ak.dropped {k : K} {ch : Chg} (hM : MemOk P G w) {j : Nat} (h : ak P o a (G.drop j) w tm k ch) : ak P o a G w tm k ((j, .dead) :: ch) :=
 fun next Q hn => h next Q fun G' w' v e1 e2 e3 e4 => hn G' w' v e1 ((hM.drop j).2.trans e2) e3 e4
theorem J7 (hD : DOk P D) (hM : MemOk P G w) {r : Operand → K} (hr : ∀ x, KV P G w tm (r x) (a.eval x)) {k : K} {ch : Chg} {ps : List Prop} (h : L2 D o r G.b = some (k, ch, ps)) (hp : ∀ p ∈ ps, p) : ak P o a G w tm k ch := by
 unfold L2 at h
 split at h
 ·rename_i t x v ho
  split at h
  ·rename_i e j e0 ht hv
   split at h
   ·rename_i e' xs hl
    split at h
    ·rename_i xs' hxs
     obtain ⟨ee, hx2⟩ := cz hxs
     cases ee
     subst hx2
     split at h
     ·rename_i i base p hx
      split at h
      ·rename_i bx hb
       split at h
       ·rename_i hbase
        split at h
        ·rename_i hta
         split at h
         ·rename_i bx' hn
          simp only [Option.some.injEq, Prod.mk.injEq] at h
          obtain ⟨rfl, rfl, rfl⟩ := h
          obtain ⟨hM1, hE1⟩ := hM.drop j
          have hkx := (hr x).ext hE1
          rw [hx] at hkx
          have hkv := hr v
          rw [hv] at hkv
          have hd := mq hM (aq hl)
          refine ak.dropped hM (KL hD hM1 ht ho hkx (kv := .val (.slc _) xs') (by rw [hkv.2]; exact hd) (by show d5 _ _ xs' = some xs'; unfold d5; rw [dif_pos rfl]) hb hbase (Ae hp) hta hn)
         ·cases h
        ·cases h
       ·cases h
      ·cases h
     ·cases h
    ·cases h
   ·cases h
  ·cases h
 ·cases h
theorem O4 (hX : XOk P X) {fx : Fx} {c0 : Cx} {ops : Array Oper} {o : Oper} {env : Env} {st : Stp} (h : HP X (X.at fx) ops o env = some st) {a : Act} {w : World} (hS : Sim P (X.at fx) c0 env a w) {i : Nat} (hi : ops[i]? = some o) :
    match st with
    | .one env' ps => (∀ p ∈ ps, p) → wpOp P ops (fun _ _ _ => False) i (fun a' w' => Sim P (X.at fx) c0 env' a' w') a w
    | .ex _ p f => ∃ x, p x ∧ wpOp P ops (fun _ _ _ => False) i (fun a' w' => Sim P (X.at fx) c0 (f x) a' w') a w := by
  have hD := hX.at fx
  have hh : dX (X.at fx) = true := hX.ht
  unfold HP at h
  split at h
  · rename_i env' ps hv
    have e := (Option.some.inj h).symm
    subst e
    exact fun hp => qA hD hh hv hp hS hi _
  · split at h
    · cases h
    · rename_i hcond
      simp only [Bool.or_eq_true, not_or, Bool.not_eq_true, Option.isSome_eq_false_iff, Bool.not_eq_false', Bool.not_eq_eq_eq_not, Bool.not_true] at hcond
      have hg : o.guard = none := by simpa using hcond.1
      have hdst : fm (X.at fx).n o = true := by simpa using hcond.2
      have hw : Region.wanted o (yielded ops a.tmps) = true := by unfold Region.wanted; rw [hg]
      obtain ⟨⟨G, hb, hC, hM, hgl, hs⟩, hfl, hsz, hdf⟩ := hS
      have hr := fun x => lw (a := a) (tm := tmF a) hD.toDOk hgl (g := none) (fun _ _ e => by cases e) hs (fun _ => rfl) x
      have fin : ∀ {k' : K} {ch' : Chg}, ak P o a G w (tmF a) k' ch' → wpOp P ops (fun _ _ _ => False) i (fun a' w' => Sim P (X.at fx) c0 { s := put env.s o.dst (Go.Proofs.Ytimdnodkabnbfaa.strip k'), b := aG env.b ch', lim := env.lim } a' w') a w := by
        intro k' ch' hy
        unfold wpOp
        rw [hi]
        simp only [hw, if_true]
        left
        refine hy _ _ ?_
        intro G' w' v e1 e2 e3 e4
        refine ⟨⟨G', by rw [e1, hb], hC.ext e2, e3, hgl.lat e2.lat, ?_⟩, gz hfl (jm (dJ k')), ?_, ?_⟩
        · exact lP rfl hfl (fun n => (hs n).ext e2) hsz hdst (fun d hd => e4.strip.tm (dJ _))
        · cases hd : o.dst <;> simp [Act.put, hsz]
        · cases hd : o.dst <;> simp [Act.put, hdf]
      rw [← hb] at h
      split at h
      · rename_i k1 ch ps hv
        have e := (Option.some.inj h).symm
        subst e
        intro hp
        have := vj (tm := tmF a) hD hM hgl hr hv hp
        rw [hb]
        exact fin this
      · rename_i α p k1 ch hv
        have e := (Option.some.inj h).symm
        subst e
        obtain ⟨x, hx, hy⟩ := vj (tm := tmF a) hD hM hgl hr hv
        refine ⟨x, hx, ?_⟩
        rw [hb]
        exact fin hy
      · split at h
        · rename_i k1 ch ps hv
          have e := (Option.some.inj h).symm
          subst e
          intro hp
          have := qk (tm := tmF a) hD hM hr hv hp
          rw [hb]
          exact fin this
        · rename_i α p k1 ch hv
          have e := (Option.some.inj h).symm
          subst e
          obtain ⟨x, hx, hy⟩ := qk (tm := tmF a) hD hM hr hv
          refine ⟨x, hx, ?_⟩
          rw [hb]
          exact fin hy
        · split at h
          · rename_i k1 ch ps hv
            have e := (Option.some.inj h).symm
            subst e
            intro hp
            have := J7 (tm := tmF a) hD.toDOk hM hr hv hp
            rw [hb]
            exact fin this
          · cases h
theorem Dr (hX : XOk P X) {fx : Fx} {c0 : Cx} {ops ops' : Array Oper} {o o' : Oper} {env : Env} {st : Stp} (h : HP X (X.at fx) ops' o' env = some st) {a : Act} {w : World} (hS : Sim P (X.at fx) c0 env a w) {i : Nat} (hi : ops[i]? = some o)
    (ho : (ops' = ops ∧ o' = o) ∨ (ops' = #[jz o] ∧ o' = jz o ∧ Region.wanted o (yielded ops a.tmps) = true)) (hnd : dx o = false) {rest : List Nat} {k : List Item} (b : Frame) (cs : List Frame) :
    match st with
    | .one env' ps => (∀ p ∈ ps, p) → ∃ a' w', Sim P (X.at fx) c0 env' a' w' ∧ Steps P (lone (b.atR a (.inRegion ops (i :: rest) :: k)) cs w) (lone (b.atR a' (.inRegion ops rest :: k)) cs w')
    | .ex _ p f => ∃ x, p x ∧ ∃ a' w', Sim P (X.at fx) c0 (f x) a' w' ∧ Steps P (lone (b.atR a (.inRegion ops (i :: rest) :: k)) cs w) (lone (b.atR a' (.inRegion ops rest :: k)) cs w') := by
  have go : ∀ {K : Act → World → Prop}, wpOp P ops (fun _ _ _ => False) i K a w → ∃ a' w', K a' w' ∧ Steps P (lone (b.atR a (.inRegion ops (i :: rest) :: k)) cs w) (lone (b.atR a' (.inRegion ops rest :: k)) cs w') := fun h =>
    pR (Q := fun _ _ _ => False) (fun _ _ _ h => h.elim) (fun o' ho' => by rw [hi] at ho'; cases ho'; exact hnd) h
  have turn : ∃ i', ops'[i']? = some o' ∧ ∀ {K : Act → World → Prop}, wpOp P ops' (fun _ _ _ => False) i' K a w → wpOp P ops (fun _ _ _ => False) i K a w := by
    rcases ho with ⟨rfl, rfl⟩ | ⟨rfl, rfl, hw⟩
    · exact ⟨i, hi, fun h => h⟩
    · refine ⟨0, rfl, fun {K} h => ?_⟩
      unfold wpOp at h ⊢
      rw [hi]
      have h0 : Region.wanted (jz o) (yielded #[jz o] a.tmps) = true := rfl
      simp only [show (#[jz o] : Array Oper)[0]? = some (jz o) from rfl, h0, if_true] at h
      simp only [hw, if_true]
      exact h
  obtain ⟨i', hi', ht⟩ := turn
  have := O4 hX h hS hi'
  cases st with
  | one env' ps => exact fun hp => go (ht (this hp))
  | ex α p f =>
    obtain ⟨x, hx, hw⟩ := this
    exact ⟨x, hx, go (ht hw)⟩
theorem PL (hD : cQ P D) (hM : MemOk P G w) {id : Nat} {t : Ty} {k : K} (hl : G.b id = .live (.obj t k)) {ty : TypeId} (hty : D.ty ty = some t) {g : Nat} (hk : G.bk id = some g) : ∃ v, (loadVar ty ⟨g, 0, none⟩).run P w = .ok v w ∧ nog k = true ∧ KV P G w tm k v := by
 obtain ⟨g', arr, eid, v, h1, h2, h3, h4, h5, h6, h7, h8, h9, h10, h11⟩ := hM.box id _ hl
 rw [hk] at h1
 cases h1
 have hlen : arr.toList.length = siz t := by rw [Array.length_toList]; exact h7
 have hload := qq (hD.fit hty) w ⟨g, 0, none⟩ arr.toList hlen (fun j u hj => by
  rw [cS, Nat.zero_add, cell_of_row w g j arr eid (0, 0) h3]
  simpa using hj)
 refine ⟨v, ?_, h4, h5.tm h4⟩
 rw [hload]
 congr 1
 unfold az
 cases ha : isAgg t
 ·have h1c := h10 ha
  rw [if_neg (by simp)]
  have : v.cells = #[v] := by cases v <;> first | rfl | (simp [Value.oneCell'] at h1c)
  rw [← h6, this]; rfl
 ·obtain ⟨cs, rfl⟩ := h9 ha
  rw [if_pos rfl]
  have : cs = arr := h6
  rw [this]
theorem Od (hD : cQ P D) {c0 : Cx} {env : Env} {a : Act} {w : World} (hS : Sim P D c0 env a w) {G : Gst} (hb : G.b = env.b) (hM : MemOk P G w) (hs : ∀ n, KV P G w (tmF a) (env.s n) (tmF a n)) {r : ResultVar} {k : K} (h : KS D env r = some k) :
    ∃ v, (l7 a r).run P w = Result.ok v w ∧ nog k = true ∧ KV P G w (tmF a) k v := by
  cases r with
  | tmp t =>
    have e := (Option.some.inj h).symm
    subst e
    exact ⟨tmF a t, rfl, dJ _, (hs t).strip⟩
  | cell q ty =>
    have hk := hs q
    simp only [KS] at h
    split at h
    · rename_i id base e
      rw [e] at hk
      obtain ⟨_, _, g, hg, ev⟩ := hk
      have hoff : aJ base [] = 0 := by cases base <;> rfl
      have ev : a.tmps.getD q undef = .pointer (some ⟨g, i5 (G.hd id) + aJ base [], none⟩) := ev
      split at h
      · rename_i u x hl
        split at h
        · rename_i hty
          have e'' := (Option.some.inj h).symm
          subst e''
          rw [← hb] at hl
          obtain ⟨g', arr, eid, q1, q2, q3, q4, q5⟩ := hM.box id _ (aq hl)
          rw [hg] at q1
          cases q1
          have hload := qq (hD.fit hty) w ⟨g, 0, none⟩ arr.toList q4.length (fun j u hj => by
            rw [cS, Nat.zero_add, cell_of_row w g j arr eid (0, 0) q3]
            simpa using hj)
          rw [q5, hoff] at ev
          refine ⟨az u arr.toList, ?_, rfl, ⟨_, rfl, q4⟩⟩
          show (do loadVar ty (← asAddr (a.tmps.getD q undef)) : Sem Value).run P w = _
          simp only [ev, asAddr, Sem.run_bind, Sem.run_pure, Result.andThen_ok, hload]
        · cases h
      · rename_i u k' hl
        split at h
        · rename_i hty
          have e'' := (Option.some.inj h).symm
          subst e''
          rw [← hb] at hl
          obtain ⟨_, _, _, _, _, _, _, _, _, _, _, _, _, _, q5⟩ := hM.box id _ (aq hl)
          obtain ⟨v, hload, h4, h5⟩ := PL (tm := tmF a) hD hM (aq hl) hty hg
          rw [q5, hoff] at ev
          refine ⟨v, ?_, h4, h5⟩
          show (do loadVar ty (← asAddr (a.tmps.getD q undef)) : Sem Value).run P w = _
          simp only [ev, asAddr, Sem.run_bind, Sem.run_pure, Result.andThen_ok, hload]
        · cases h
      · cases h
    · cases h
theorem Kz (hD : cQ P D) {c0 : Cx} {env : Env} {a : Act} {w : World} (hS : Sim P D c0 env a w) {G : Gst} (hb : G.b = env.b) (hM : MemOk P G w) (hs : ∀ n, KV P G w (tmF a) (env.s n) (tmF a n)) : ∀ {l : List ResultVar} {ks : List K}, Hk D env l = some ks →
    ∃ vs : List Value, (l.mapM (l7 a)).run P w = Result.ok vs w ∧ vs.length = ks.length ∧ nog (ql ks) = true ∧ KV P G w (tmF a) (ql ks) (.tuple vs.toArray) ∧ ∀ k, ks = [k] → ∀ v, vs = [v] → nog k = true ∧ KV P G w (tmF a) k v
  | [], ks, h => by
    have e := (Option.some.inj h).symm
    subst e
    exact ⟨[], by simp, rfl, rfl, rfl, fun _ h => by cases h⟩
  | r :: l, ks, h => by
    simp only [Hk] at h
    split at h
    · rename_i k ks' h1 h2
      have e := (Option.some.inj h).symm
      subst e
      obtain ⟨v, hv, hn, hk⟩ := Od hD hS hb hM hs h1
      obtain ⟨vs, hvs, hlen, hns, hks, _⟩ := Kz hD hS hb hM hs h2
      refine ⟨v :: vs, ?_, by simp [hlen], by simp [ql, nog, hn, hns], ⟨v, vs, rfl, hk, hks⟩, ?_⟩
      · rw [List.mapM_cons]
        simp only [Sem.run_bind, hv, Result.andThen_ok, hvs, Sem.run_pure]
      · intro k' e1 v' e2
        injection e1 with e1 _
        injection e2 with e2 _
        rw [← e1, ← e2]
        exact ⟨hn, hk⟩
    · cases h
theorem NF (hD : cQ P D) {c0 : Cx} {fn : Func} {env : Env} {a : Act} {w : World} (hS : Sim P D c0 env a w) {G : Gst} (hb : G.b = env.b) (hM : MemOk P G w) (hs : ∀ n, KV P G w (tmF a) (env.s n) (tmF a n)) {k : K} (h : LR D env fn.results.toList = some k) :
    ∃ v, (results fn a.tmps).run P w = .ok v w ∧ nog k = true ∧ KV P G w (tmF a) k v := by
  have key : ∀ ks, Hk D env fn.results.toList = some ks → ∃ vs : List Value, (fn.results.mapM (l7 a)).run P w = Result.ok vs.toArray w ∧ vs.length = ks.length ∧ nog (ql ks) = true ∧ KV P G w (tmF a) (ql ks) (.tuple vs.toArray) ∧ ∀ k, ks = [k] → ∀ v, vs = [v] → nog k = true ∧ KV P G w (tmF a) k v := by
    intro ks hks
    obtain ⟨vs, h1, h2⟩ := Kz hD hS hb hM hs hks
    refine ⟨vs, ?_, h2⟩
    rw [Array.mapM_eq_mapM_toList]
    simp only [Sem.run_map, h1, Result.andThen_ok]
  unfold LR at h
  split at h
  · rename_i k' hks
    have e := (Option.some.inj h).symm
    subst e
    obtain ⟨vs, h1, h2, _, _, h3⟩ := key _ hks
    match vs, h2 with
    | [v], _ =>
      refine ⟨v, ?_, h3 _ rfl v rfl⟩
      rw [kg]
      simp only [Sem.run_bind, h1, Result.andThen_ok]
      rfl
  · rename_i ks hne hks
    have e := (Option.some.inj h).symm
    subst e
    obtain ⟨vs, h1, h2, h3, h4, _⟩ := key _ hks
    refine ⟨.tuple vs.toArray, ?_, h3, h4⟩
    rw [kg]
    have hs1 : ¬ vs.toArray.size = 1 := by
      intro h
      have : ks.length = 1 := by rw [← h2]; simpa using h
      match ks, this with
      | [k], _ => exact hne k rfl
    simp only [Sem.run_bind, h1, Result.andThen_ok, dif_neg hs1, Sem.run_pure]
  · cases h
end
end Go.Proofs.Ytimdnodkabnbfaa
namespace Go.Proofs.Ytimdnodkabnbfaa
open Go Go.RowKit
section
variable {P : Program} {X : a8} {D : aK} {o : Oper} {a : Act} {G : Gst} {w : World} {tm : Nat → Value}
def sD : World → List Nat → World
 | w, [] => w
 | w, r :: rs => sD (w.putObj r (.deferred none)) rs
structure Tk (rs : List Nat) (w w' : World) : Prop where
 os : w'.os = w.os
 tape : Tp w w'
 output : w'.output = w.output
 size : w'.heap.size = w.heap.size
 same : ∀ g, g ∉ rs → w'.heap[g]? = w.heap[g]?
theorem DP : ∀ (rs : List Nat) (w : World), Tk rs w (sD w rs)
 | [], w => ⟨rfl, .refl w, rfl, rfl, fun _ _ => rfl⟩
 | r :: rs, w => by
  have h := DP rs (w.putObj r (.deferred none))
  exact ⟨h.os, ⟨h.tape.eq, h.tape.le⟩, h.output, h.size.trans World.putObj_size, fun g hg => by
   simp only [List.mem_cons, not_or] at hg
   exact (h.same g hg.2).trans (World.putObj_heap_other hg.1)⟩
theorem D5 {cs : List Frame} : ∀ (rs : List Nat) (w : World) (fr : Frame), fr.mode ≠ .run → fr.defers = rs.map tw → (∀ r ∈ rs, w.heap[r]? = some (.deferred (some []))) → rs.Nodup →
    Steps P (lone fr cs w) (lone { fr with defers := [] } cs (sD w rs))
  | [], w, fr, _, hd, _, _ => by
    have : ({ fr with defers := [] } : Frame) = fr := by
      cases fr
      simp only [List.map_nil] at hd
      simp [hd]
    rw [this]
    exact .refl _ _
  | r :: rs, w, fr, hm, hd, hr, hn => by
    have h1 := step_collected (P := P) (cs := cs) (w := w) (w' := w.putObj r (.deferred none)) (d := tw r) (r := r) (ds := rs.map tw) (calls := []) hm hd rfl (run_takeDeferred (hr r (List.mem_cons_self ..)))
    rw [List.nodup_cons] at hn
    have h2 := D5 (cs := cs) rs (w.putObj r (.deferred none)) { fr with defers := [] ++ rs.map tw } hm rfl (fun q hq => by
      have hne : q ≠ r := fun e => hn.1 (e ▸ hq)
      rw [World.putObj_heap_other hne]
      exact hr q (List.mem_cons_of_mem _ hq)) hn.2
    exact .head h1 h2
theorem LI (hM : MemOk P G w) {rs : List Nat} (hr : ∀ r ∈ rs, G.O r ∧ G.w0.heap.size ≤ r) {w' : World} (ht : Tk rs w w') : MemOk P G w' ∧ G.Ext0 w G w' := by
 have hE : G.Ext0 w G w' := ⟨⟨Nat.le_of_eq ht.size.symm, fun b _ hb => ⟨ht.same b fun h => hb (.inl (hr b h).1), hb⟩⟩, fun _ h => ⟨rfl, rfl, h⟩, rfl, rfl⟩
 refine ⟨⟨⟨ht.os.trans hM.kept.os, ht.tape.trans hM.kept.tape, ht.output.trans hM.kept.output, by rw [ht.size]; exact hM.kept.size, fun b hb ho => ?_⟩, fun g h => by rw [ht.size]; exact hM.old g h, hM.dis,
  fun id x hx => (hM.box id x hx).keep0 hE rfl rfl (fun g hg => ht.same g fun h => hM.boxO id x g hx hg (hr g h).1), hM.sep, hM.boxO⟩, hE⟩
 rw [ht.same b fun h => by have := (hr b h).2; omega]
 exact hM.kept.block b hb ho
theorem Ny {c : Cx} {stk : List cr} {frs : List Frame} {ro l : Option Nat} {env : Env} (hS : Sim P D (c.stk P stk frs a.defers ro l) env a w) :
    ∃ rs, a.defers = rs.map tw ∧ rs.Nodup ∧ (∀ r ∈ rs, w.heap[r]? = some (.deferred (some []))) ∧ Sim P D (c.stk P stk frs [] ro l) env { a with defers := [] } (sD w rs) := by
  obtain ⟨⟨G, hb, hC, hM, hgl, hs⟩, hfl, hsz, hdf⟩ := hS
  obtain ⟨h1, ⟨rs0, e0, hn0, hr0⟩, h3⟩ : ir P stk frs G w ∧ Mk G w (a.defers ++ frs.flatMap (·.defers)) ∧ lh G ro l := hC.J
  obtain ⟨rs, rs', e1, e2, e3⟩ := List.map_eq_append_iff.1 e0.symm
  subst e1
  rw [List.nodup_append] at hn0
  have ht := DP rs w
  obtain ⟨hM', hE⟩ := LI hM (rs := rs) (fun r hr => ⟨(hr0 r (List.mem_append_left _ hr)).1, (hr0 r (List.mem_append_left _ hr)).2.1⟩) ht
  refine ⟨rs, e2.symm, hn0.1, fun r hr => (hr0 r (List.mem_append_left _ hr)).2.2.2, ⟨G, hb, ⟨hC.O, hC.w0, hC.own, h1.ext0 hE, ⟨rs', e3.symm, hn0.2.1, fun r hr => ?_⟩, h3.ext0 hE⟩, hM', hgl.lat hE.lat, fun n => (hs n).ext0 hE⟩, hfl, hsz, rfl⟩
  obtain ⟨q1, q2, q3, q4⟩ := hr0 r (List.mem_append_right _ hr)
  exact ⟨q1, q2, by rw [ht.size]; exact q3, by rw [ht.same r fun h => hn0.2.2 r h r hr rfl]; exact q4⟩
theorem tu (hM : MemOk P G w) {id g : Nat} {st : LoopState} {pend : Option Code} {s : List (Nat × K)} {n : Nat} {ps : Array Nat} {as c : Code} (hb : G.b id = .live (.lop st pend s n ps as c)) (hk : G.bk id = some g) :
    ∃ r : Loop, w.heap[g]? = some (.loop r) ∧ r.state = st ∧ r.pending = pend ∧ r.params = ps ∧ r.assign = as ∧ r.body = c ∧ r.tmps.size = n ∧ tZ s = true ∧ (∀ m, KV P G w (fun _ => undef) (ofS s m) (r.tmps.getD m undef)) ∧
      ∀ st' pend', MemOk P (G.turn id (.lop st' pend' s n ps as c)) (w.putObj g (.loop { r with state := st', pending := pend' })) ∧ G.Ext w (G.turn id (.lop st' pend' s n ps as c)) (w.putObj g (.loop { r with state := st', pending := pend' })) := by
  obtain ⟨g', d, q, tmps, h1, h2, h3, h4, h5, h6⟩ := hM.box id _ hb
  rw [hk] at h1
  cases h1
  refine ⟨_, h3, rfl, rfl, rfl, rfl, rfl, h4, h5, h6, fun st' pend' => ?_⟩
  refine hM.turnO hb hk rfl (.same rfl rfl) rfl (by simp) (fun b hb' => World.putObj_heap_other hb') (fun G' hE e1 e2 => ?_)
  exact ⟨g, d, q, tmps, e2, by unfold Gst.nb; rw [hE.w0, hE.own]; exact h2, World.putObj_heap_same (fK hM hb hk).1, h4, h5, fun m => (h6 m).ext hE⟩
theorem FN {id : Nat} {x : Bx} {b : Nat → BS} (hb : G.b = b) : (G.turn id x).b = aG b [(id, .live x)] := by
 funext n
 subst hb
 rfl
theorem FG {id : Nat} {x : Bx} {b : Nat → BS} (hb : G.b = b) : ((G.turn id x).drop id).b = aG b [(id, .dead)] := by
 funext n
 subst hb
 by_cases e : n = id
 ·simp [Gst.drop, Gst.turn, aG, e]
 ·simp [Gst.drop, Gst.turn, aG, e]
theorem xS (s : Nat → K) : ∀ l : List Nat, tZ (j5 s l) = true
 | [] => rfl
 | n :: l => by
  unfold j5
  split
  ·exact xS s l
  ·have := dJ (unlit (s n))
   simp [tZ, this, xS s l]
theorem EK : ∀ {l : List (Nat × K)} (n : Nat), tZ l = true → nog (ofS l n) = true
 | [], n, _ => rfl
 | (m, k) :: l, n, h => by
  simp only [tZ, Bool.and_eq_true] at h
  unfold ofS
  rw [List.lookup_cons]
  cases e : n == m
  ·exact EK n h.2
  ·exact h.1
theorem NI (hM : MemOk P G w) : MemOk P { G with O := fun g => G.O g ∨ g = w.heap.size } (w.alloc (.deferred (some []))) ∧ G.Ext w { G with O := fun g => G.O g ∨ g = w.heap.size } (w.alloc (.deferred (some []))) := by
 have hk := Kept.alloc w (.deferred (some []))
 have hav : ∀ g, Gst.av { G with O := fun g => G.O g ∨ g = w.heap.size } g → G.av g ∨ g = w.heap.size := by
  rintro g ((h | h) | h)
  ·exact .inl (.inl h)
  ·exact .inr h
  ·exact .inl (.inr h)
 have hE : G.Ext w { G with O := fun g => G.O g ∨ g = w.heap.size } (w.alloc (.deferred (some []))) :=
  ⟨⟨hk.size, fun b hb hO => ⟨hk.block b hb, fun h => (hav b h).elim hO (fun e => by omega)⟩⟩, fun _ h => ⟨rfl, rfl, h⟩, ⟨fun _ h => .inl h, fun g h => h.elim .inl fun e => .inr (by rw [e]; exact hM.kept.size)⟩, rfl, rfl, fun g _ hg => hk.block g hg⟩
 have hlt : ∀ {id x g}, G.b id = .live x → G.bk id = some g → g < w.heap.size := fun h1 h2 => (fK hM h1 h2).1
 refine ⟨⟨hM.kept.trans hk, fun g h => h.elim (fun h => Nat.lt_of_lt_of_le (hM.old g h) hk.size) (fun e => by rw [e]; simp), fun g h => ⟨fun hO => hO.elim (hM.dis g h).1 fun e => ?_, (hM.dis g h).2⟩,
  fun id x hx => (hM.box id x hx).keep hE rfl rfl (fun g hg => hk.block g (hlt hx hg)), hM.sep, fun id x g hx hg hO => hO.elim (hM.boxO id x g hx hg) fun e => ?_⟩, hE⟩
 ·have h1 := (hM.dis g h).2
  have h2 := hM.kept.size
  omega
 ·have := hlt hx hg
  omega
theorem IL (hM : MemOk P G w) {L : Nat} (hL : aX G.b L = true) {q : FuncId} {tmps : Array Value} {d : Nat} {s : List (Nat × K)} {ps : Array Nat} {as c : Code} (hs : tZ s = true) (hkv : ∀ m, KV P G w (fun _ => undef) (ofS s m) (tmps.getD m undef)) :
    MemOk P (G.add L w.heap.size undef (.lop .ready none s tmps.size ps as c)) (w.alloc (.loop { state := .ready, pending := none, fn := q, tmps, params := ps, assign := as, body := c, defers := d })) ∧
      G.Ext w (G.add L w.heap.size undef (.lop .ready none s tmps.size ps as c)) (w.alloc (.loop { state := .ready, pending := none, fn := q, tmps, params := ps, assign := as, body := c, defers := d })) := by
  have hk := Kept.alloc w (.loop { state := .ready, pending := none, fn := q, tmps, params := ps, assign := as, body := c, defers := d })
  refine hM.add hk (bP hL) (Nat.le_refl _) (fun G' hE _ e2 _ => ⟨w.heap.size, d, q, tmps, e2, by unfold Gst.nb; rw [hE.w0]; exact .inl hM.kept.size, je w _, rfl, hs, fun m => (hkv m).ext hE⟩)
theorem MA {env : Env} (hb : G.b = env.b) (hM : MemOk P G w) {id : Nat} (h : wa env (some id) = true) {g : Nat} (hg : G.bk id = some g) : ∃ r : Loop, w.heap[g]? = some (.loop r) := by
 simp only [wa] at h
 split at h
 ·rename_i x1 x2 x3 x4 x5 x6 x7 hl
  rw [← hb] at hl
  obtain ⟨r, hr, _⟩ := tu hM (aq hl) hg
  exact ⟨r, hr⟩
 ·cases h
theorem ID {env : Env} (hb : G.b = env.b) (hM : MemOk P G w) {ro l : Option Nat} (hro : lh G ro l) (hrl : wa env ro = true) {L : Nat} (hL : aX G.b L = true) {df : List Deferred} (hmk : Mk G w df) (q : FuncId) {tmps : Array Value} {s : List (Nat × K)} {ps : Array Nat} {as c : Code} (hs : tZ s = true) (hkv : ∀ m, KV P G w (fun _ => undef) (ofS s m) (tmps.getD m undef)) :
    ∃ g mk w' G', (Instr.enterLoop q tmps ps as c l).run P w = .ok (g, mk) w' ∧ G'.b = aG G.b [(L, .live (.lop .ready none s tmps.size ps as c))] ∧ G.Ext w G' w' ∧ MemOk P G' w' ∧ G'.bk L = some g ∧ Mk G' w' (mk ++ df) := by
  cases ro with
  | none =>
    have hro : l = none := hro
    subst hro
    obtain ⟨hM1, hE1⟩ := NI hM
    obtain ⟨hM2, hE2⟩ := IL (L := L) (q := q) (tmps := tmps) (d := w.heap.size) (ps := ps) (as := as) (c := c) hM1 hL hs (fun m => (hkv m).ext hE1)
    refine ⟨_, _, _, _, run_enterLoop_outer q tmps ps as c, rfl, hE1.trans hE2, hM2, by simp [Gst.add], ?_⟩
    obtain ⟨rs, e, hn, hr⟩ := (hmk.ext (hE1.trans hE2))
    have hlt : ∀ r ∈ rs, r < w.heap.size := by
      obtain ⟨rs', e', _, hr'⟩ := hmk
      have : rs = rs' := by
        have h2 : rs.map tw = rs'.map tw := e.symm.trans e'
        have inj : ∀ x y, tw x = tw y → x = y := fun x y h => by
          unfold tw at h
          injection h with h1 _
          injection h1
        exact List.map_inj_right inj |>.1 h2
      intro r h
      rw [this] at h
      exact (hr' r h).2.2.1
    refine ⟨w.heap.size :: rs, by rw [e]; rfl, List.nodup_cons.2 ⟨fun h => Nat.lt_irrefl _ (hlt _ h), hn⟩, fun r h => ?_⟩
    rcases List.mem_cons.1 h with rfl | h
    · refine ⟨.inr rfl, hM.kept.size, by simp; omega, ?_⟩
      have h1 : (w.alloc (.deferred (some []))).heap[w.heap.size]? = some (.deferred (some [])) := je w _
      have h2 := (Kept.alloc (w.alloc (.deferred (some []))) (.loop { state := .ready, pending := none, fn := q, tmps, params := ps, assign := as, body := c, defers := w.heap.size })).block w.heap.size (by simp)
      exact h2.trans h1
    · exact hr r h
  | some id =>
    obtain ⟨_, g, hg, rfl⟩ := hro
    obtain ⟨r, hr⟩ := MA hb hM hrl hg
    obtain ⟨hM2, hE2⟩ := IL (L := L) (q := q) (tmps := tmps) (d := r.defers) (ps := ps) (as := as) (c := c) hM hL hs hkv
    exact ⟨_, _, _, _, run_enterLoop_inner hr q tmps ps as c, rfl, hE2, hM2, by simp [Gst.add], hmk.ext hE2⟩
theorem HT {tm : Nat → Value} : ∀ (ps : List Nat) (vs : List Value) (ks : List K) (s : Nat → K) (t : Array Value), ps.length = vs.length → ks.length = vs.length → (∀ p ∈ ps, p < t.size) → (∀ n, KV P G w tm (s n) (tmV t n)) → (∀ n, nog (s n) = true) →
    (∀ (i : Nat) k, ks[i]? = some k → ∃ v, vs[i]? = some v ∧ nog k = true ∧ KV P G w tm k v) →
    (∀ n, KV P G w tm (uN s ps ks n) (tmV ((ps.zip vs).foldl (fun t q => t.setIfInBounds q.1 q.2) t) n)) ∧ (∀ n, nog (uN s ps ks n) = true) ∧ ((ps.zip vs).foldl (fun t q => t.setIfInBounds q.1 q.2) t).size = t.size
  | [], vs, ks, s, t, _, _, _, h, hn, _ => by
    have e : ∀ m, uN s [] ks m = s m := fun _ => by cases ks <;> rfl
    exact ⟨fun n => by rw [e]; exact h n, fun n => by rw [e]; exact hn n, rfl⟩
  | p :: ps, v :: vs, k :: ks, s, t, h1, h2, h3, h, hn, h4 => by
    obtain ⟨v', e, hk1, hk2⟩ := h4 0 k rfl
    have e : v = v' := by simpa using e
    subst e
    have := HT (tm := tm) ps vs ks (fun n => if n = p then k else s n) (t.setIfInBounds p v) (by simpa using h1) (by simpa using h2) (fun q hq => by simpa using h3 q (List.mem_cons_of_mem _ hq)) (fun n => ?_) (fun n => ?_) (fun i k' hk' => ?_)
    · obtain ⟨a1, a2, a3⟩ := this
      exact ⟨a1, a2, by simpa using a3⟩
    · by_cases e : n = p
      · subst e
        have hlt := h3 n (List.mem_cons_self ..)
        rw [if_pos rfl]
        have : tmV (t.setIfInBounds n v) n = v := by simp [tmV, hlt]
        rw [this]
        exact hk2
      · rw [if_neg e]
        have : tmV (t.setIfInBounds p v) n = tmV t n := by
          unfold tmV
          rw [Array.getD_eq_getD_getElem?, Array.getD_eq_getD_getElem?, Array.getElem?_setIfInBounds_ne (Ne.symm e)]
        rw [this]
        exact h n
    · by_cases e : n = p
      · rw [if_pos e]; exact hk1
      · rw [if_neg e]; exact hn n
    · exact h4 (i + 1) k' (by simpa using hk')
  | _ :: _, [], _, _, _, h1, _, _, _, _, _ => by simp at h1
  | _ :: _, _ :: _, [], _, _, _, h2, _, _, _, _ => by simp at h2
end
end Go.Proofs.Ytimdnodkabnbfaa
namespace Go.Proofs.Ytimdnodkabnbfaa
open Go Go.RowKit
section
variable {P : Program} {X : a8} {D : aK} {c0 : Cx} {ops : Array Oper} {o : Oper} {a : Act} {w : World}
theorem yd {env : Env} (hS : Sim P D c0 env a w) {d : Nat} {b : Bool} (h : env.s d = .lit b) : tmF a d = .bool b := by
 obtain ⟨⟨G, _, _, _, _, hs⟩, _⟩ := hS
 have := hs d
 rw [h] at this
 exact this
theorem AZ {env : Env} (hS : Sim P D c0 env a w) {x : Operand} {b : Bool} (h : Fs env.s x = some b) : a.eval x = .bool b := by
 unfold Fs at h
 split at h
 ·rename_i t
  split at h
  ·rename_i b' e
   have h := Option.some.inj h
   subst h
   exact yd hS e
  ·cases h
 ·have h := Option.some.inj h
  subst h
  rfl
 ·cases h
theorem PW (hD : cQ P D) {env : Env} (hS : Sim P D c0 env a w) {k : K} (h : vgy D o env.s = some k) : flat k = true ∧ ∃ v, (execOp a.eval o).run P w = .ok (.value v) w ∧ ∀ G : Gst, G.b = env.b → MemOk P G w → GlobOk P D.G G.av w → (∀ n, KV P G w (tmF a) (env.s n) (tmF a n)) → nog k = true ∧ KV P G w (tmF a) k v := by
 unfold vgy at h
 split at h
 ·rename_i b hb
  have e := (Option.some.inj h).symm
  subst e
  refine ⟨rfl, .bool b, ?_, fun _ _ _ _ _ => ⟨rfl, rfl⟩⟩
  unfold PM at hb
  split at hb
  ·rename_i t ho
   simp only [execOp, ho, AZ hS hb, Sem.run_pure]
  ·rename_i t ho
   simp only [execOp, ho, AZ hS hb, Sem.run_pure]
  ·rename_i ty t ho
   obtain ⟨b', hb', e⟩ := Option.map_eq_some_iff.1 hb
   subst e
   simp [execOp, ho, AZ hS hb', Op.unary, Sem.run_pure]
  ·rename_i ct x y ho
   split at hb
   ·rename_i bc hc
    have hcv : a.eval (.tmp ct) = .bool bc := yd hS hc
    rw [xC ho hcv]
    have := AZ hS hb
    cases bc
    ·exact congrArg (fun v => Result.ok (Next.value v) w) this
    ·exact congrArg (fun v => Result.ok (Next.value v) w) this
   ·cases hb
  ·cases hb
 ·unfold OG at h
  split at h
  ·rename_i ct x y ho
   split at h
   ·rename_i bc hc
    have e := (Option.some.inj h).symm
    subst e
    have hcv : a.eval (.tmp ct) = .bool bc := yd hS hc
    refine ⟨jm (dJ _), _, xC ho hcv, fun G hb hM hgl hs => ⟨dJ _, ?_⟩⟩
    have := (lw (a := a) (tm := tmF a) hD.toDOk hgl (g := none) (fun _ _ e => by cases e) hs (fun _ => rfl) (if bc then x else y)).strip
    cases bc <;> exact this
   ·cases h
  ·cases h
theorem FX {G : Gst} {tm : Nat → Value} {s : Nat → K} (hs : ∀ n, KV P G w tm (s n) (tm n)) : ∀ (f d : Nat), Dc s f d = true → tm d = undef
 | 0, _, h => by cases h
 | f + 1, d, h => by
  unfold Dc at h
  split at h
  ·rename_i g c cs k hd
   have hk := hs d
   rw [hd] at hk
   refine hk.2 fun hg => ?_
   split at h
   ·rename_i b hb
    have hb' := hs g
    rw [hb] at hb'
    have hb' : tm g = .bool b := hb'
    rw [hg] at hb'
    injection hb' with e
    simp [e] at h
   ·rw [FX hs f g h] at hg
    cases hg
  ·cases h
theorem O5 {G : Gst} {tm : Nat → Value} {d : Nat} {b : Bool} (hd : tm d = .bool b) {k : K} {v : Value} (h : KV P G w tm k v) : KV P G w tm (CV d b k) v := by
 unfold CV
 split
 ·rename_i g c cs k
  split
  ·rename_i e
   subst e
   split
   ·rename_i e
    subst e
    exact (h.1 hd).2
   ·exact h
  ·exact h
 ·exact h
theorem Mt {d : Nat} {b : Bool} {k : K} (h : flat k = true) : flat (CV d b k) = true := by
 unfold CV
 split
 ·split
  ·split
   ·exact jm h
   ·exact h
  ·exact h
 ·exact h
theorem IR {env : Env} (hS : Sim P D c0 env a w) {d : Nat} {b : Bool} (hd : tmF a d = .bool b) : Sim P D c0 (Iq env d b) a w := by
 obtain ⟨⟨G, h1, h2, h3, h4, hs⟩, h5, h6, h7⟩ := hS
 refine ⟨⟨G, h1, h2, h3, h4, fun n => ?_⟩, fun n => ?_, h6, h7⟩
 ·show KV P G w (tmF a) (if n = d then .lit b else CV d b (env.s n)) (tmF a n)
  split
  ·rename_i e; subst e; exact hd
  ·exact O5 hd (hs n)
 ·show Go.Proofs.Ytimdnodkabnbfaa.flat (if n = d then .lit b else CV d b (env.s n)) = true
  split
  ·rfl
  ·exact Mt (h5 n)
theorem DT {env : Env} (hS : Sim P D c0 env a w) : ∀ (f d : Nat) {d' : Nat} {c : Bool}, AY env.s f d = some (d', c) → tmF a d' = .bool c
 | 0, _, _, _, h => by cases h
 | f + 1, d, d', c, h => by
  unfold AY at h
  split at h
  ·rename_i c' hd
   simp only [Option.some.injEq, Prod.mk.injEq] at h
   obtain ⟨rfl, rfl⟩ := h
   obtain ⟨⟨G, _, _, _, _, hs⟩, _⟩ := hS
   have := hs d
   rw [hd] at this
   exact bA.1 this
  ·exact DT hS f _ h
  ·cases h
structure xK (P : Program) (X : a8) (fx : Fx) (ops : Array Oper) (env : Env) (o o' : Oper) : Prop where
 same : o' = o ∨ o' = jz o
 want : o' = o ∨ ∀ {c0 : Cx} {a : Act} {w : World}, Sim P (X.at fx) c0 env a w → Region.wanted o (yielded ops a.tmps) = true
theorem xK.wants {fx : Fx} {env : Env} {o' : Oper} (h : xK P X fx ops env o o') (hg : o'.guard = none) (hS : Sim P (X.at fx) c0 env a w) : Region.wanted o (yielded ops a.tmps) = true := by
 rcases h.want with e | h
 ·subst e; unfold Region.wanted; rw [hg]
 ·exact h hS
theorem xK.dst {fx : Fx} {env : Env} {o' : Oper} (h : xK P X fx ops env o o') : fm fx.fn.ntmps o' = fm fx.fn.ntmps o := by
 rcases h.same with rfl | rfl <;> rfl
theorem xK.exec {fx : Fx} {env : Env} {o' : Oper} (h : xK P X fx ops env o o') {ρ : Operand → Value} : execOp ρ o' = execOp ρ o := by
 rcases h.same with rfl | rfl <;> rfl
theorem yh {j d : Nat} {c : Bool} (hg : o.guard = some (j, c)) (hd : (ops[j]?).bind (·.dst) = some d) (a : Act) : (Region.wanted o (yielded ops a.tmps) = true ↔ tmF a d = .bool c) :=
 Ab (by unfold kT; rw [hg]; simp only [hd]) a
abbrev DN (P : Program) (X : a8) (fx : Fx) (ops : Array Oper) (env : Env) (o : Oper) (b : Bool) : Prop :=
 ∀ {c0 : Cx} {a : Act} {w : World}, Sim P (X.at fx) c0 env a w → Region.wanted o (yielded ops a.tmps) = b
def Oa (P : Program) (X : a8) (fx : Fx) (ops : Array Oper) (env : Env) (o : Oper) : Gy → Prop
 | .go ops' o' => xK P X fx ops env o o' ∧ ((ops' = ops ∧ o' = o) ∨ (ops' = #[jz o] ∧ o' = jz o ∧ DN P X fx ops env o true))
 | .skip _ _ => DN P X fx ops env o false
 | .val k => vgy (X.at fx) o env.s = some k ∧ DN P X fx ops env o true
 | .split d c => ∀ {c0 : Cx} {a : Act} {w : World}, Sim P (X.at fx) c0 env a w → tmF a d = .bool c
theorem wD {fx : Fx} {env : Env} : Oa P X fx ops env o (.go ops o) := ⟨⟨.inl rfl, .inl rfl⟩, .inl ⟨rfl, rfl⟩⟩
theorem PD {fx : Fx} {env : Env} : Oa P X fx ops env o (I2 X (X.at fx) ops o env.s) := by
 unfold I2
 split
 ·rename_i hg
  split
  ·rename_i k hv
   exact ⟨hv, fun _ => by unfold Region.wanted; rw [hg]⟩
  ·exact wD
 ·rename_i j c hg
  split
  ·exact wD
  ·rename_i d hd
   split
   ·rename_i b hl
    have hb : ∀ {c0 : Cx} {a : Act} {w : World}, Sim P (X.at fx) c0 env a w → tmF a d = .bool b := fun hS => by
     unfold A3 at hl
     simp only at hl
     split at hl
     ·rename_i b' e
      have e' := Option.some.inj hl
      subst e'
      exact yd hS e
     ·cases hl
    split
    ·rename_i e
     subst e
     have hw : DN P X fx ops env o true := fun hS => (yh hg hd _).2 (hb hS)
     split
     ·rename_i k hv
      exact ⟨hv, hw⟩
     ·exact ⟨⟨.inr rfl, .inr hw⟩, .inr ⟨rfl, rfl, hw⟩⟩
    ·rename_i hne
     intro c0 a w hS
     cases hw : Region.wanted o (yielded ops a.tmps) with
     | false => rfl
     | true =>
      have := (yh hg hd a).1 hw
      rw [hb hS] at this
      injection this with e
      exact absurd e hne
   ·split
    ·rename_i hu
     intro c0 a w hS
     obtain ⟨⟨G, _, _, _, _, hs⟩, _⟩ := hS
     have hud := FX hs 9 d hu
     cases hw : Region.wanted o (yielded ops a.tmps) with
     | false => rfl
     | true =>
      have := (yh hg hd a).1 hw
      rw [hud] at this
      cases this
    ·split
     ·split
      ·rename_i d' c' ht
       exact fun hS => DT hS 9 d ht
      ·exact wD
     ·exact wD
theorem Or {env : Env} {d : Nat} {c : Bool} (hdst : fm D.n o = true) (hS : Sim P D c0 env a w) : Sim P D c0 { env with s := put env.s o.dst (.grd d c [] .any) } (a.put o.dst undef) w := by
 obtain ⟨⟨G, hb, hC, hM, hgl, hs⟩, hfl, hsz, hdf⟩ := hS
 refine ⟨⟨G, hb, hC, hM, hgl, lP rfl hfl hs hsz hdst fun d' hd' => ⟨fun _ => ⟨by simp, trivial⟩, fun _ => rfl⟩⟩, gz hfl rfl, ?_, ?_⟩
 ·cases hd : o.dst <;> simp [Act.put, hsz]
 ·cases hd : o.dst <;> simp [Act.put, hdf]
theorem OS (hD : cQ P D) {env : Env} {k : K} (hdst : fm D.n o = true) (hS : Sim P D c0 env a w) (h : vgy D o env.s = some k) : ∃ v, (execOp a.eval o).run P w = .ok (.value v) w ∧ Sim P D c0 { env with s := put env.s o.dst k } (a.put o.dst v) w := by
 obtain ⟨hf, v, hrun, hkv⟩ := PW hD hS h
 refine ⟨v, hrun, ?_⟩
 obtain ⟨⟨G, hb, hC, hM, hgl, hs⟩, hfl, hsz, hdf⟩ := hS
 obtain ⟨hn, hk⟩ := hkv G hb hM hgl hs
 refine ⟨⟨G, hb, hC, hM, hgl, lP rfl hfl hs hsz hdst fun d' hd' => hk.tm hn⟩, gz hfl hf, ?_, ?_⟩
 ·cases hd : o.dst <;> simp [Act.put, hsz]
 ·cases hd : o.dst <;> simp [Act.put, hdf]
theorem F1 {v : Value} (h : v.oneCell' = true) : v.cells = #[v] := by
 cases v <;> first | rfl | (simp [Value.oneCell'] at h)
theorem Ok {O : Nat → Prop} {e : Ty} {v : Value} {xs : List (den e)} (hv : aB P (.slc e) O w v xs) : Rep P (.slc e) .cells O w [v] xs := by
 obtain ⟨cs, rfl, hr⟩ := hv
 have hl := hr.length
 match cs, hl with
 | [c], _ => exact hr
theorem zc {env env' : Env} {n : Nat} (h : zn env n = some env') (hS : Sim P D c0 env a w) : Sim P D c0 env' a w := by
 unfold zn at h
 split at h
 ·rename_i id base hn
  split at h
  ·rename_i e j e0 hl
   split at h
   ·rename_i e' xs hlj
    split at h
    ·rename_i ys hc
     have hh := (Option.some.inj h).symm
     subst hh
     obtain ⟨he, rfl⟩ := cz hc
     have he : e' = e := by injection he
     subst he
     obtain ⟨⟨G, hb, hC, hM, hgl, hs⟩, hfl, hsz, hdf⟩ := hS
     rw [← hb] at hl hlj
     have hbl := aq hl
     have hblj := aq hlj
     obtain ⟨g, arr, eid, v, b1, b2, b3, b4, b5, b6, b7, b8, b9, b10, b11⟩ := hM.box id _ hbl
     have hne : id ≠ j := fun e => by rw [e, hblj] at hbl; cases hbl
     obtain ⟨hM1, hE1⟩ := hM.drop j
     have hv := mq hM hblj
     have hbl1 : (G.drop j).b id = .live (.obj (.slc e') (.sl j e0)) := by simp [Gst.drop, hne, hbl]
     have hm := hM1.turnO (w' := w) hbl1 (show (G.drop j).bk id = some g from b1) (x := .cell (.slc e') xs) rfl (.refl w) rfl (Nat.le_refl _) (fun _ _ => rfl) (fun G' hE e2 e3 => by
      have harr : arr.toList = [v] := by rw [← b6, F1 (b10 rfl)]
      refine ⟨g, arr, eid, e3, by unfold Gst.nb; rw [hE.w0, hE.own]; exact b2, b3, ?_, by rw [e2]; exact b11⟩
      rw [harr]
      refine Ok ?_
      rw [b5.2]
      exact aB.lat hE.lat hv)
     have hE := hE1.trans hm.2
     refine ⟨⟨_, ?_, hC.ext hE, hm.1, hgl.lat hE.lat, fun m => (hs m).ext hE⟩, hfl, hsz, hdf⟩
     funext m
     simp only [Gst.turn, Gst.drop, aG]
     rw [← hb]
    ·cases h
   ·cases h
  ·rename_i e hl
   have hh := (Option.some.inj h).symm
   subst hh
   obtain ⟨⟨G, hb, hC, hM, hgl, hs⟩, hfl, hsz, hdf⟩ := hS
   rw [← hb] at hl
   have hbl := aq hl
   obtain ⟨g, arr, eid, v, b1, b2, b3, b4, b5, b6, b7, b8, b9, b10, b11⟩ := hM.box id _ hbl
   have hm := hM.turnO (w' := w) hbl b1 (x := .cell (.slc e) []) rfl (.refl w) rfl (Nat.le_refl _) (fun _ _ => rfl) (fun G' hE e2 e3 => by
    have harr : arr.toList = [v] := by rw [← b6, F1 (b10 rfl)]
    refine ⟨g, arr, eid, e3, by unfold Gst.nb; rw [hE.w0, hE.own]; exact b2, b3, ?_, by rw [e2]; exact b11⟩
    rw [harr, show v = .slice none 0 0 from b5]
    exact ⟨none, 0, [], rfl, Nat.le_refl _, Nat.zero_le _, (by simp), rfl, (fun h => absurd rfl h), fun _ => rfl⟩)
   refine ⟨⟨_, ?_, hC.ext hm.2, hm.1, hgl.lat hm.2.lat, fun m => (hs m).ext hm.2⟩, hfl, hsz, hdf⟩
   funext m
   simp only [Gst.turn, aG]
   rw [← hb]
  ·have hh := (Option.some.inj h).symm
   subst hh
   exact hS
  ·cases h
 ·cases h
theorem NV {G : Gst} {tm : Nat → Value} : ∀ {b : Ty} {cs : List Value} {x : den b}, vU b = true → Rep P b .cells G.av w cs x →
    ∃ vs : List Value, nog (sf b x) = true ∧ KV P G w tm (sf b x) (.tuple vs.toArray) ∧ t6 b vs ∧ cs = vs.flatMap fun u => u.cells.toList := by
  intro b
  induction b with
  | pair p q _ ihq =>
    intro cs x hb hr
    simp only [vU, Bool.and_eq_true, Bool.or_eq_true, decide_eq_true_eq] at hb
    obtain ⟨hr1, hr2⟩ := hr
    obtain ⟨vs, h0, h1, h2, h3⟩ := ihq hb.2 hr2
    have hl := hr1.length
    have hone := hr1.oneCell
    have hsz : Go.Proofs.Ytimdnodkabnbfaa.isAgg p = false → siz p = 1 := fun h => by
      rcases hb.1 with h' | h'
      · rw [h] at h'; cases h'
      · exact h'
    have hc := bK hl hsz hone
    refine ⟨az p (cs.take (siz p)) :: vs, by simp [sf, nog, h0], ⟨_, _, rfl, ⟨_, rfl, hr1⟩, h1⟩, ⟨_, _, rfl, by rw [hc]; simpa using hl, by rw [hc]; simpa using hone, fun h => ?_, fun h => ?_, h2⟩, ?_⟩
    · unfold az; rw [if_pos h]; exact ⟨_, rfl⟩
    · unfold az
      rw [h, if_neg (by decide)]
      have h1 := hsz h
      rw [h1] at hl hone ⊢
      match hq : cs.take 1, hl with
      | [c], _ => exact hone c (by rw [hq]; exact List.mem_singleton.2 rfl)
    · rw [List.flatMap_cons, hc, ← h3]
      simp
  | unit =>
    intro cs x _ hr
    have hr : cs = [] := hr
    exact ⟨[], rfl, rfl, rfl, by rw [hr]; rfl⟩
  | _ => intro cs x hb; cases hb
theorem M2 {G G' : Gst} (hE : G.Ext w G' w) {bd : Ty} {x : den bd} (hf : vU bd = true) {id g : Nat} {arr : Array Value} {eid : TypeId} (hbk : G'.bk id = some g) (hnb : G'.nb g) (hh : w.heap[g]? = some (.cells arr eid (0, 0))) (hr : Rep P bd .cells G.av w arr.toList x) (ho : i5 (G'.hd id) = 0) :
    fE P G' w id (.obj (.st bd) (.agg bd (sf bd x))) := by
  obtain ⟨vs, h0, h1, h2, h3⟩ := NV (G := G') (tm := fun _ => undef) hf (hr.lat hE.lat)
  refine ⟨g, arr, eid, .agg arr, hbk, hnb, hh, h0, ⟨vs, h1, h2, ?_⟩, rfl, ?_, ?_, fun _ => ⟨_, rfl⟩, (fun h => by cases h), ho⟩
  · rw [← h3]
  · have := hr.length
    rw [Array.length_toList] at this
    exact this
  · intro u hu
    exact hr.oneCell u hu
theorem Gp {env env' : Env} {n : Nat} (h : EI env n = some env') (hS : Sim P D c0 env a w) : Sim P D c0 env' a w := by
 unfold EI at h
 split at h
 ·rename_i id base hn
  split at h
  ·rename_i bd x hl
   split at h
   ·rename_i hf
    have hh := (Option.some.inj h).symm
    subst hh
    obtain ⟨⟨G, hb, hC, hM, hgl, hs⟩, hfl, hsz, hdf⟩ := hS
    rw [← hb] at hl
    have hbl := aq hl
    obtain ⟨g, arr, eid, b1, b2, b3, b4, b5⟩ := hM.box id _ hbl
    have hm := hM.turnO (w' := w) hbl b1 (x := .obj (.st bd) (.agg bd (sf bd x))) rfl (.refl w) rfl (Nat.le_refl _) (fun _ _ => rfl) (fun G' hE e2 e3 =>
     M2 hE hf e3 (by unfold Gst.nb; rw [hE.w0, hE.own]; exact b2) b3 b4 (by rw [e2]; exact b5))
    refine ⟨⟨_, ?_, hC.ext hm.2, hm.1, hgl.lat hm.2.lat, fun m => (hs m).ext hm.2⟩, hfl, hsz, hdf⟩
    funext m
    simp only [Gst.turn, aG]
    rw [← hb]
   ·cases h
  ·rename_i bd t x hl
   split at h
   ·rename_i hf
    split at h
    ·rename_i y hc
     have hh := (Option.some.inj h).symm
     subst hh
     obtain ⟨he, rfl⟩ := cz hc
     subst he
     obtain ⟨⟨G, hb, hC, hM, hgl, hs⟩, hfl, hsz, hdf⟩ := hS
     rw [← hb] at hl
     have hbl := aq hl
     obtain ⟨g, arr, eid, v, b1, b2, b3, b4, b5, b6, b7, b8, b9, b10, b11⟩ := hM.box id _ hbl
     obtain ⟨cs, rfl, hr⟩ := b5
     have hr : Rep P bd .cells G.av w cs x := hr
     have harr : cs = arr.toList := by
      have : (az (.st bd) cs).cells = cs.toArray := rfl
      rw [this] at b6
      rw [← b6]
     subst harr
     have hm := hM.turnO (w' := w) hbl b1 (x := .obj (.st bd) (.agg bd (sf bd x))) rfl (.refl w) rfl (Nat.le_refl _) (fun _ _ => rfl) (fun G' hE e2 e3 =>
      M2 hE hf e3 (by unfold Gst.nb; rw [hE.w0, hE.own]; exact b2) b3 hr (by rw [e2]; exact b11))
     refine ⟨⟨_, ?_, hC.ext hm.2, hm.1, hgl.lat hm.2.lat, fun m => (hs m).ext hm.2⟩, hfl, hsz, hdf⟩
     funext m
     simp only [Gst.turn, aG]
     rw [← hb]
    ·cases h
   ·cases h
  ·have hh := (Option.some.inj h).symm
   subst hh
   exact hS
  ·cases h
 ·cases h
theorem zH : ∀ {l : List Nat} {env env' : Env}, Dg l env = some env' → Sim P D c0 env a w → Sim P D c0 env' a w
 | [], env, env', h, hS => by
  have hh := (Option.some.inj h).symm
  subst hh
  exact hS
 | n :: l, env, env', h, hS => by
  unfold Dg at h
  split at h
  ·rename_i env1 h1
   refine zH h ?_
   split at h1
   ·exact Gp h1 hS
   ·exact zc h1 hS
  ·cases h
theorem sR {fx : Fx} {id : Nat} {env env' : Env} (h : DY fx id env = some env') (hS : Sim P D c0 env a w) : Sim P D c0 env' a w := by
 unfold DY at h
 split at h
 ·rename_i env1 h1
  exact oY h (zH h1 hS)
 ·cases h
theorem tP : ∀ (l : List ResultVar) {env : Env}, Sim P D c0 env a w → Sim P D c0 (DA l env) a w
 | [], _, hS => hS
 | .tmp _ :: l, _, hS => tP l hS
 | .cell t _ :: l, env, hS => by
  refine tP l ?_
  cases h : zn env t with
  | none => exact hS
  | some env1 => exact zc h hS
theorem FR : ∀ (n : Nat) (listed : Array Bool) {l : List Nat}, DI ops n listed = some l → ∀ t, Region.linearise.go .any ops n t listed [] = l
 | 0, _, l, h, t => by
  have e := (Option.some.inj h).symm
  subst e
  rfl
 | n + 1, listed, l, h, t => by
  unfold DI at h
  simp only [Region.linearise.go]
  change (match (Region.ready .any ops listed)[t % (Region.ready .any ops listed).length]? with
   | some i => Region.linearise.go .any ops n (t / (Region.ready .any ops listed).length) (listed.setIfInBounds i true) [i]
   | none => [].reverse) = l
  split at h
  ·rename_i e
   have e' := (Option.some.inj h).symm
   subst e'
   rw [e]; rfl
  ·rename_i i e
   obtain ⟨l', h1, h2⟩ := Option.map_eq_some_iff.1 h
   subst h2
   rw [e]
   simp only [List.length_singleton, Nat.mod_one, List.getElem?_cons_zero]
   rw [linearise_go_acc, FR n _ h1]
   rfl
  ·cases h
theorem yS : ∀ (l : List Nat) (a : Array Bool), (l.foldl (fun a i => a.setIfInBounds i true) a).size = a.size
 | [], _ => rfl
 | i :: l, a => by rw [List.foldl_cons, yS l]; simp
theorem Au : ∀ (l : List Nat) (a : Array Bool) (i : Nat), i < a.size → ((l.foldl (fun a i => a.setIfInBounds i true) a).getD i true = true ↔ i ∈ l ∨ a.getD i true = true)
 | [], a, i, h => by simp
 | x :: l, a, i, h => by
  rw [List.foldl_cons, Au l _ i (by simpa using h)]
  by_cases e : i = x
  ·subst e
   simp [Array.getD_eq_getD_getElem?, h]
  ·rw [getD_set_ne true (Ne.symm e)]
   simp [e]
theorem F0 (hD : cQ P D) (hh : dX D = true) (hnd' : ∀ (i : Nat) o, ops[i]? = some o → dx o = false) {ordA : List Nat} (hnd : ordA.Nodup) (hall : ∀ i ∈ ordA, i < ops.size) {anc : List (Nat × List Nat)} (hR4 : nO D ops anc [] ordA = true) (hanc : LZ ops anc)
    (hrest : ∀ i, i < ops.size → i ∉ ordA → ∀ j ∈ ordA, ∃ l, anc.lookup i = some l ∧ j ∈ l) {b : Frame} {k : List Item} {cs : List Frame} (M : Nat) : ∀ (fuel t : Nat) (listed : Array Bool) (env envF : Env) (ps : List Prop) (a : Act) (w : World),
    listed.size = ops.size → I0 ops listed → (∀ i, i < ops.size → listed.getD i true = true → i ∈ ordA) → (aU listed ordA).length = fuel → f7 D ops (aU listed ordA) env = some (envF, ps) → (∀ p ∈ ps, p) → Sim P D c0 env a w →
    ∃ a' w' listed' t', Sim P D c0 envF a' w' ∧ listed'.size = ops.size ∧ (∀ i, i < ops.size → (listed'.getD i true = true ↔ i ∈ ordA)) ∧
      Steps P (lone (b.atR a (.inRegion ops (Region.linearise.go .any ops (fuel + M) t listed []) :: k)) cs w) (lone (b.atR a' (.inRegion ops (Region.linearise.go .any ops M t' listed' []) :: k)) cs w')
  | 0, t, listed, env, envF, ps, a, w, hs, hcl, hsub, hl, h, hp, hS => by
    have hu : aU listed ordA = [] := List.eq_nil_of_length_eq_zero hl
    rw [hu] at h
    have e := Option.some.inj h
    injection e with e1 e2
    subst e1
    refine ⟨a, w, listed, t, hS, hs, fun i hi => ⟨hsub i hi, fun hm => ?_⟩, by rw [Nat.zero_add]; exact .refl _ _⟩
    cases hg : listed.getD i true with
    | true => rfl
    | false =>
      have : i ∈ aU listed ordA := List.mem_filter.2 ⟨hm, by simp [hg]⟩
      rw [hu] at this
      cases this
  | fuel + 1, t, listed, env, envF, ps, a, w, hs, hcl, hsub, hl, h, hp, hS => by
    have hne : Region.ready .any ops listed ≠ [] := by
      intro hr
      cases hu : aU listed ordA with
      | nil => rw [hu] at hl; cases hl
      | cons i l =>
        obtain ⟨l1, l2, e1, e2, e3, _⟩ := List.filter_eq_cons_iff.1 hu
        have hmem : i ∈ ordA := by rw [e1]; simp
        have hlt := hall i hmem
        have hoi : ops[i]? = some ops[i] := Array.getElem?_eq_getElem hlt
        have hready : i ∈ Region.ready .any ops listed := by
          refine mem_ready.2 ⟨by simpa using e3, ops[i], hoi, fun e he hb => ?_⟩
          have hd := (iH l1 (e1 ▸ hR4) hoi).1 e.on (oq.2 ⟨e, he, hb, rfl⟩)
          have hd := hd.resolve_right (by simp)
          have := e2 e.on hd
          have hlt2 := hall e.on (by rw [e1]; exact List.mem_append_left _ hd)
          have : listed.getD e.on true = true := by simpa using this
          rw [Array.getD_eq_getD_getElem?] at this ⊢
          rw [Array.getElem?_eq_getElem (by omega)] at this ⊢
          simpa using this
        rw [hr] at hready
        cases hready
    obtain ⟨i, hi⟩ : ∃ i, (Region.ready .any ops listed)[t % (Region.ready .any ops listed).length]? = some i := by
      have hpos : 0 < (Region.ready .any ops listed).length := by
        cases hr : Region.ready .any ops listed with
        | nil => exact absurd hr hne
        | cons x xs => simp
      exact ⟨_, List.getElem?_eq_getElem (Nat.mod_lt _ hpos)⟩
    have hgo : Region.linearise.go .any ops (fuel + 1 + M) t listed [] = i :: Region.linearise.go .any ops (fuel + M) (t / (Region.ready .any ops listed).length) (listed.setIfInBounds i true) [] := by
      rw [show fuel + 1 + M = (fuel + M) + 1 by omega]
      simp only [Region.linearise.go]
      change (match (Region.ready .any ops listed)[t % (Region.ready .any ops listed).length]? with
        | some i => Region.linearise.go .any ops (fuel + M) (t / (Region.ready .any ops listed).length) (listed.setIfInBounds i true) [i]
        | none => [].reverse) = _
      rw [hi]
      simp only
      rw [linearise_go_acc]
      rfl
    obtain ⟨h1, oi, hoi, hdep⟩ := mem_ready.1 (List.mem_of_getElem? hi)
    have hlt : i < ops.size := (Array.getElem?_eq_some_iff.1 hoi).1
    have hdir0 : ∀ d ∈ kf oi, listed.getD d true = true := by
      intro d hd
      obtain ⟨e, he, hb, rfl⟩ := oq.1 hd
      have := hdep e he hb
      rw [Array.getD_eq_getD_getElem?] at this ⊢
      cases hq : listed[e.on]? with
      | none => rfl
      | some q => rw [hq] at this; simpa using this
    have himem : i ∈ ordA := by
      refine Classical.byContradiction fun hni => ?_
      cases hu : aU listed ordA with
      | nil => rw [hu] at hl; cases hl
      | cons j l =>
        have hj : j ∈ aU listed ordA := by rw [hu]; exact List.mem_cons_self ..
        obtain ⟨hj1, hj2⟩ := List.mem_filter.1 hj
        obtain ⟨l', hl1, hl2⟩ := hrest i hlt hni j hj1
        have this : listed.getD j true = true := hanc i l' hl1 j hl2 (fun k => listed.getD k true = true) (fun k o hk hLk d hd => hcl k o hk hLk d hd) (fun o ho' d hd => by
          rw [hoi] at ho'
          have := Option.some.inj ho'
          subst this
          exact hdir0 d hd)
        rw [this] at hj2
        cases hj2
    obtain ⟨pa, pb, ho⟩ := List.append_of_mem himem
    obtain ⟨e1, e2⟩ := ua ho hnd (by omega) h1
    rw [e1] at h
    have hfree : ∀ j ∈ aU listed pa, ∀ oj, ops[j]? = some oj → oj.apart ops oi = true ∧ qB D oj oi = true := by
      intro j hj oj hoj
      obtain ⟨hj1, hj2⟩ := List.mem_filter.1 hj
      rcases (iH pa (ho ▸ hR4) hoi).2 j (.inl hj1) with ⟨l, hl1, hl2⟩ | hh
      · exfalso
        have this : listed.getD j true = true := hanc i l hl1 j hl2 (fun k => listed.getD k true = true) (fun k o hk hLk d hd => hcl k o hk hLk d hd) (fun o ho' d hd => by
          rw [hoi] at ho'
          have := Option.some.inj ho'
          subst this
          exact hdir0 d hd)
        rw [this] at hj2
        cases hj2
      · exact hh oj hoj
    obtain ⟨env1, p1, p2, g1, g2, g3⟩ := rY hoi (aU listed pa) (aU listed pb) env envF ps hfree h
    obtain ⟨a1, w1, hS1, st1⟩ := pR (rest := Region.linearise.go .any ops (fuel + M) (t / (Region.ready .any ops listed).length) (listed.setIfInBounds i true) []) (k := k) (b := b) (cs := cs) (Q := fun _ _ _ => False) (fun _ _ _ h => h.elim) (fun o ho => hnd' i o ho)
      (qA hD hh g1 (fun p hp' => hp p (g3 p (List.mem_append_left _ hp'))) hS hoi _)
    obtain ⟨a', w', listed', t', q1, q2, q3, q4⟩ := F0 hD hh hnd' hnd hall hR4 hanc hrest (b := b) (k := k) (cs := cs) M fuel (t / (Region.ready .any ops listed).length) (listed.setIfInBounds i true) env1 envF p2 a1 w1 (by simp [hs]) (fun k o hk hLk d hd => by
        have hset : ∀ d, listed.getD d true = true → (listed.setIfInBounds i true).getD d true = true := by
          intro d hd
          by_cases e : d = i
          · subst e; simp [Array.getD_eq_getD_getElem?, hs, hlt]
          · rw [getD_set_ne true (Ne.symm e)]; exact hd
        by_cases e : k = i
        · subst e
          rw [hoi] at hk
          have := Option.some.inj hk
          subst this
          exact hset d (hdir0 d hd)
        · rw [getD_set_ne true (Ne.symm e)] at hLk
          exact hset d (hcl k o hk hLk d hd)) (fun j hj hg => by
        by_cases e : j = i
        · subst e; exact himem
        · rw [getD_set_ne true (Ne.symm e)] at hg
          exact hsub j hj hg) (by
        rw [e2]
        rw [e1] at hl
        simp only [List.length_append, List.length_cons] at hl ⊢
        omega) (by rw [e2]; exact g2) (fun p hp' => hp p (g3 p (List.mem_append_right _ hp'))) hS1
    refine ⟨a', w', listed', t', q1, q2, q3, ?_⟩
    rw [hgo]
    exact st1.trans q4
theorem Ju {anc : List (Nat × List Nat)} {i j : Nat} (h : ((anc.lookup i).getD []).contains j = true) : ∃ l, anc.lookup i = some l ∧ j ∈ l := by
 cases hl : anc.lookup i with
 | none => rw [hl] at h; cases h
 | some l => rw [hl] at h; exact ⟨l, rfl, List.contains_iff_mem.1 h⟩
theorem PK (hD : cQ P D) (hh : dX D = true) {id p : Nat} {ordA l : List Nat} {env env' : Env} (hnd : ops.toList.any dx = false) (hR : Bg D ops p = some (ordA, l)) {ps : List Prop} (h : f7 D ops ordA env = some (env', ps)) (hp : ∀ p ∈ ps, p) (hS : Sim P D c0 env a w) (b : Frame) (k : List Item) (cs : List Frame) :
    ∃ a' w', Sim P D c0 env' a' w' ∧ Steps P (lone (b.atR a (.code (.region id ops true) :: k)) cs w) (lone (b.atR a' (.inRegion ops l :: k)) cs w') := by
  unfold Bg at hR
  simp only at hR
  split at hR
  · rename_i hok
    obtain ⟨l', hl, e⟩ := Option.map_eq_some_iff.1 hR
    injection e with e1 e2
    subst e2
    rw [e1] at hl hok
    simp only [Bool.and_eq_true] at hok
    obtain ⟨⟨hn, hR4⟩, hr⟩ := hok
    have hnd1 := mG hn
    have hall : ∀ i ∈ ordA, i < ops.size := fun i hi => by
      rw [← e1] at hi
      exact List.mem_range.1 (List.mem_filter.1 hi).1
    have hanc := uB (ops := ops) (List.range ops.size) [] (fun i l h => by cases h)
    have hnd' : ∀ (i : Nat) o, ops[i]? = some o → dx o = false := fun i o ho => by
      have hm : o ∈ ops.toList := by
        rw [← Array.getElem?_toList] at ho
        exact List.mem_of_getElem? ho
      cases hd : dx o with
      | false => rfl
      | true => rw [List.any_eq_false] at hnd; exact absurd hd (hnd o hm)
    have hrest : ∀ i, i < ops.size → i ∉ ordA → ∀ j ∈ ordA, ∃ l, (sM ops (List.range ops.size) []).lookup i = some l ∧ j ∈ l := fun i hi hni j hj => by
      have := List.all_eq_true.1 hr i (List.mem_range.2 hi)
      rw [Bool.or_eq_true] at this
      rcases this with h | h
      · exact absurd (List.contains_iff_mem.1 h) hni
      · exact Ju (List.all_eq_true.1 h j hj)
    have hu : aU (Array.replicate ops.size false) ordA = ordA := by
      unfold aU
      rw [List.filter_eq_self.2 (fun i hi => ?_)]
      have := hall i hi
      simp [this]
    have hlen : ordA.length ≤ ops.size := by
      rw [← e1]
      exact Nat.le_trans (List.length_filter_le ..) (by rw [List.length_range]; exact Nat.le_refl _)
    have hS' : Sim P D c0 env a { w with drawn := w.drawn + 1 } := by
      obtain ⟨⟨G, e1, e2, e4, e5, e6⟩, f1, f2, f3⟩ := hS
      obtain ⟨hM, hE⟩ := e4.kept_on (Kept.drew w)
      exact ⟨⟨G, e1, e2.ext hE, hM, e5.lat hE.lat, fun n => (e6 n).ext hE⟩, f1, f2, f3⟩
    obtain ⟨a', w', listed', t', q1, q2, q3, q4⟩ := F0 hD hh hnd' hnd1 hall hR4 hanc hrest (b := b) (k := k) (cs := cs) (ops.size - ordA.length) ordA.length (w.tape w.drawn (.order b.fn id)) (Array.replicate ops.size false) env env' ps a _ (by simp) (fun k o hk hLk => by
        have hlt : k < ops.size := (Array.getElem?_eq_some_iff.1 hk).1
        simp [hlt] at hLk) (fun i hi hg => by simp [hi] at hg) (by rw [hu]) (by rw [hu]; exact h) hp hS'
    refine ⟨a', w', q1, .head stepR_region_draw ?_⟩
    simp only [Region.schedule, hD.mixed, Bool.true_or, if_true]
    have e0 : ordA.length + (ops.size - ordA.length) = ops.size := by omega
    rw [e0] at q4
    have el : listed' = nT ops ordA := by
      refine Array.ext (by rw [q2]; unfold nT; rw [yS]; simp) fun i h1 h2 => ?_
      have hi : i < ops.size := by omega
      have a1 := q3 i hi
      have a2 := Au ordA (Array.replicate ops.size false) i (by simpa using hi)
      have a3 : (Array.replicate ops.size false).getD i true = false := by simp [hi]
      rw [a3] at a2
      have b1 : listed'.getD i true = listed'[i] := by simp [Array.getD_eq_getD_getElem?, h1]
      have b2 : (nT ops ordA).getD i true = (nT ops ordA)[i] := by simp [Array.getD_eq_getD_getElem?, h2]
      have a2 : (nT ops ordA).getD i true = true ↔ i ∈ ordA := by
        have := a2
        simpa [nT] using this
      rw [← b1, ← b2]
      exact Bool.eq_iff_iff.2 (a1.trans a2.symm)
    rw [el, FR _ _ hl] at q4
    exact q4
  · cases hR
end
end Go.Proofs.Ytimdnodkabnbfaa
namespace Go.Proofs.Ytimdnodkabnbfaa
open Go Go.RowKit
section
variable {P : Program} {X : a8} {a : Act} {w : World} {c : Cx} {R0 : Ending → World → Prop} {Z : K → Prop} {m : bu}
theorem iS {stk : List cr} {fx : Fx} {todo todo' : List Item} {env : Env} (h : ∀ (a : Act) (w : World) (b : Frame) (cs : List Frame), step P (lone (b.atR a todo) cs w) = .next (lone (b.atR a todo') cs w)) (hg : bG P X c R0 stk fx todo' env) : bG P X c R0 stk fx todo env := by
 intro frs b a w hk hfn hS cs
 obtain ⟨v, w', fr, h1, h2, h3⟩ := hg frs b a w hk hfn hS cs
 exact ⟨v, w', fr, h1, .head (h a w b _) h2, h3⟩
theorem HH {D : aK} {c0 : Cx} {env : Env} {x : Operand} {b : Bool} (h : A3 env.s x = some b) {a : Act} {w : World} (hS : Sim P D c0 env a w) : a.eval x = .bool b := by
 obtain ⟨⟨G, _, _, _, _, hs⟩, _⟩ := hS
 unfold A3 at h
 split at h
 ·rename_i t
  split at h
  ·rename_i b' e
   have h := Option.some.inj h
   subst h
   have := hs t
   rw [e] at this
   exact this
  ·cases h
 ·cases h
theorem KF {D : aK} {c0 : Cx} {env : Env} {x : Operand} {b : Bool} {a : Act} {w : World} (hS : Sim P D c0 env a w) (hx : a.eval x = .bool b) : Sim P D c0 (wT env x b) a w := by
 unfold wT
 split
 ·rename_i t
  obtain ⟨⟨G, h1, h2, h3, h4, hs⟩, h5, h6, h7⟩ := hS
  refine ⟨⟨G, h1, h2, h3, h4, fun n => ?_⟩, fun n => ?_, h6, h7⟩
  ·show KV P G w (tmF a) (if n = t then .lit b else env.s n) (tmF a n)
   split
   ·rename_i e
    subst e
    exact hx
   ·exact hs n
  ·show Go.Proofs.Ytimdnodkabnbfaa.flat (if n = t then .lit b else env.s n) = true
   split
   ·rfl
   ·exact h5 n
 ·exact hS
theorem fo {stk : List cr} {fx : Fx} {todo todo' : List Item} {env' : Env} (hg : bG P X c R0 stk fx todo' env')
    {frs : List Frame} {b : Frame} {a a' : Act} {w w' : World} (hk : b.kind = .normal) (hfn : fx.ro = none → P.funcs[b.fn]? = some fx.fn) (hS : Sim P (X.at fx) (c.stk P stk frs a.defers fx.ro b.roundOf) env' a' w') {cs : List Frame}
    (hst : Steps P (lone (b.atR a todo) (frs ++ cs) w) (lone (b.atR a' todo') (frs ++ cs) w')) : ∃ v w' fr, R0 (.returned v) w' ∧ Steps P (lone (b.atR a todo) (frs ++ cs) w) (lone fr cs w') ∧ fr.fn = (frs.getLastD b).fn ∧ fr.leaving P w' (.returned v) := by
  have hd : a'.defers = a.defers := hS.defers
  rw [← hd] at hS
  obtain ⟨v, w2, fr, h1, h2, h3⟩ := hg frs b a' w' hk hfn hS cs
  exact ⟨v, w2, fr, h1, hst.trans h2, h3⟩
theorem EJ (frs : List Frame) {f b : Frame} (h : f.fn = b.fn) : (frs.getLastD f).fn = (frs.getLastD b).fn := by
 cases frs with
 | nil => exact h
 | cons x l => rw [List.getLastD_cons, List.getLastD_cons]
theorem uT {G : Gst} {tm : Nat → Value} : ∀ {cap : K} {vs : List Value}, KV P G w tm cap (.tuple vs.toArray) → nog cap = true → Lw cap = true → vs.length = (nf cap).length ∧ ∀ (n : Nat) (k : K), (nf cap)[n]? = some k → ∃ v, vs[n]? = some v ∧ nog k = true ∧ KV P G w tm k v := by
 intro cap
 induction cap with
 | kcons p q _ ihq =>
  intro vs h hn he
  simp only [nog, Bool.and_eq_true] at hn
  obtain ⟨x, xs, e, h1, h2⟩ := h
  have e : vs = x :: xs := by injection e with e; simpa using congrArg Array.toList e
  subst e
  obtain ⟨i1, i2⟩ := ihq h2 hn.2 he
  refine ⟨by simp [nf, i1], fun n k hk => ?_⟩
  cases n with
  | zero =>
   have e : p = k := by simpa [nf] using hk
   subst e
   exact ⟨x, rfl, hn.1, h1⟩
  | succ n => exact i2 n k (by simpa [nf] using hk)
 | knil =>
  intro vs h _ _
  have h : Value.tuple vs.toArray = .tuple #[] := h
  have e : vs = [] := by injection h with e; simpa using congrArg Array.toList e
  subst e
  exact ⟨rfl, fun n k hk => by simp [nf] at hk⟩
 | _ => intro vs _ _ he; cases he
theorem Ma (hX : XOk P X) {fx fx' : Fx} {o : Oper} {env : Env} {ks : List K} (h : AK X (X.at fx) o env = some (fx', ks)) {c0 : Cx} {a : Act} {w : World} (hS : Sim P (X.at fx) c0 env a w) :
    o.guard = none ∧ fm fx.fn.ntmps o = true ∧ ∃ f args cb, P.funcs[f]? = some fx'.fn ∧ fx'.ro = none ∧ fx'.fn.body = some cb ∧ (execOp a.eval o).run P w = .ok (.enter f args) w ∧
      args.size ≤ fx'.fn.ntmps ∧ ∀ G : Gst, G.b = env.b → MemOk P G w → GlobOk P X.D.G G.av w → (∀ n, KV P G w (tmF a) (env.s n) (tmF a n)) →
        (∀ n, KV P G w (tmF { tmps := args ++ Array.replicate (fx'.fn.ntmps - args.size) undef, defers := [] }) (dU ks n) (tmF { tmps := args ++ Array.replicate (fx'.fn.ntmps - args.size) undef, defers := [] } n)) ∧ (∀ n, flat (dU ks n) = true) := by
  unfold AK at h
  split at h
  · cases h
  · rename_i hcond
    simp only [Bool.or_eq_true, not_or, Bool.not_eq_true] at hcond
    have hg : o.guard = none := by simpa using hcond.1
    have hdst : fm (X.at fx).n o = true := by simpa using hcond.2
    refine ⟨hg, hdst, ?_⟩
    have slots : ∀ {G : Gst} {args : Array Value} {N : Nat} (hN : args.size ≤ N) {ks : List K}, (∀ (n : Nat) (k : K), ks[n]? = some k → ∃ v, args[n]? = some v ∧ nog k = true ∧ KV P G w (tmF a) k v) →
        (∀ n, KV P G w (tmF { tmps := args ++ Array.replicate (N - args.size) undef, defers := [] }) (dU ks n) (tmF { tmps := args ++ Array.replicate (N - args.size) undef, defers := [] } n)) ∧ (∀ n, flat (dU ks n) = true) := by
      intro G args N hN ks hks
      refine ⟨fun n => ?_, fun n => ?_⟩
      · unfold dU
        rw [List.getD_eq_getElem?_getD]
        cases hk : ks[n]? with
        | none => trivial
        | some k =>
          obtain ⟨v, hv, hn, hkv⟩ := hks n k hk
          have e : tmF { tmps := args ++ Array.replicate (N - args.size) undef, defers := [] } n = v := by
            unfold tmF
            have hlt : n < args.size := (Array.getElem?_eq_some_iff.1 hv).1
            rw [Array.getD_eq_getD_getElem?, Array.getElem?_append, if_pos hlt, hv]
            rfl
          rw [e]
          exact hkv.tm hn
      · unfold dU
        rw [List.getD_eq_getElem?_getD]
        cases hk : ks[n]? with
        | none => rfl
        | some k => obtain ⟨_, _, hn, _⟩ := hks n k hk; exact jm hn
    split at h
    · rename_i cl ho
      split at h
      · rename_i q hq
        obtain ⟨⟨G0, hb0, hC0, hM0, hgl0, hs0⟩, _⟩ := hS
        have hr0 := lw (a := a) (tm := tmF a) (hX.at fx).toDOk hgl0 (g := none) (fun _ _ e => by cases e) hs0 (fun _ => rfl) q
        split at h
        · rename_i f hf
          split at h
          · rename_i fx1 hfx
            split at h
            · rename_i hle
              simp only [Option.some.injEq, Prod.mk.injEq] at h
              obtain ⟨rfl, rfl⟩ := h
              obtain ⟨h1, h2, h3, h4⟩ := hX.inl f fx1 hfx
              obtain ⟨cb, hcb⟩ := Option.isSome_iff_exists.1 h2
              rw [hf] at hr0
              have hr0 : a.eval q = .func (.func f) #[] #[] := hr0
              have hle : cl.args.size ≤ fx1.fn.ntmps := of_decide_eq_true hle
              refine ⟨f, cl.args.map a.eval, cb, h1, h4, hcb, ?_, by simpa using hle, fun G hb hM hgl hs => ?_⟩
              · simp only [execOp, ho, resolve, hq, hr0, Deferred.ofValue, Sem.run_bind, Sem.run_pure, Result.andThen_ok, invoke, Array.append_empty, Array.empty_append]
                exact h3 _ _
              · refine slots (by simpa using hle) (fun n k hk => ?_)
                rw [List.getElem?_map] at hk
                obtain ⟨x, hx, rfl⟩ := Option.map_eq_some_iff.1 hk
                have hx' : cl.args[n]? = some x := by simpa using hx
                exact ⟨a.eval x, by rw [Array.getElem?_map, hx']; rfl, dJ _, (lw (a := a) (tm := tmF a) (hX.at fx).toDOk hgl (g := none) (fun _ _ e => by cases e) hs (fun _ => rfl) x).strip⟩
            · cases h
          · cases h
        · rename_i f cap hf
          split at h
          · rename_i fx1 hfx
            split at h
            · rename_i hle
              simp only [Bool.and_eq_true, decide_eq_true_eq] at hle
              simp only [Option.some.injEq, Prod.mk.injEq] at h
              obtain ⟨rfl, rfl⟩ := h
              obtain ⟨h1, h2, h3, h4⟩ := hX.inl f fx1 hfx
              obtain ⟨cb, hcb⟩ := Option.isSome_iff_exists.1 h2
              rw [hf] at hr0
              obtain ⟨vs, hv1, hv2⟩ := hr0
              obtain ⟨p1, _⟩ := uT hv1 hle.1.2 hle.2
              have hsz : (cl.args.map a.eval ++ vs.toArray).size ≤ fx1.fn.ntmps := by simp [p1]; exact hle.1.1
              refine ⟨f, cl.args.map a.eval ++ vs.toArray, cb, h1, h4, hcb, ?_, hsz, fun G hb hM hgl hs => ?_⟩
              · simp only [execOp, ho, resolve, hq, hv2, Deferred.ofValue, Sem.run_bind, Sem.run_pure, Result.andThen_ok, invoke, Array.empty_append]
                exact h3 _ _
              · have hrq := lw (a := a) (tm := tmF a) (hX.at fx).toDOk hgl (g := none) (fun _ _ e => by cases e) hs (fun _ => rfl) q
                rw [hf] at hrq
                obtain ⟨vs', hv1', hv2'⟩ := hrq
                have evs : vs' = vs := by
                  rw [hv2] at hv2'
                  injection hv2' with _ _ e
                  simpa using congrArg Array.toList e.symm
                subst evs
                obtain ⟨_, p2⟩ := uT hv1' hle.1.2 hle.2
                refine slots hsz (fun n k hk => ?_)
                rw [List.getElem?_append] at hk
                simp only [List.length_map, Array.length_toList] at hk
                split at hk
                · rename_i hlt
                  rw [List.getElem?_map] at hk
                  obtain ⟨x, hx, rfl⟩ := Option.map_eq_some_iff.1 hk
                  have hx' : cl.args[n]? = some x := by simpa using hx
                  exact ⟨a.eval x, by rw [Array.getElem?_append, if_pos (by simpa using hlt), Array.getElem?_map, hx']; rfl, dJ _, (lw (a := a) (tm := tmF a) (hX.at fx).toDOk hgl (g := none) (fun _ _ e => by cases e) hs (fun _ => rfl) x).strip⟩
                · rename_i hlt
                  obtain ⟨v, hv, hn, hkv⟩ := p2 _ _ hk
                  exact ⟨v, by rw [Array.getElem?_append, if_neg (by simpa using hlt)]; simpa using hv, hn, hkv⟩
            · cases h
          · cases h
        · cases h
      · cases h
    · cases h
theorem JQ (hX : XOk P X) {fx fx' : Fx} {q : Operand} {env : Env} {ks : List K} (h : sP X (X.at fx) q env = some (fx', ks)) {c0 : Cx} {a : Act} {w : World} (hS : Sim P (X.at fx) c0 env a w) :
    ∃ (f : FuncId) (vs : List Value) (cb : Code), P.funcs[f]? = some fx'.fn ∧ fx'.fn.body = some cb ∧ gx P f ∧ fx'.ro = none ∧ a.eval q = .func (.func f) #[] vs.toArray ∧ vs.length = ks.length ∧
      ∀ G : Gst, G.b = env.b → MemOk P G w → GlobOk P X.D.G G.av w → (∀ n, KV P G w (tmF a) (env.s n) (tmF a n)) → ∀ (n : Nat) (k : K), ks[n]? = some k → ∃ v, vs[n]? = some v ∧ nog k = true ∧ KV P G w (tmF a) k v := by
  unfold sP at h
  obtain ⟨⟨G0, hb0, hC0, hM0, hgl0, hs0⟩, _⟩ := hS
  have hr0 := lw (a := a) (tm := tmF a) (hX.at fx).toDOk hgl0 (g := none) (fun _ _ e => by cases e) hs0 (fun _ => rfl) q
  split at h
  · rename_i f hf
    split at h
    · rename_i fx1 hfx
      simp only [Option.some.injEq, Prod.mk.injEq] at h
      obtain ⟨rfl, rfl⟩ := h
      obtain ⟨h1, h2, h3, h4⟩ := hX.inl f fx1 hfx
      obtain ⟨cb, hcb⟩ := Option.isSome_iff_exists.1 h2
      rw [hf] at hr0
      exact ⟨f, [], cb, h1, hcb, h3, h4, hr0, rfl, fun _ _ _ _ _ n k hk => by simp at hk⟩
    · cases h
  · rename_i f cap hf
    split at h
    · rename_i fx1 hfx
      split at h
      · rename_i hcap
        simp only [Bool.and_eq_true] at hcap
        simp only [Option.some.injEq, Prod.mk.injEq] at h
        obtain ⟨rfl, rfl⟩ := h
        obtain ⟨h1, h2, h3, h4⟩ := hX.inl f fx1 hfx
        obtain ⟨cb, hcb⟩ := Option.isSome_iff_exists.1 h2
        rw [hf] at hr0
        obtain ⟨vs, hv1, hv2⟩ := hr0
        obtain ⟨p1, _⟩ := uT hv1 hcap.1 hcap.2
        refine ⟨f, vs, cb, h1, hcb, h3, h4, hv2, p1, fun G hb hM hgl hs n k hk => ?_⟩
        have hrq := lw (a := a) (tm := tmF a) (hX.at fx).toDOk hgl (g := none) (fun _ _ e => by cases e) hs (fun _ => rfl) q
        rw [hf] at hrq
        obtain ⟨vs', hv1', hv2'⟩ := hrq
        have evs : vs' = vs := by
          rw [hv2] at hv2'
          injection hv2' with _ _ e
          simpa using congrArg Array.toList e.symm
        subst evs
        exact (uT hv1' hcap.1 hcap.2).2 n k hk
      · cases h
    · cases h
  · cases h
theorem Ka (hX : XOk P X) {stk : List cr} {fx fx' : Fx} {ops : Array Oper} {i : Nat} {l : List Nat} {k : List Item} {o o' : Oper} {env : Env} {ks : List K} (hi : ops[i]? = some o) (ho : xK P X fx ops env o o') (hnd : dx o = false) (h : AK X (X.at fx) o' env = some (fx', ks)) {lim : Nat}
    (hg : bG P X c R0 (⟨fx, .inRegion ops l :: k, o.dst, env.s, none⟩ :: stk) fx' (aA fx'.fn) { s := dU ks, b := env.b, lim }) : bG P X c R0 stk fx (.inRegion ops (i :: l) :: k) env := by
  intro frs b a w hk hfn hS cs
  obtain ⟨hgd, hdst, f, args, cb, hf, hro', hcb, hrun, hsz, hsl⟩ := Ma hX h hS
  have hw : Region.wanted o (yielded ops a.tmps) = true := ho.wants hgd hS
  rw [ho.dst] at hdst
  rw [ho.exec] at hrun
  obtain ⟨⟨G, hb, hC, hM, hgl, hs⟩, hfl, hsize, hdf⟩ := hS
  obtain ⟨hs1, hs2⟩ := hsl G hb hM hgl hs
  obtain ⟨hj1, hj2, hj3⟩ : ir P stk frs G w ∧ Mk G w (a.defers ++ frs.flatMap (·.defers)) ∧ lh G fx.ro b.roundOf := hC.J
  let b' : Frame := { (default : Frame) with fn := f, kind := .normal }
  let fr0 : Frame := b.atR a (.inRegion ops (i :: l) :: k)
  have henter : Frame.enter P f args .normal = b'.atR { tmps := args ++ Array.replicate (fx'.fn.ntmps - args.size) undef, defers := [] } (aA fx'.fn) := by
    simp [Frame.enter, Frame.atR, hf, hcb, b', aA]
    rfl
  have hstep : step P (lone fr0 (frs ++ cs) w) = .next (lone (Frame.enter P f args .normal) (fr0 :: (frs ++ cs)) w) :=
    step_lone_go (by
      have hgs := stepGR_op (P := P) (b := b) (k := k) (cs := frs ++ cs) (w := w) (rest := l) hi hw
      rw [Oper.semAt_eq _ _ _ (xX hnd)] at hgs
      show (stepG P true { frame := b.atR a (.inRegion ops (i :: l) :: k), callers := frs ++ cs, status := .running, dying := none } w).bare = _
      rw [hgs]; simp [stepG.apply, hrun, Frame.atR, fr0])
  have hfin : ∀ v, fr0.finish v = fr0.atR ((⟨fr0.tmps, fr0.defers⟩ : Act).put o.dst v) (.inRegion ops l :: k) := by
    intro v
    show (b.atR a (.inRegion ops (i :: l) :: k)).finish v = _
    rw [Frame.finish_atR, hi]; rfl
  have hS' : Sim P (X.at fx') (c.stk P (⟨fx, .inRegion ops l :: k, o.dst, env.s, none⟩ :: stk) (fr0 :: frs) [] fx'.ro none) { s := dU ks, b := env.b, lim } { tmps := args ++ Array.replicate (fx'.fn.ntmps - args.size) undef, defers := [] } w :=
    ⟨⟨G, hb, ⟨hC.O, hC.w0, hC.own, ⟨⟨⟨hs, hfl, hsize, hk, hfn, hj3, hdst, hfin⟩, hj1⟩, hj2, by rw [hro']; rfl⟩⟩, hM, hgl, hs1⟩, hs2, by simp [a8.at]; omega, rfl⟩
  obtain ⟨v, w', fr, q1, q2, q3, q4⟩ := hg (fr0 :: frs) b' { tmps := args ++ Array.replicate (fx'.fn.ntmps - args.size) undef, defers := [] } w rfl (fun _ => hf) hS' cs
  rw [← henter] at q2
  exact ⟨v, w', fr, q1, .head hstep q2, by rw [q3, List.getLastD_cons]; exact EJ frs rfl, q4⟩
theorem JC (hX : XOk P X) {stk : List cr} {fx fx' : Fx} {q : Operand} {ps : Array Nat} {as bd : Code} {k : List Item} {env : Env} {ks : List K} (h : sP X (X.at fx) q env = some (fx', ks)) {L lim : Nat} (hL : aX env.b L = true) (hrl : wa env fx.ro = true) (hsz : 1 + ks.length ≤ fx'.fn.ntmps) {ls : List Nat}
    (hg : bG P X c R0 (⟨fx, k, none, env.s, some L⟩ :: stk) fx' (aA fx'.fn) { s := dU (.yld L :: ks), b := aG env.b [(L, .live (.lop .ready none (j5 env.s ls) fx.fn.ntmps ps as bd))], lim }) : bG P X c R0 stk fx (.code (.rangeFunc q ps as bd) :: k) env := by
  intro frs b a w hk hfn hS cs
  obtain ⟨f, vs, cb, hf, hcb, hcan, hro', heval, hvl, hks⟩ := JQ hX h hS
  obtain ⟨⟨G, hb, hC, hM, hgl, hs⟩, hfl, hsize, hdf⟩ := hS
  obtain ⟨hj1, hj2, hj3⟩ : ir P stk frs G w ∧ Mk G w (a.defers ++ frs.flatMap (·.defers)) ∧ lh G fx.ro b.roundOf := hC.J
  have hsize : a.tmps.size = fx.fn.ntmps := hsize
  have hnl := xS env.s ls
  obtain ⟨g, mk, w1, G1, hrun, hb1, hE, hM1, hg1, hmk1⟩ := ID hb hM hj3 hrl (L := L) (by rw [hb]; exact hL) hj2 b.fn (tmps := a.tmps) (ps := ps) (as := as) (c := bd) hnl (fun m => (tv (hs m) ls).tm (EK m hnl))
  rw [hsize, hb] at hb1
  let b' : Frame := { (default : Frame) with fn := f, kind := .normal }
  let fr0 : Frame := b.atR { a with defers := mk ++ a.defers } (.inRangeFunc g :: k)
  let args : Array Value := #[.func (.yield g) #[] #[]] ++ vs.toArray
  have hasz : args.size = 1 + ks.length := by simp [args, hvl]; omega
  have hres : (resolve a.eval (rangeCall q g) 0).run P w1 = .ok { target := .fn (.func f) vs.toArray, args := #[.func (.yield g) #[] #[]] } w1 := by
    have hm : Array.map a.eval #[Operand.const (.func (.yield g) #[] #[])] = #[.func (.yield g) #[] #[]] := by simp [Act.eval]
    simp only [resolve, rangeCall, heval, Deferred.ofValue, Sem.run_pure, Array.empty_append, hm]
  have hinv : (invoke (.fn (.func f) vs.toArray) #[.func (.yield g) #[] #[]]).run P w1 = .ok (.enter f args) w1 := hcan args w1
  have hstep := stepR_rangeFunc (P := P) (b := b) (a := a) (k := k) (cs := frs ++ cs) (g := q) (ps := ps) (assign := as) (body := bd) hrun hres hinv
  have henter : Frame.enter P f args .normal = b'.atR { tmps := args ++ Array.replicate (fx'.fn.ntmps - args.size) undef, defers := [] } (aA fx'.fn) := by
    simp [Frame.enter, Frame.atR, hf, hcb, b', aA]
    rfl
  have hL0 : (∃ x, G1.b L = .live x ∨ G1.b L = .dead) := ⟨.lop .ready none (j5 env.s ls) fx.fn.ntmps ps as bd, .inl (by rw [hb1]; simp [aG])⟩
  have slots : ∀ n, KV P G1 w1 (tmF { tmps := args ++ Array.replicate (fx'.fn.ntmps - args.size) undef, defers := [] }) (dU (.yld L :: ks) n) (tmF { tmps := args ++ Array.replicate (fx'.fn.ntmps - args.size) undef, defers := [] } n) ∧ flat (dU (.yld L :: ks) n) = true := by
    have tmv : ∀ n v, args[n]? = some v → tmF { tmps := args ++ Array.replicate (fx'.fn.ntmps - args.size) undef, defers := [] } n = v := fun n v hv => by
      unfold tmF
      have hlt : n < args.size := (Array.getElem?_eq_some_iff.1 hv).1
      rw [Array.getD_eq_getD_getElem?, Array.getElem?_append, if_pos hlt, hv]
      rfl
    intro n
    cases n with
    | zero =>
      have e : dU (.yld L :: ks) 0 = .yld L := rfl
      rw [e, tmv 0 (.func (.yield g) #[] #[]) (by simp [args])]
      exact ⟨⟨hL0, g, hg1, rfl⟩, rfl⟩
    | succ n =>
      have e : dU (.yld L :: ks) (n + 1) = ks.getD n .any := by simp [dU]
      rw [e, List.getD_eq_getElem?_getD]
      cases hkn : ks[n]? with
      | none => exact ⟨trivial, rfl⟩
      | some kk =>
        obtain ⟨v, hv, hn, hkv⟩ := hks G hb hM hgl hs n kk hkn
        rw [tmv (n + 1) v (by simp only [args, Array.getElem?_append]; rw [if_neg (by simp)]; simpa using hv)]
        exact ⟨(hkv.ext hE).tm hn, jm hn⟩
  have hS' : Sim P (X.at fx') (c.stk P (⟨fx, k, none, env.s, some L⟩ :: stk) (fr0 :: frs) [] fx'.ro none) { s := dU (.yld L :: ks), b := aG env.b [(L, .live (.lop .ready none (j5 env.s ls) fx.fn.ntmps ps as bd))], lim } { tmps := args ++ Array.replicate (fx'.fn.ntmps - args.size) undef, defers := [] } w1 := by
    have hC1 := hC.ext hE
    refine ⟨⟨G1, hb1, ⟨hC1.O, hC1.w0, hC1.own, ⟨⟨⟨fun n => (hs n).ext hE, hfl, hsize, hk, hfn, hj3.ext0 hE.to0, rfl, ⟨hL0, g, hg1, fun v => ?_⟩⟩, hj1.ext0 hE.to0⟩, ?_, by rw [hro']; rfl⟩⟩, hM1, hgl.lat hE.lat, fun n => (slots n).1⟩, fun n => (slots n).2, ?_, rfl⟩
    · exact finish_atR_inRangeFunc g v
    · show Mk G1 w1 ((mk ++ a.defers) ++ frs.flatMap (·.defers))
      rw [List.append_assoc]
      exact hmk1
    · simp [a8.at]; omega
  obtain ⟨v, w', fr, q1, q2, q3, q4⟩ := hg (fr0 :: frs) b' { tmps := args ++ Array.replicate (fx'.fn.ntmps - args.size) undef, defers := [] } w1 rfl (fun _ => hf) hS' cs
  rw [← henter] at q2
  exact ⟨v, w', fr, q1, .head hstep q2, by rw [q3, List.getLastD_cons]; exact EJ frs rfl, q4⟩
theorem ME (hX : XOk P X) {fx : Fx} {o : Oper} {env : Env} {id : Nat} {ks : List K} (h : Ag (X.at fx) o env = some (id, ks)) {c0 : Cx} {a : Act} {w : World} (hS : Sim P (X.at fx) c0 env a w) :
    o.guard = none ∧ fm fx.fn.ntmps o = true ∧ ∃ g args, (∀ (r : Loop), w.heap[g]? = some (.loop r) → args.size = r.params.size → (execOp a.eval o).run P w = .ok (.round g r.fn ((r.params.zip args).foldl (fun tmps (t, a) => tmps.setIfInBounds t a) r.tmps) r.assign r.body) w) ∧ args.size = ks.length ∧
      ∀ G : Gst, G.b = env.b → MemOk P G w → GlobOk P X.D.G G.av w → (∀ n, KV P G w (tmF a) (env.s n) (tmF a n)) → (∃ x, G.b id = .live x ∨ G.b id = .dead) ∧ G.bk id = some g ∧ ∀ (n : Nat) (k : K), ks[n]? = some k → ∃ v, args.toList[n]? = some v ∧ nog k = true ∧ KV P G w (tmF a) k v := by
  unfold Ag at h
  split at h
  · cases h
  · rename_i hcond
    simp only [Bool.or_eq_true, not_or, Bool.not_eq_true] at hcond
    have hg : o.guard = none := by simpa using hcond.1
    have hdst : fm (X.at fx).n o = true := by simpa using hcond.2
    refine ⟨hg, hdst, ?_⟩
    split at h
    · rename_i cl ho
      split at h
      · rename_i q hq
        obtain ⟨⟨G0, hb0, hC0, hM0, hgl0, hs0⟩, _⟩ := hS
        have hr0 := lw (a := a) (tm := tmF a) (hX.at fx).toDOk hgl0 (g := none) (fun _ _ e => by cases e) hs0 (fun _ => rfl) q
        split at h
        · rename_i id' hid
          simp only [Option.some.injEq, Prod.mk.injEq] at h
          obtain ⟨rfl, rfl⟩ := h
          rw [hid] at hr0
          obtain ⟨_, g, _, hv⟩ := hr0
          refine ⟨g, cl.args.map a.eval, fun r hr hsz => ?_, by simp, fun G hb hM hgl hs => ?_⟩
          · simp only [execOp, ho, resolve, hq, hv, Deferred.ofValue, Sem.run_bind, Sem.run_pure, Result.andThen_ok, invoke, Array.empty_append]
            exact run_yield hr hsz
          · have hrq := lw (a := a) (tm := tmF a) (hX.at fx).toDOk hgl (g := none) (fun _ _ e => by cases e) hs (fun _ => rfl) q
            rw [hid] at hrq
            obtain ⟨h1, g', h2, hv'⟩ := hrq
            have eg : g' = g := by
              rw [hv] at hv'
              injection hv' with e _ _
              injection e with e
              exact e.symm
            subst eg
            refine ⟨h1, h2, fun n k hk => ?_⟩
            rw [List.getElem?_map] at hk
            obtain ⟨x, hx, rfl⟩ := Option.map_eq_some_iff.1 hk
            exact ⟨a.eval x, by rw [Array.toList_map, List.getElem?_map, hx]; rfl, dJ _, (lw (a := a) (tm := tmF a) (hX.at fx).toDOk hgl (g := none) (fun _ _ e => by cases e) hs (fun _ => rfl) x).strip⟩
        · cases h
      · cases h
    · cases h
theorem Mq (ps : Array Nat) (vs : Array Value) (t : Array Value) : (ps.zip vs).foldl (fun tmps (t, a) => tmps.setIfInBounds t a) t = (ps.toList.zip vs.toList).foldl (fun t q => t.setIfInBounds q.1 q.2) t := by
 rw [← Array.foldl_toList, Array.toList_zip]
theorem JR (hX : XOk P X) {stk : List cr} {fx fx' : Fx} {ops : Array Oper} {i : Nat} {l : List Nat} {k : List Item} {o o' : Oper} {env : Env} {id : Nat} {ks : List K} (hi : ops[i]? = some o) (ho : xK P X fx ops env o o') (hnd : dx o = false) (h : Ag (X.at fx) o' env = some (id, ks)) {pend : Option Code} {s : List (Nat × K)} {nn : Nat} {ps : Array Nat} {as bd : Code} (hl : ao env.b id = some (.lop .ready pend s nn ps as bd))
    (hlen : ks.length = ps.size) (hnn : nn = fx'.fn.ntmps) (hps : ∀ p ∈ ps.toList, p < nn) {lim : Nat}
    (hg : bG P X c R0 (⟨fx, .inRegion ops l :: k, o.dst, env.s, none⟩ :: stk) (fx'.rd id) [.code as, .beginRound, .code bd] { s := uN (ofS s) ps.toList ks, b := env.b, lim }) : bG P X c R0 stk fx (.inRegion ops (i :: l) :: k) env := by
  intro frs b a w hk hfn hS cs
  obtain ⟨hgd, hdst, g, args, hrun, hal, hfacts⟩ := ME hX h hS
  have hw : Region.wanted o (yielded ops a.tmps) = true := ho.wants hgd hS
  rw [ho.dst] at hdst
  rw [ho.exec] at hrun
  obtain ⟨⟨G, hb, hC, hM, hgl, hs⟩, hfl, hsize, hdf⟩ := hS
  obtain ⟨hj1, hj2, hj3⟩ : ir P stk frs G w ∧ Mk G w (a.defers ++ frs.flatMap (·.defers)) ∧ lh G fx.ro b.roundOf := hC.J
  obtain ⟨hu, hbk, hargs⟩ := hfacts G hb hM hgl hs
  rw [← hb] at hl
  obtain ⟨r, hr, e1, e2, e3, e4, e5, e6, e7, e8, _⟩ := tu hM (aq hl) hbk
  have hpsz : args.size = r.params.size := by rw [e3, ← hlen, hal]
  have hrun := hrun r hr hpsz
  rw [Mq, e3, e4, e5] at hrun
  obtain ⟨p1, p2, p3⟩ := HT (P := P) (G := G) (w := w) (tm := fun _ => undef) ps.toList args.toList ks (ofS s) r.tmps (by simp; omega) (by simp [hal]) (fun p hp => by rw [e6]; exact hps p hp) e8 (fun n => EK n e7) (fun j kk hj => by
    obtain ⟨v, hv, hn, hkv⟩ := hargs j kk hj
    exact ⟨v, hv, hn, hkv.tm hn⟩)
  let T := (ps.toList.zip args.toList).foldl (fun t q => t.setIfInBounds q.1 q.2) r.tmps
  let b' : Frame := { (default : Frame) with fn := r.fn, kind := .normal, roundOf := some g }
  let fr0 : Frame := b.atR a (.inRegion ops (i :: l) :: k)
  have hstep : step P (lone fr0 (frs ++ cs) w) = .next (lone (b'.atR ⟨T, []⟩ [.code as, .beginRound, .code bd]) (fr0 :: (frs ++ cs)) w) :=
    step_lone_go (by
      have hgs := stepGR_op (P := P) (b := b) (k := k) (cs := frs ++ cs) (w := w) (rest := l) hi hw
      rw [Oper.semAt_eq _ _ _ (xX hnd)] at hgs
      show (stepG P true { frame := b.atR a (.inRegion ops (i :: l) :: k), callers := frs ++ cs, status := .running, dying := none } w).bare = _
      rw [hgs]; simp [stepG.apply, hrun, Frame.atR, fr0, Frame.round, b', T])
  have hfin : ∀ v, fr0.finish v = fr0.atR ((⟨fr0.tmps, fr0.defers⟩ : Act).put o.dst v) (.inRegion ops l :: k) := by
    intro v
    show (b.atR a (.inRegion ops (i :: l) :: k)).finish v = _
    rw [Frame.finish_atR, hi]; rfl
  have hS' : Sim P (X.at (fx'.rd id)) (c.stk P (⟨fx, .inRegion ops l :: k, o.dst, env.s, none⟩ :: stk) (fr0 :: frs) [] (fx'.rd id).ro (some g)) { s := uN (ofS s) ps.toList ks, b := env.b, lim } ⟨T, []⟩ w :=
    ⟨⟨G, hb, ⟨hC.O, hC.w0, hC.own, ⟨⟨⟨hs, hfl, hsize, hk, hfn, hj3, hdst, hfin⟩, hj1⟩, hj2, ⟨hu, g, hbk, rfl⟩⟩⟩, hM, hgl, fun n => (p1 n).tm (p2 n)⟩, fun n => jm (p2 n), by
      show T.size = fx'.fn.ntmps
      rw [← hnn, ← e6]
      exact p3, rfl⟩
  obtain ⟨v, w', fr, q1, q2, q3, q4⟩ := hg (fr0 :: frs) b' ⟨T, []⟩ w rfl (fun h => by cases h) hS' cs
  exact ⟨v, w', fr, q1, .head hstep q2, by rw [q3, List.getLastD_cons]; exact EJ frs rfl, q4⟩
theorem J6 {stk : List cr} {fx : Fx} {k : List Item} {env : Env} {id : Nat} (hro : fx.ro = some id) {pend : Option Code} {s : List (Nat × K)} {nn : Nat} {ps : Array Nat} {as bd : Code} (hl : ao env.b id = some (.lop .ready pend s nn ps as bd))
    (hg : bG P X c R0 stk fx k { env with b := aG env.b [(id, .live (.lop .busy pend s nn ps as bd))] }) : bG P X c R0 stk fx (.beginRound :: k) env := by
  intro frs b a w hk hfn hS cs
  obtain ⟨⟨G, hb, hC, hM, hgl, hs⟩, hfl, hsize, hdf⟩ := hS
  have hj : ir P stk frs G w ∧ Mk G w (a.defers ++ frs.flatMap (·.defers)) ∧ lh G fx.ro b.roundOf := hC.J
  have hj3 := hj.2.2
  rw [hro] at hj3
  obtain ⟨_, g, hbk, hrof⟩ := hj3
  rw [← hb] at hl
  obtain ⟨r, hr, e1, e2, _, _, _, _, _, _, ht⟩ := tu hM (aq hl) hbk
  obtain ⟨hM', hE⟩ := ht .busy pend
  have hbr := run_beginRound (P := P) hr e1
  have e : ({ r with state := .busy, pending := pend } : Loop) = { r with state := .busy } := by rw [← e2]
  rw [e] at hM' hE
  refine fo hg hk hfn ⟨⟨_, FN hb, hC.ext hE, hM', hgl.lat hE.lat, fun n => (hs n).ext hE⟩, hfl, hsize, hdf⟩ (.one (stepR_beginRound hrof hbr))
theorem vC {rec : List cr → Fx → List Item → Env → af} (hrec : ∀ stk fx todo env, bh P X c R0 Z (rec stk fx todo env) → bG P X c R0 stk fx todo env) {stk : List cr} {fx : Fx} {todo : List Item} {env : Env} {id : Nat} {jump : Option Code} (hro : fx.ro = some id)
    (hstep : ∀ (a : Act) (w w' : World) (b f : Frame) (cs : List Frame) (g : Nat) (v : Value), b.roundOf = some g → b.kind = .normal → (Instr.endRound g jump).run P w = .ok v w' → step P (lone (b.atR a todo) (f :: cs) w) = .next (lone (f.finish v) cs w'))
    (h : bh P X c R0 Z (qH rec stk env id jump)) : bG P X c R0 stk fx todo env := by
  cases stk with
  | nil => exact h.elim
  | cons ct stk =>
    unfold qH at h
    simp only at h
    split at h
    · exact h.elim
    · rename_i hrng
      have hrng : ct.rng = none := by simpa using hrng
      split at h
      · rename_i st pend s nn ps as bd hl
        intro frs b a w hk hfn hS cs
        obtain ⟨⟨G, hb, hC, hM, hgl, hs⟩, hfl, hsize, hdf⟩ := hS
        have hj : ir P (ct :: stk) frs G w ∧ Mk G w (a.defers ++ frs.flatMap (·.defers)) ∧ lh G fx.ro b.roundOf := hC.J
        have hj3 := hj.2.2
        rw [hro] at hj3
        obtain ⟨_, g, hbk, hrof⟩ := hj3
        rw [← hb] at hl
        obtain ⟨r, hr, e1, e2, _, _, _, _, _, _, ht⟩ := tu hM (aq hl) hbk
        obtain ⟨hM', hE⟩ := ht (if jump.isNone then .ready else .done) jump
        cases frs with
        | nil => exact hj.1.elim
        | cons f frs =>
          obtain ⟨hf, hj1⟩ := hj.1
          have hback := hf.back
          rw [hrng] at hback
          have hst := hstep a w _ b f (frs ++ cs) g _ hrof hk (run_endRound jump hr)
          rw [hback] at hst
          have hf1 := hf.ext0 hE.to0
          have hmk : Mk G w (f.defers ++ frs.flatMap (·.defers)) := by
            obtain ⟨rs, e0, hn0, hr0⟩ := hj.2.1
            obtain ⟨rs1, rs2, q1, q2, q3⟩ := List.map_eq_append_iff.1 e0.symm
            subst q1
            exact ⟨rs2, q3.symm, (List.nodup_append.1 hn0).2.1, fun r hr => hr0 r (List.mem_append_right _ hr)⟩
          have hS' : Sim P (X.at ct.fx) (c.stk P stk frs f.defers ct.fx.ro f.roundOf) { s := put ct.s ct.dst (if ct.fx.ann.gy then .lit jump.isNone else .val .bool jump.isNone), b := aG env.b [(id, .live (.lop (if jump.isNone then .ready else .done) jump s nn ps as bd))], lim := env.lim } ((⟨f.tmps, f.defers⟩ : Act).put ct.dst (.bool jump.isNone)) (w.putObj g (.loop { r with state := if jump.isNone then .ready else .done, pending := jump })) := by
            have hC1 := hC.ext hE
            refine ⟨⟨_, FN hb, ⟨hC1.O, hC1.w0, hC1.own, hj1.ext0 hE.to0, hmk.ext hE, hf1.ro⟩, hM', hgl.lat hE.lat, ?_⟩, gz hf.flat (by cases ct.fx.ann.gy <;> rfl), ?_, ?_⟩
            · exact lP (a := ⟨f.tmps, f.defers⟩) (o := { (default : Oper) with dst := ct.dst }) rfl hf.flat hf1.kv hf.size hf.dst (fun d hd => by
                by_cases hgy : ct.fx.ann.gy = true
                · rw [if_pos hgy]; exact rfl
                · rw [if_neg hgy]; exact bA.2 rfl)
            · cases hd : ct.dst <;> simp [Act.put, hf.size, a8.at]
            · cases hd : ct.dst <;> simp [Act.put, Cx.stk]
          have hdd : ((⟨f.tmps, f.defers⟩ : Act).put ct.dst (.bool jump.isNone)).defers = f.defers := by cases ct.dst <;> rfl
          obtain ⟨v, w', fr, q1, q2, q3, q4⟩ := hrec _ _ _ _ h frs f _ _ hf.kind hf.fn (by rw [hdd]; exact hS') cs
          exact ⟨v, w', fr, q1, .head hst q2, by rw [q3, List.getLastD_cons], q4⟩
      · exact h.elim
theorem BF (hX : XOk P X) (hZ : ∀ fx env, bh P X c R0 Z (xj X m fx env) → ∀ a w, Sim P (X.at fx) (c.stk P [] [] [] none none) env a w → ∃ v, (results fx.fn a.tmps).run P w = .ok v w ∧ R0 (.returned v) w)
    {rec : List cr → Fx → List Item → Env → af} (hrec : ∀ stk fx todo env, bh P X c R0 Z (rec stk fx todo env) → bG P X c R0 stk fx todo env) {stk : List cr} {fx : Fx} {todo : List Item} {env : Env} (hro : fx.ro = none)
    (hstep : ∀ (a : Act) (w : World) (b : Frame) (cs : List Frame), b.roundOf = none → step P (lone (b.atR a todo) cs w) = .next (lone { b.atR a todo with mode := .returning } cs w))
    (h : bh P X c R0 Z (Ft X m rec stk fx env)) : bG P X c R0 stk fx todo env := by
  intro frs b a w hk hfn hS cs
  have hrof : b.roundOf = none := by
    obtain ⟨⟨G, _, hC, _⟩, _⟩ := hS
    have hj : ir P stk frs G w ∧ Mk G w (a.defers ++ frs.flatMap (·.defers)) ∧ lh G fx.ro b.roundOf := hC.J
    have := hj.2.2
    rw [hro] at this
    exact this
  obtain ⟨rs, hd, hnd, hrs, hS2⟩ := Ny hS
  have hst0 : Steps P (lone (b.atR a todo) (frs ++ cs) w) (lone { b.atR a todo with mode := .returning, defers := [] } (frs ++ cs) (sD w rs)) :=
    .head (hstep a w b _ hrof) (D5 rs w { b.atR a todo with mode := .returning } (by simp) hd hrs hnd)
  rw [hro, hrof] at hS2
  generalize sD w rs = w2 at hS2 hst0
  cases stk with
  | nil =>
    cases frs with
    | cons f frs => obtain ⟨⟨G, _, hC, _⟩, _⟩ := hS2; exact (hC.J : ir P [] (f :: frs) G w2 ∧ _).1.elim
    | nil =>
      obtain ⟨v, hr, hR⟩ := hZ fx env h { a with defers := [] } w2 hS2
      exact ⟨v, w2, _, hR, hst0, rfl, rfl, rfl, hk, fx.fn, hfn hro, hr⟩
  | cons ct stk =>
    unfold Ft at h
    simp only at h
    split at h
    · rename_i k hkr
      cases frs with
      | nil => obtain ⟨⟨G, _, hC, _⟩, _⟩ := hS2; exact (hC.J : ir P (ct :: stk) [] G w2 ∧ _).1.elim
      | cons f frs =>
        obtain ⟨⟨G, hb, hC, hM, hgl, hs⟩, hfl, hsz, hdf⟩ := hS2
        obtain ⟨v, hv, hn, hkv⟩ := NF (hX.at fx) (c0 := c.stk P (ct :: stk) (f :: frs) [] none none) ⟨⟨G, hb, hC, hM, hgl, hs⟩, hfl, hsz, hdf⟩ hb hM hs hkr
        obtain ⟨⟨hf, hj1⟩, hj2, _⟩ : ir P (ct :: stk) (f :: frs) G w2 ∧ Mk G w2 ([] ++ (f :: frs).flatMap (·.defers)) ∧ lh G none none := hC.J
        have hmk : Mk G w2 (f.defers ++ frs.flatMap (·.defers)) := hj2
        have hst1 : step P (lone { b.atR a todo with mode := .returning, defers := [] } (f :: (frs ++ cs)) w2) = .next (lone (f.finish v) (frs ++ cs) w2) := step_leave_returned ⟨rfl, rfl, hk, fx.fn, hfn hro, hv⟩
        have hback := hf.back
        split at h
        · rename_i hrng
          rw [hrng] at hback
          rw [hback] at hst1
          have hS' : Sim P (X.at ct.fx) (c.stk P stk frs f.defers ct.fx.ro f.roundOf) { s := put ct.s ct.dst k, b := env.b, lim := env.lim } ((⟨f.tmps, f.defers⟩ : Act).put ct.dst v) w2 := by
            refine ⟨⟨G, hb, ⟨hC.O, hC.w0, hC.own, hj1, hmk, hf.ro⟩, hM, hgl, ?_⟩, gz hf.flat (jm hn), ?_, ?_⟩
            · exact lP (a := ⟨f.tmps, f.defers⟩) (o := { (default : Oper) with dst := ct.dst }) rfl hf.flat hf.kv hf.size hf.dst (fun d hd => hkv.tm hn)
            · cases hd : ct.dst <;> simp [Act.put, hf.size, a8.at]
            · cases hd : ct.dst <;> simp [Act.put, Cx.stk]
          have hdd : ((⟨f.tmps, f.defers⟩ : Act).put ct.dst v).defers = f.defers := by cases ct.dst <;> rfl
          obtain ⟨v', w', fr, q1, q2, q3, q4⟩ := hrec _ _ _ _ h frs f _ _ hf.kind hf.fn (by rw [hdd]; exact hS') cs
          exact ⟨v', w', fr, q1, hst0.trans (.head hst1 q2), by rw [q3, List.getLastD_cons], q4⟩
        · rename_i id hrng
          rw [hrng] at hback
          obtain ⟨_, g, hbk, hback⟩ := hback
          rw [hback] at hst1
          split at h
          · rename_i st pend s nn ps as bd hl
            split at h
            · exact h.elim
            · rename_i hbusy
              have hbusy : ¬ st = .busy := by simpa using hbusy
              rw [← hb] at hl
              obtain ⟨r, hr, e1, e2, _, _, _, _, _, _, ht⟩ := tu hM (aq hl) hbk
              obtain ⟨hM', hE⟩ := ht .exhausted pend
              have e : ({ r with state := .exhausted, pending := pend } : Loop) = { r with state := .exhausted } := by rw [← e2]
              rw [e] at hM' hE
              obtain ⟨hM'', hE'⟩ := hM'.drop id
              have hE2 := hE.trans hE'
              have hst2 := stepR_endRangeFunc (P := P) (b := f) (a := ⟨f.tmps, f.defers⟩) (k := ct.todo) (cs := frs ++ cs) (run_endLoop hr (by rw [e1]; exact hbusy))
              rw [show Option.map Item.code r.pending = Option.map Item.code pend from by rw [e2]] at hst2
              have hf1 := hf.ext0 hE2.to0
              have hC1 := hC.ext hE2
              have hS' : Sim P (X.at ct.fx) (c.stk P stk frs f.defers ct.fx.ro f.roundOf) { s := ct.s, b := aG env.b [(id, .dead)], lim := env.lim } ⟨f.tmps, f.defers⟩ (w2.putObj g (.loop { r with state := .exhausted })) :=
                ⟨⟨_, FG hb, ⟨hC1.O, hC1.w0, hC1.own, hj1.ext0 hE2.to0, hmk.ext hE2, hf1.ro⟩, hM'', (hgl.lat hE.lat).lat hE'.lat, hf1.kv⟩, hf.flat, hf.size, rfl⟩
              obtain ⟨v', w', fr, q1, q2, q3, q4⟩ := hrec _ _ _ _ h frs f ⟨f.tmps, f.defers⟩ _ hf.kind hf.fn hS' cs
              exact ⟨v', w', fr, q1, hst0.trans (.head hst1 (.head hst2 q2)), by rw [q3, List.getLastD_cons], q4⟩
          · exact h.elim
    · exact h.elim
theorem kN {Z : K → Prop} : ∀ (l : List Nat) (env : Env) (k : Env → af), bh P X c R0 Z (kr l env k) → bh P X c R0 Z (k env)
 | [], env, k, h => h
 | d :: l, env, k, h => by
  unfold kr at h
  split at h
  ·rename_i t x hd
   have := kN l _ k (h x rfl)
   rwa [show ({ env with s := fun n => if n = d then .val t x else env.s n } : Env) = env from by
    have : (fun n => if n = d then K.val t x else env.s n) = env.s := by
     funext n
     split
     ·rename_i e; rw [e, hd]
     ·rfl
    rw [this]] at this
  ·rename_i t x hd
   have := kN l _ k (h x rfl)
   rwa [show ({ env with s := fun n => if n = d then .tup t x else env.s n } : Env) = env from by
    have : (fun n => if n = d then K.tup t x else env.s n) = env.s := by
     funext n
     split
     ·rename_i e; rw [e, hd]
     ·rfl
    rw [this]] at this
  ·exact kN l env k h
theorem bl (hX : XOk P X) (hZ : ∀ fx env, bh P X c R0 Z (xj X m fx env) → ∀ a w, Sim P (X.at fx) (c.stk P [] [] [] none none) env a w → ∃ v, (results fx.fn a.tmps).run P w = .ok v w ∧ R0 (.returned v) w) :
    ∀ (n : Nat) (stk : List cr) (fx : Fx) (todo : List Item) (env : Env), bh P X c R0 Z (aj X m n stk fx todo env) → bG P X c R0 stk fx todo env
  | 0, _, _, _, _, h => h.elim
  | n + 1, stk, fx, [], env, h => by
    have h : bh P X c R0 Z (ox X m (aj X m n) stk fx env none) := h
    unfold ox at h
    split at h
    · rename_i hro
      exact BF hX hZ (bl hX hZ n) hro (fun _ _ _ _ hb => stepR_end hb) h
    · rename_i id hro
      exact vC (bl hX hZ n) hro (fun _ _ _ _ _ _ _ _ h1 h2 h3 => stepR_round_end h1 h2 h3) h
  | n + 1, stk, fx, .code cd :: k, env, h => by
    cases cd with
    | skip => exact iS (fun _ _ _ _ => stepR_skip) (bl hX hZ n _ _ _ _ h)
    | region id ops draw =>
      have hT : bh P X c R0 Z (match DY fx id env with
        | none => .bad 6
        | some env =>
          if ops.toList.any dx then .bad 21 else
          if draw then
            (match fx.ann.piv.lookup id with
            | some p => (match Bg (X.at fx) ops p with
              | none => .bad 52
              | some (ordA, l) => match f7 (X.at fx) ops ordA env with
                | none => .bad (2000 + id)
                | some (env', ps) => uO ps (aj X m n stk fx (.inRegion ops l :: k) { env' with lim := env'.lim + 1000 }))
            | none => match zP (X.at fx) ops env with
            | none => .bad 12
            | some ord => (match f7 (X.at fx) ops ord env with
              | none => .bad (1000 + id)
              | some (env', ps) => uO ps (kr (ops.toList.flatMap (Hz fx)) { env' with lim := env'.lim + 1000 } fun env => aj X m n stk fx k env)))
          else aj X m n stk fx (.inRegion ops (List.range ops.size) :: k) { env with lim := env.lim + 1000 }) := h
      clear h
      split at hT
      · exact hT.elim
      · rename_i env1 hf
        split at hT
        · exact hT.elim
        · rename_i hnd
          have hnd : ops.toList.any dx = false := by simpa using hnd
          split at hT
          · rename_i hd
            split at hT
            · split at hT
              · exact hT.elim
              · rename_i ordA l hpv
                split at hT
                · exact hT.elim
                · rename_i env2 ps hv
                  subst hd
                  obtain ⟨hp, ht⟩ := rX hT
                  intro frs b a w hk hfn hS cs
                  obtain ⟨a', w', hS', hst⟩ := PK (id := id) (hX.at fx) hX.ht hnd hpv hv hp (sR hf hS) b k (frs ++ cs)
                  exact fo (bl hX hZ n _ _ _ _ ht) hk hfn ⟨hS'.ex, hS'.flat, hS'.size, hS'.defers⟩ hst
            split at hT
            · exact hT.elim
            · rename_i ord hreg
              split at hT
              · exact hT.elim
              · rename_i env2 ps hv
                subst hd
                obtain ⟨hp, ht⟩ := rX hT
                intro frs b a w hk hfn hS cs
                obtain ⟨a', w', hS', hst⟩ := Pi (id := id) (hX.at fx) hX.ht hnd hreg hv hp (sR hf hS) b k (frs ++ cs)
                exact fo (bl hX hZ n _ _ _ _ (kN _ _ _ ht)) hk hfn ⟨hS'.ex, hS'.flat, hS'.size, hS'.defers⟩ hst
          · rename_i hd
            have hd : draw = false := by simpa using hd
            subst hd
            intro frs b a w hk hfn hS cs
            have hS1 := sR hf hS
            exact fo (bl hX hZ n _ _ _ _ hT) hk hfn ⟨hS1.ex, hS1.flat, hS1.size, hS1.defers⟩ (.one stepR_region)
    | seq x y => exact iS (fun _ _ _ _ => stepR_seq) (bl hX hZ n _ _ _ _ h)
    | cond cc x y =>
      have h : bh P X c R0 Z (match A3 env.s cc with
        | some true => aj X m n stk fx (.code x :: k) env
        | some false => aj X m n stk fx (.code y :: k) env
        | none => match uk (rd (X.at fx) env.s none cc) with
          | some t => .ite t (aj X m n stk fx (.code x :: k) (wT env cc true)) (aj X m n stk fx (.code y :: k) (wT env cc false))
          | none => .bad 7) := h
      split at h
      · rename_i hlit
        intro frs b a w hk hfn hS cs
        exact fo (bl hX hZ n _ _ _ _ h) hk hfn hS (.one (stepR_cond (HH hlit hS)))
      · rename_i hlit
        intro frs b a w hk hfn hS cs
        exact fo (bl hX hZ n _ _ _ _ h) hk hfn hS (.one (stepR_cond (HH hlit hS)))
      split at h
      · rename_i t ht
        have hb : ∀ {c0 : Cx} {a : Act} {w : World}, Sim P (X.at fx) c0 env a w → a.eval cc = .bool t := by
          intro c0 a w hS
          obtain ⟨⟨G, _, _, _, hgl, hs⟩, _⟩ := hS
          have := lw (a := a) (tm := tmF a) (hX.at fx).toDOk hgl (g := none) (fun _ _ e => by cases e) hs (fun _ => rfl) cc
          unfold uk at ht
          split at ht
          · rename_i b e
            have e' := Option.some.inj ht
            subst e'
            rw [e] at this
            exact bA.1 this
          · cases ht
        cases t with
        | true =>
          intro frs b a w hk hfn hS cs
          exact fo (bl hX hZ n _ _ _ _ (h.1 rfl)) hk hfn (KF hS (hb hS)) (.one (stepR_cond (hb hS)))
        | false =>
          intro frs b a w hk hfn hS cs
          exact fo (bl hX hZ n _ _ _ _ (h.2 rfl)) hk hfn (KF hS (hb hS)) (.one (stepR_cond (hb hS)))
      · exact h.elim
    | block id bd => exact iS (fun _ _ _ _ => stepR_block) (bl hX hZ n _ _ _ _ h)
    | loop bd =>
      have h : bh P X c R0 Z (match (dc bd).bind (fun i => (List.lookup i fx.ann.loops).map fun L => (i, L)) with
        | some (i, L) => sB L.keep L.own (xJ fx i) stk fx (.code bd :: .inLoop bd :: k) env
        | none => .bad 8) := h
      split at h
      · exact iS (fun _ _ _ _ => stepR_loop) (B4 h)
      · exact h.elim
    | exit id =>
      have h : bh P X c R0 Z (match exitTo id k with
        | some k' => aj X m n stk fx k' env
        | none => match fx.ro with
          | none => .bad 9
          | some rid => qH (aj X m n) stk env rid (some (.exit id))) := h
      split at h
      · rename_i k' hk
        exact iS (fun _ _ _ _ => stepR_exit hk) (bl hX hZ n _ _ _ _ h)
      · rename_i hk
        split at h
        · exact h.elim
        · rename_i rid hro
          exact vC (bl hX hZ n) hro (fun _ _ _ _ _ _ _ _ h1 h2 h3 => stepR_round_exit h1 h2 hk h3) h
    | ret =>
      have h : bh P X c R0 Z (ox X m (aj X m n) stk fx env (some .ret)) := h
      unfold ox at h
      split at h
      · rename_i hro
        exact BF hX hZ (bl hX hZ n) hro (fun _ _ _ _ hb => stepR_ret hb) h
      · rename_i id hro
        exact vC (bl hX hZ n) hro (fun _ _ _ _ _ _ _ _ h1 h2 h3 => stepR_round_ret h1 h2 h3) h
    | rangeFunc q ps as bd =>
      have h : bh P X c R0 Z (match sP X (X.at fx) q env with
        | none => .bad 40
        | some (fx', ks) =>
          if aX env.b (env.lim + 999) && wa env fx.ro && decide (1 + ks.length ≤ fx'.fn.ntmps) then
            aj X m n (⟨fx, k, none, env.s, some (env.lim + 999)⟩ :: stk) fx' (aA fx'.fn)
              { s := dU (.yld (env.lim + 999) :: ks), b := aG env.b [(env.lim + 999, .live (.lop .ready none (j5 env.s (tU (kC as ++ kC bd))) fx.fn.ntmps ps as bd))], lim := env.lim + 1000 }
          else .bad 41) := h
      split at h
      · exact h.elim
      · rename_i fx' ks hc
        split at h
        · rename_i hcond
          simp only [Bool.and_eq_true, decide_eq_true_eq] at hcond
          exact JC hX hc hcond.1.1 hcond.1.2 hcond.2 (bl hX hZ n _ _ _ _ h)
        · exact h.elim
    | _ => exact h.elim
  | n + 1, stk, fx, .inBlock _ :: k, env, h => iS (fun _ _ _ _ => stepR_inBlock) (bl hX hZ n _ _ _ _ h)
  | n + 1, stk, fx, .inLoop bd :: k, env, h => by
    have h : bh P X c R0 Z (match (dc bd).bind (fun i => (List.lookup i fx.ann.loops).map fun L => (i, L)) with
      | some (i, L) => sB L.keep L.own (xJ fx i) stk fx (.code bd :: .inLoop bd :: k) env
      | none => .bad 8) := h
    split at h
    · exact iS (fun _ _ _ _ => stepR_inLoop) (B4 h)
    · exact h.elim
  | n + 1, stk, fx, .inRegion ops [] :: k, env, h => iS (fun _ _ _ _ => stepR_region_end) (bl hX hZ n _ _ _ _ h)
  | n + 1, stk, fx, .beginRound :: k, env, h => by
    have h : bh P X c R0 Z (match fx.ro with
      | none => .bad 45
      | some id => match ao env.b id with
        | some (.lop .ready pend s nn ps a c) => aj X m n stk fx k { env with b := aG env.b [(id, .live (.lop .busy pend s nn ps a c))] }
        | _ => .bad 44) := h
    split at h
    · exact h.elim
    · rename_i id hro
      split at h
      · rename_i pend s nn ps as bd hl
        exact J6 hro hl (bl hX hZ n _ _ _ _ h)
      · exact h.elim
  | n + 1, stk, fx, .inRegion ops (i :: l) :: k, env, h => by
    have h : bh P X c R0 Z (match ops[i]? with
      | none => .bad 20
      | some o => if dx o then .bad 21 else
       match (if fx.ann.gy then I2 X (X.at fx) ops o env.s else .go ops o) with
       | .skip d w => if fm (X.at fx).n o then aj X m n stk fx (.inRegion ops l :: k) { env with s := put env.s o.dst (.grd d w [] .any) } else .bad 51
       | .val k' => if fm (X.at fx).n o then aj X m n stk fx (.inRegion ops l :: k) { env with s := put env.s o.dst k' } else .bad 51
       | .split d c => .ite c (aj X m n stk fx (.inRegion ops (i :: l) :: k) (Iq env d true)) (aj X m n stk fx (.inRegion ops (i :: l) :: k) (Iq env d false))
       | .go ops' o' => match Ag (X.at fx) o' env with
       | some (id, ks) => (match ao env.b id, NO id stk with
         | some (.lop .ready _ s nn ps a c), some fx' =>
           if decide (ks.length = ps.size) && decide (nn = fx'.fn.ntmps) && ps.toList.all (fun p => decide (p < nn)) then
             aj X m n (⟨fx, .inRegion ops l :: k, o.dst, env.s, none⟩ :: stk) (fx'.rd id) [.code a, .beginRound, .code c] { s := uN (ofS s) ps.toList ks, b := env.b, lim := env.lim + 1000 }
           else .bad 43
         | _, _ => .bad 42)
       | none => match AK X (X.at fx) o' env with
        | some (fx', ks) => aj X m n (⟨fx, .inRegion ops l :: k, o.dst, env.s, none⟩ :: stk) fx' (aA fx'.fn) { s := dU ks, b := env.b, lim := env.lim + 1000 }
        | none => match HP X (X.at fx) ops' o' env with
          | none => .bad (100000 + 1000 * (dc (.region 0 ops false)).getD 0 + i)
          | some (.one env' ps) => uO ps (kr (KC fx o) env' fun env => aj X m n stk fx (.inRegion ops l :: k) env)
          | some (.ex α p f) => .all α p fun x => aj X m n stk fx (.inRegion ops l :: k) (f x)) := h
    split at h
    · exact h.elim
    · rename_i o hi
      split at h
      · exact h.elim
      · rename_i hnd
        have hnd : dx o = false := by simpa using hnd
        have hgy : Oa P X fx ops env o (if fx.ann.gy then I2 X (X.at fx) ops o env.s else .go ops o) := by
          split
          · exact PD
          · exact wD
        split at h
        · rename_i d wv hq
          rw [hq] at hgy
          split at h
          · rename_i hdst
            intro frs b a w hk hfn hS cs
            have hw : Region.wanted o (yielded ops a.tmps) = false := hgy hS
            have hst := stepR_op_skip (P := P) (b := b) (a := a) (k := k) (cs := frs ++ cs) (w := w) (ops := ops) (i := i) (rest := l) (by rw [hi]; exact hw)
            rw [show ((ops[i]?).bind (·.dst)) = o.dst from by rw [hi]; rfl] at hst
            exact fo (bl hX hZ n _ _ _ _ h) hk hfn (Or hdst hS) (.one hst)
          · exact h.elim
        · rename_i k' hq
          rw [hq] at hgy
          split at h
          · rename_i hdst
            intro frs b a w hk hfn hS cs
            obtain ⟨v, hrun, hS'⟩ := OS (hX.at fx) hdst hS hgy.1
            obtain ⟨a', w', he, hst⟩ := AF (rest := l) (k := k) (b := b) (cs := frs ++ cs) (Q := fun _ _ _ => False) (next := fun a' w' => a' = a.put o.dst v ∧ w' = w) (fun _ _ _ h => h.elim) hi hnd (hgy.2 hS) (by
              unfold Oper.wp Oper.upon
              rw [hrun]
              exact ⟨rfl, rfl⟩)
            obtain ⟨rfl, rfl⟩ := he
            exact fo (bl hX hZ n _ _ _ _ h) hk hfn hS' hst
          · exact h.elim
        · rename_i d cc hq
          rw [hq] at hgy
          cases cc with
          | true =>
            intro frs b a w hk hfn hS cs
            exact fo (bl hX hZ n _ _ _ _ (h.1 rfl)) hk hfn (IR hS (hgy hS)) (.refl _ _)
          | false =>
            intro frs b a w hk hfn hS cs
            exact fo (bl hX hZ n _ _ _ _ (h.2 rfl)) hk hfn (IR hS (hgy hS)) (.refl _ _)
        · rename_i ops' o' hq
          rw [hq] at hgy
          obtain ⟨hoa, hot⟩ := hgy
          split at h
          · rename_i id ks hy
            split at h
            · rename_i pend s nn ps as bd fx' hl hfx
              split at h
              · rename_i hcond
                simp only [Bool.and_eq_true, decide_eq_true_eq, List.all_eq_true] at hcond
                exact JR hX hi hoa hnd hy hl hcond.1.1 hcond.1.2 hcond.2 (bl hX hZ n _ _ _ _ h)
              · exact h.elim
            · exact h.elim
          · split at h
            · rename_i fx' ks he
              exact Ka hX hi hoa hnd he (bl hX hZ n _ _ _ _ h)
            · split at h
              · exact h.elim
              · rename_i env' ps hv
                obtain ⟨hp, ht⟩ := rX h
                intro frs b a w hk hfn hS cs
                obtain ⟨a', w', hS', hst⟩ := Dr hX hv hS hi (hot.imp id fun q => ⟨q.1, q.2.1, q.2.2 hS⟩) hnd (rest := l) (k := k) b (frs ++ cs) hp
                exact fo (bl hX hZ n _ _ _ _ (kN _ _ _ ht)) hk hfn hS' hst
              · rename_i α p f hv
                intro frs b a w hk hfn hS cs
                obtain ⟨x, hx, a', w', hS', hst⟩ := Dr hX hv hS hi (hot.imp id fun q => ⟨q.1, q.2.1, q.2.2 hS⟩) hnd (rest := l) (k := k) b (frs ++ cs)
                exact fo (bl hX hZ n _ _ _ _ (h x hx)) hk hfn hS' hst
  | n + 1, _, _, .inScope _ :: _, _, h => h.elim
  | n + 1, _, _, .inRangeFunc _ :: _, _, h => h.elim
  | n + 1, _, _, .endRangeFunc _ :: _, _, h => h.elim
  | n + 1, _, _, .call .. :: _, _, h => h.elim
  | n + 1, _, _, .extern .. :: _, _, h => h.elim
end
end Go.Proofs.Ytimdnodkabnbfaa
namespace Go.Proofs.Ytimdnodkabnbfaa
open Go Go.RowKit
def vok (lo n m : Nat) : Prop := lo + n ≤ m
def nv (e : Ty) (zs : List (den e)) (lo n : Nat) : List (den e) := (zs.drop lo).take n
section
variable {P : Program} {X : a8} {a : Act} {w : World}
def ZD (rs : Ty) (p : den rs → Prop) (k : K) : Prop := ∃ x, bt rs k = some x ∧ p x
theorem Oo {c : Cx} {R0 : Ending → World → Prop} {rs : Ty} {p : den rs → Prop} {D : aK} {O : Nat → Prop} {w0 : World} {fn : Func} : ∀ {t : a6}, bh P X c R0 (ZD rs p) (toS t) → cj P D O w0 fn rs p t
 | .ret k, h => h
 | .bad _, h => h.elim
 | .ite _ _ _, h => h.elim
 | .req _ _, h => h.elim
 | .loop _ _ _, h => h.elim
abbrev LB (P : Program) (X : a8) (O : Nat → Prop) (w0 : World) (rs : Ty) (p : den rs → Prop) := bh P X (Cx.base O w0) (cG P O w0 rs p) (ZD rs p)
theorem Jj (hX : XOk P X) {O : Nat → Prop} {w0 : World} {rs : Ty} {p : den rs → Prop} : ∀ fx env, LB P X O w0 rs p (xj X (.data rs) fx env) → ∀ a w, Sim P (X.at fx) ((Cx.base O w0).stk P [] [] [] none none) env a w → ∃ v, (results fx.fn a.tmps).run P w = .ok v w ∧ cG P O w0 rs p (.returned v) w := by
 intro fx env h a w hS
 obtain ⟨⟨G, hb, hC, hM, hgl, hs⟩, hfl, hsz, hdf⟩ := tP fx.fn.results.toList hS
 exact (zZ (hX.at fx) (Oo h) ⟨⟨G, hb, ⟨hC.O, hC.w0, hC.own, trivial⟩, hM, hgl, hs⟩, hfl, hsz, hdf⟩).2
theorem CK {D : aK} {c : Cx} {env : Env} {a : Act} {w : World} {J : Gst → World → Prop} {jx : ∀ G w G' w', G.Ext w G' w' → J G w → J G' w'} (hS : Sim P D ⟨c.O, c.own, c.w0, J, jx, []⟩ env a w) : Sim P D (c.stk P [] [] a.defers none none) env a w := by
 obtain ⟨⟨G, hb, hC, hM, hgl, hs⟩, hfl, hsz, hdf⟩ := hS
 have hdf : a.defers = [] := hdf
 rw [hdf]
 exact ⟨⟨G, hb, ⟨hC.O, hC.w0, hC.own, trivial, ⟨[], rfl, List.nodup_nil, fun _ h => by cases h⟩, rfl⟩, hM, hgl, hs⟩, hfl, hsz, hdf⟩
theorem qa {c : Cx} {R0 : Ending → World → Prop} {fx : Fx} {f : FuncId} {args : Array Value} {env : Env} (hro : fx.ro = none) (hf : P.funcs[f]? = some fx.fn) (hb : fx.fn.body.isSome = true) (hg : bG P X c R0 [] fx (aA fx.fn) env)
    (hS : Sim P (X.at fx) (c.stk P [] [] [] none none) env { tmps := args ++ Array.replicate (fx.fn.ntmps - args.size) undef, defers := [] } w) : Calls P f args w R0 := by
  obtain ⟨cd, hbody⟩ := Option.isSome_iff_exists.1 hb
  intro cs
  let b : Frame := { (default : Frame) with fn := f, kind := .normal }
  have henter : Frame.enter P f args .normal = b.atR { tmps := args ++ Array.replicate (fx.fn.ntmps - args.size) undef, defers := [] } (aA fx.fn) := by
    simp [Frame.enter, Frame.atR, hf, hbody, b, aA]
    rfl
  obtain ⟨v, w', fr, h1, h2, h3, h4⟩ := hg [] b { tmps := args ++ Array.replicate (fx.fn.ntmps - args.size) undef, defers := [] } w rfl (fun _ => hf) (by rw [hro]; exact hS) cs
  rw [← henter] at h2
  exact ⟨.returned v, w', fr, h1, h2, h3, h4⟩
theorem aM (hX : XOk P X) {O : Nat → Prop} {w0 : World} {rs : Ty} {p : den rs → Prop} {n : Nat} {stk : List cr} {fx : Fx} {todo : List Item} {env : Env} {T : af} (heq : aj X (.data rs) n stk fx todo env = T) (h : LB P X O w0 rs p T) : bG P X (Cx.base O w0) (cG P O w0 rs p) stk fx todo env :=
 bl hX (Jj hX) n stk fx todo env (by rw [heq]; exact h)
theorem bL (hX : XOk P X) {fx : Fx} {f : FuncId} {S : bq} (hf : P.funcs[f]? = some fx.fn) (hb : (fx.fn.body.isSome && !(fx.fn.name == "runtime.NumGoroutine") && decide (lF S.as ≤ fx.fn.ntmps) && fx.ro.isNone) = true) (hall : S.tot = true → ∀ x, S.pre x) {n : Nat} {T : den S.as → af}
    (heq : ∀ x, aj X (.data S.rs) n [] fx (aA fx.fn) (Env.of (aF S.as x 0) []) = T x) (h : ∀ (O : Nat → Prop) (w0 : World) (x : den S.as), okT S.as x → S.pre x → LB P X O w0 S.rs (fun y => y = S.g x) (T x)) : ap P X.D.G f S := by
  simp only [Bool.and_eq_true, Bool.not_eq_true', decide_eq_true_eq] at hb
  obtain ⟨⟨⟨h1, h2⟩, h3⟩, h4⟩ := hb
  have hro : fx.ro = none := by simpa using h4
  refine ⟨kY hf h1 h2, hall, fun O w vs x hO hg hx hp => ?_⟩
  have hg1 : bG P X (Cx.base O w) (cG P O w S.rs fun y => y = S.g x) [] fx (aA fx.fn) (Env.of (aF S.as x 0) []) := aM hX (heq x) (h O w x (ut hx) hp)
  have hS := Ai (D := X.at fx) hO hg hx h3
  refine Calls.mono (qa (c := Cx.base O w) hro hf h1 hg1 (CK (c := Cx.base O w) hS)) fun e w' he => ?_
  obtain ⟨v, y, e1, e2, e3, e4⟩ := he
  exact ⟨v, e1, e2, by rw [← e4]; exact e3⟩
theorem Jv (hX : XOk P X) {O : Nat → Prop} {w0 : World} {e : Ty} {xs : List (den e)} : ∀ fx env, bh P X (Cx.base O w0) (Ba P O w0 e xs) (fun k => k = .clip e xs) (xj X .clp fx env) → ∀ a w, Sim P (X.at fx) ((Cx.base O w0).stk P [] [] [] none none) env a w →
    ∃ v, (results fx.fn a.tmps).run P w = .ok v w ∧ Ba P O w0 e xs (.returned v) w := by
  intro fx env h a w hS
  obtain ⟨⟨G, hb, hC, hM, hgl, hs⟩, hfl, hsz, hdf⟩ := hS
  have h : bh P X (Cx.base O w0) (Ba P O w0 e xs) (fun k => k = .clip e xs) (EV fx.fn env) := h
  unfold EV at h
  split at h
  · rename_i t ht
    have hres : (results fx.fn a.tmps).run P w = .ok (tmF a t) w := by
      rw [kg]
      have : (fx.fn.results.mapM (l7 a)).run P w = Result.ok #[tmF a t] w := by
        rw [Array.mapM_eq_mapM_toList, ht]
        simp [l7, tmF]
      simp only [Sem.run_bind, this, Result.andThen_ok]
      rfl
    refine ⟨_, hres, ?_⟩
    split at h
    · rename_i e' xs' hk
      have h : K.clip e' xs' = .clip e xs := h
      injection h with h1 h2
      subst h1
      have h2 := eq_of_heq h2
      subst h2
      have hkv := hs t
      rw [hk] at hkv
      obtain ⟨hv, hcap⟩ := hkv
      have hw0 : G.w0 = w0 := hC.w0
      have hown : G.own = fun _ => False := hC.own
      have hkept : Kept w0 w := by
        rw [← hw0]
        have := hM.kept
        exact ⟨this.os, this.tape, this.output, this.size, fun b hb => this.block b hb (by rw [hown]; exact id)⟩
      exact ⟨_, rfl, hkept, aB.lat (qt hC.O.1 w) hv, hcap⟩
    · exact h.elim
  · exact h.elim
theorem Qg (hX : XOk P X) (hG : X.D.G = []) {fx : Fx} {f : FuncId} {e : Ty} (hf : P.funcs[f]? = some fx.fn) (hb : (fx.fn.body.isSome && !(fx.fn.name == "runtime.NumGoroutine") && decide (1 ≤ fx.fn.ntmps) && fx.ro.isNone) = true) {n : Nat} {T : List (den e) → af}
    (heq : ∀ xs, aj X .clp n [] fx (aA fx.fn) (Env.of (aF (.pair (.slc e) .unit) (xs, ()) 0) []) = T xs) (h : ∀ (O : Nat → Prop) (w0 : World) (xs : List (den e)), xs.length ≤ maxLen → bh P X (Cx.base O w0) (Ba P O w0 e xs) (fun k => k = .clip e xs) (T xs)) : uU P f e := by
  simp only [Bool.and_eq_true, Bool.not_eq_true', decide_eq_true_eq] at hb
  obtain ⟨⟨⟨h1, h2⟩, h3⟩, h4⟩ := hb
  have hro : fx.ro = none := by simpa using h4
  refine ⟨kY hf h1 h2, fun O w v xs hO hx => ?_⟩
  have hR : Rep P (.pair (.slc e) .unit) .chain O w [v] (xs, ()) := by
    obtain ⟨cs, ee, r⟩ := hx
    exact ⟨[], cs, by rw [ee], r, rfl⟩
  have hg1 : bG P X (Cx.base O w) (Ba P O w e xs) [] fx (aA fx.fn) (Env.of (aF (.pair (.slc e) .unit) (xs, ()) 0) []) :=
    bl hX (Jv hX) n [] fx (aA fx.fn) _ (by rw [heq]; exact h O w xs (ut hR).1.1)
  have hS := Ai (D := X.at fx) hO (by rw [show (X.at fx).G = [] from hG]; exact fun _ _ _ h => by cases h) hR h3
  exact qa (c := Cx.base O w) hro hf h1 hg1 (CK (c := Cx.base O w) hS)
def uM (P : Program) (O : Nat → Prop) (w : World) (bk : Option Nat) (e : Ty) (xs : List (den e)) (en : Ending) (w' : World) : Prop :=
 ∃ v' G' i, en = .returned v' ∧ MemOk P G' w' ∧ G'.O = O ∧ G'.w0 = w ∧ (G'.own = fun g => bk = some g) ∧ G'.b i = .live (.row e xs) ∧ G'.hd i = v'
theorem Cj {G : Gst} (hM : MemOk P G w) {O : Nat → Prop} (hO : ∀ g, O g → G.O g) {e : Ty} {xs : List (den e)} {val : Value} {bk : Option Nat} (hbk : ∀ g, bk = some g → ∃ i x, G.b i = .live x ∧ G.bk i = some g)
    (h : (∃ a', xs = [] ∧ bk = none ∧ val = .slice a' 0 0) ∨ ∃ g arr eid off sp', bk = some g ∧ val = .slice (some ⟨g, off, none⟩) xs.length (xs ++ sp').length ∧ G.nb g ∧ RowObj e w.heap[g]? arr eid ∧
      (xs ++ sp').length ≤ maxLen ∧ off + (xs ++ sp').length * siz e ≤ arr.size ∧ RepAll (Rep P e .cells G.av w) (siz e) ((arr.toList.drop off).take ((xs ++ sp').length * siz e)) (xs ++ sp')) :
    ∃ G' : Gst, MemOk P G' w ∧ G'.O = O ∧ G'.w0 = G.w0 ∧ G'.own = G.own ∧ G'.b 0 = .live (.row e xs) ∧ G'.hd 0 = val := by
  let G' : Gst := { hd := fun _ => val, bk := fun n => if n = 0 then bk else none, b := fun n => if n = 0 then .live (.row e xs) else .no, O := O, w0 := G.w0, own := G.own }
  have hav : ∀ g, G'.av g → G.av g := by
    rintro g (h | ⟨i, z, h1, h2⟩)
    · exact .inl (hO g h)
    · by_cases e : i = 0
      · subst e
        obtain ⟨i', x', h3, h4⟩ := hbk g h2
        exact .inr ⟨i', x', h3, h4⟩
      · simp [G', e] at h1
  have hlat : Lat G.av w G'.av w := ⟨Nat.le_refl _, fun b _ h => ⟨rfl, fun h' => h (hav b h')⟩⟩
  refine ⟨G', ⟨hM.kept, fun g h => hM.old g (hO g h), fun g h => ⟨fun h' => (hM.dis g h).1 (hO g h'), (hM.dis g h).2⟩, fun i z hi => ?_, fun i j y z g hi hj _ _ => ?_, fun i z g hi ki => ?_⟩, rfl, rfl, rfl, rfl, rfl⟩
  rotate_right
  · by_cases e : i = 0
    · subst e
      obtain ⟨i', x', h3, h4⟩ := hbk g ki
      exact fun h => hM.boxO i' x' g h3 h4 (hO g h)
    · simp [G', e] at hi
  · by_cases e : i = 0
    · subst e
      have : z = .row _ xs := by simpa [G'] using hi.symm
      subst this
      rcases h with ⟨a', h1, h2, h3⟩ | ⟨g, arr, eid, off, sp', h1, h2, h3, h4, h5, h6, h7⟩
      · exact .inl ⟨h1, h2, a', h3⟩
      · exact .inr ⟨g, arr, eid, off, sp', h1, h2, h3, h4, h5, h6, h7.imp fun _ _ r => r.lat hlat⟩
    · simp [G', e] at hi
  · by_cases e : i = 0
    · by_cases f : j = 0
      · rw [e, f]
      · simp [G', f] at hj
    · simp [G', e] at hi
abbrev rcx (O : Nat → Prop) (w : World) (bk : Option Nat) : Cx := ⟨O, fun g => bk = some g, w, fun _ _ => True, fun _ _ _ _ _ _ => trivial, []⟩
def ZR (e : Ty) (xs : List (den e)) (k : K) : Prop := k = .val (.slc e) xs
theorem LH (hX : XOk P X) {O : Nat → Prop} {w0 : World} {bk : Option Nat} {e : Ty} {xs : List (den e)} : ∀ fx env, bh P X (rcx O w0 bk) (uM P O w0 bk e xs) (ZR e xs) (xj X (.row e) fx env) → ∀ a w, Sim P (X.at fx) ((rcx O w0 bk).stk P [] [] [] none none) env a w →
    ∃ v, (results fx.fn a.tmps).run P w = .ok v w ∧ uM P O w0 bk e xs (.returned v) w := by
  intro fx env h a w hS
  obtain ⟨⟨G, hb, hC, hM, hgl, hs⟩, hfl, hsz, hdf⟩ := hS
  have h : bh P X (rcx O w0 bk) (uM P O w0 bk e xs) (ZR e xs) (Is e fx.fn env) := h
  unfold Is at h
  split at h
  · rename_i t ht
    have hres : (results fx.fn a.tmps).run P w = .ok (tmF a t) w := by
      rw [kg]
      have : (fx.fn.results.mapM (l7 a)).run P w = Result.ok #[tmF a t] w := by
        rw [Array.mapM_eq_mapM_toList, ht]
        simp [l7, tmF]
      simp only [Sem.run_bind, this, Result.andThen_ok]
      rfl
    refine ⟨_, hres, ?_⟩
    have fin : ∀ {G' : Gst} {ys : List (den e)}, ys = xs → MemOk P G' w → G'.O = O → G'.w0 = G.w0 → G'.own = G.own → G'.b 0 = .live (.row e ys) → G'.hd 0 = tmF a t → uM P O w0 bk e xs (.returned (tmF a t)) w := by
      intro G' ys ey h1 h2 h3 h4 h5 h6
      exact ⟨_, G', 0, rfl, h1, h2, h3.trans hC.w0, h4.trans hC.own, by rw [← ey]; exact h5, h6⟩
    split at h
    · rename_i hk
      have hkv := hs t
      rw [hk] at hkv
      have hkv : tmF a t = .slice none 0 0 := hkv
      obtain ⟨G', h1, h2, h3, h4, h5, h6⟩ := Cj (O := O) (hO := hC.O.1) (bk := none) (e := e) (xs := []) (val := tmF a t) hM (fun g h => by cases h) (.inl ⟨none, rfl, rfl, hkv⟩)
      have h : K.val (.slc e) [] = .val (.slc e) xs := h
      injection h with _ h
      exact fin h h1 h2 h3 h4 h5 h6
    · split at h
      · rename_i v hv
        obtain ⟨hok, h⟩ := h
        rw [← hb] at hv
        obtain ⟨n0, sp, hvo⟩ := jJ hM (hs t) hv
        obtain ⟨bx, hlive⟩ := hvo.row.live
        have h : K.val (.slc e) v.part = .val (.slc e) xs := h
        injection h with _ h
        rcases IE hvo hok with ⟨a', e1, e2⟩ | ⟨g, arr, eid, off, sp', q1, q⟩
        · obtain ⟨G', h1, h2, h3, h4, h5, h6⟩ := Cj (O := O) (hO := hC.O.1) (bk := none) (e := e) (xs := v.part) (val := tmF a t) hM (fun g h => by cases h) (.inl ⟨a', e1, rfl, e2⟩)
          exact fin h h1 h2 h3 h4 h5 h6
        · obtain ⟨G', h1, h2, h3, h4, h5, h6⟩ := Cj (O := O) (hO := hC.O.1) (bk := some g) (e := e) (xs := v.part) (val := tmF a t) hM (fun g' h => by cases h; exact ⟨_, _, hlive, q1⟩) (.inr ⟨g, arr, eid, off, sp', rfl, q⟩)
          exact fin h h1 h2 h3 h4 h5 h6
      · exact h.elim
  · exact h.elim
abbrev OE (P : Program) (X : a8) (O : Nat → Prop) (w0 : World) (bk : Option Nat) (e : Ty) (xs : List (den e)) := bh P X (rcx O w0 bk) (uM P O w0 bk e xs) (ZR e xs)
theorem lS (hX : XOk P X) {O : Nat → Prop} {w0 : World} {bk : Option Nat} {e : Ty} {xs : List (den e)} {n : Nat} {stk : List cr} {fx : Fx} {todo : List Item} {env : Env} {T : af} (heq : aj X (.row e) n stk fx todo env = T) (h : OE P X O w0 bk e xs T) : bG P X (rcx O w0 bk) (uM P O w0 bk e xs) stk fx todo env :=
 bl hX (LH hX) n stk fx todo env (by rw [heq]; exact h)
def xe (S : d6) (xs : List (den S.e)) (y : den S.as) : Env :=
 if S.arg then Env.of ((0, .sl 0 S.e) :: aF S.as y 1) [(0, .row S.e xs)] else Env.of (aF S.as y 0) []
theorem Fv (hX : XOk P X) {fx : Fx} {f : FuncId} {S : d6} (hret : S.ret = true) (hf : P.funcs[f]? = some fx.fn) (hb : (fx.fn.body.isSome && !(fx.fn.name == "runtime.NumGoroutine") && decide (lF S.as + 1 ≤ fx.fn.ntmps) && fx.ro.isNone) = true) {n : Nat} {T : List (den S.e) → den S.as → af}
    (heq : ∀ xs y, (S.arg = false → xs = []) → aj X (.row S.e) n [] fx (aA fx.fn) (xe S xs y) = T xs y) (h : ∀ (O : Nat → Prop) (w0 : World) (bk : Option Nat) (xs : List (den S.e)) (y : den S.as), xs.length ≤ maxLen → okT S.as y → S.pre xs y → OE P X O w0 bk S.e (S.g xs y) (T xs y)) : mB P X.D.G f S := by
  simp only [Bool.and_eq_true, Bool.not_eq_true', decide_eq_true_eq] at hb
  obtain ⟨⟨⟨h1, h2⟩, h3⟩, h4⟩ := hb
  have hro : fx.ro = none := by simpa using h4
  refine ⟨kY hf h1 h2, hret, fun O w hv bk xs vs y harg hM hgl hx hp => ?_⟩
  have hxl : xs.length ≤ maxLen := by
    cases ha : S.arg with
    | false => rw [(harg ha).1]; exact Nat.zero_le _
    | true =>
      rw [ha] at hM
      obtain ⟨_, _, _, h5, h6⟩ := DG hM (id := 0) (e := S.e) (xs := xs) (by simp [rowG])
      exact Nat.le_trans h5 h6
  have hg1 : bG P X (rcx O w bk) (uM P O w bk S.e (S.g xs y)) [] fx (aA fx.fn) (xe S xs y) :=
    lS hX (heq xs y (fun h => (harg h).1)) (h O w bk xs y hxl (ut hx) hp)
  obtain ⟨c, hbody⟩ := Option.isSome_iff_exists.1 h1
  let args := ((if S.arg then [hv] else []) ++ vs).toArray
  let G := rowG O w hv bk (if S.arg then .live (.row S.e xs) else .no)
  have hvl : vs.length = lF S.as := (mm 0 hx).1
  have hsz : args.size ≤ fx.fn.ntmps := by simp only [args]; split <;> simp <;> omega
  have hS : Sim P (X.at fx) (rcx O w bk) (xe S xs y) { tmps := args ++ Array.replicate (fx.fn.ntmps - args.size) undef, defers := [] } w := by
    have tmv : ∀ m v, args[m]? = some v → tmF { tmps := args ++ Array.replicate (fx.fn.ntmps - args.size) undef, defers := [] } m = v := fun m v hm => by
      unfold tmF
      have hlt : m < args.size := (Array.getElem?_eq_some_iff.1 hm).1
      rw [Array.getD_eq_getD_getElem?, Array.getElem?_append, if_pos hlt, hm]
      rfl
    have slot : ∀ (i : Nat) (hi : ∀ j, vs[j]? = args[j + i]?) m k, (aF S.as y i).lookup m = some k → KV P G w (tmF { tmps := args ++ Array.replicate (fx.fn.ntmps - args.size) undef, defers := [] }) k (tmF { tmps := args ++ Array.replicate (fx.fn.ntmps - args.size) undef, defers := [] } m) ∧ flat k = true := by
      intro i hi m k hk
      obtain ⟨q0, q1, t', z, q2, q3⟩ := (mm i hx).2 m k hk
      refine ⟨?_, q1⟩
      subst q2
      have hlt : m - i < vs.length := by
        have := (mm (P := P) i hx).2 m _ hk
        have hh : ∀ (t : Ty) (x : den t) (i m : Nat) (k : K), (aF t x i).lookup m = some k → m < i + lF t := by
          intro t
          induction t with
          | pair p b _ ih =>
            intro x i m k hl
            have hl : List.lookup m ((i, asK p x.1) :: aF b x.2 (i + 1)) = some k := hl
            rw [List.lookup_cons] at hl
            split at hl
            · rename_i e
              have e : m = i := by simpa using e
              simp only [lF]; omega
            · have := ih x.2 (i + 1) m k hl
              simp only [lF]; omega
          | _ => intro x i m k hl; cases hl
        have := hh S.as y i m _ hk
        omega
      have hv' : args[m]? = some (vs.getD (m - i) undef) := by
        have := hi (m - i)
        rw [show m - i + i = m by omega] at this
        rw [← this, List.getD_eq_getElem?_getD, List.getElem?_eq_getElem hlt]
        rfl
      rw [tmv m _ hv']
      exact MC q3
    refine ⟨⟨G, ?_, ⟨⟨fun _ h => h, fun _ h => .inl h⟩, rfl, rfl, trivial⟩, hM, hgl, fun m => ?_⟩, fun m => ?_, by simp [a8.at]; omega, rfl⟩
    · unfold xe
      cases ha : S.arg
      · funext m
        show (if m = 0 then (if S.arg = true then BS.live _ else .no) else .no) = BS.no
        rw [ha]; split <;> rfl
      · funext m
        show (if m = 0 then (if S.arg = true then BS.live _ else .no) else .no) = ofB [(0, .row S.e xs)] m
        rw [ha]
        unfold ofB
        rw [List.lookup_cons]
        by_cases e : m = 0
        · simp [e]
        · have e' : (m == 0) = false := by simpa using e
          simp [e, e']
    · unfold xe
      cases ha : S.arg
      · show KV P G w _ (ofS (aF S.as y 0) m) _
        unfold ofS
        split
        · rename_i k hk
          exact (slot 0 (fun j => by simp [args, ha]) m k hk).1
        · trivial
      · show KV P G w _ (ofS ((0, .sl 0 S.e) :: aF S.as y 1) m) _
        unfold ofS
        rw [List.lookup_cons]
        by_cases e : m = 0
        · subst e
          simp only [beq_self_eq_true]
          rw [tmv 0 hv (by simp [args, ha])]
          exact ⟨⟨.row S.e xs, .inl (by simp [G, rowG, ha])⟩, rfl⟩
        · have e' : (m == 0) = false := by simpa using e
          simp only [e']
          split
          · rename_i k hk
            exact (slot 1 (fun j => by simp [args, ha]) m k hk).1
          · trivial
    · unfold xe
      cases ha : S.arg
      · show flat (ofS (aF S.as y 0) m) = true
        unfold ofS
        split
        · rename_i k hk
          exact ((mm 0 hx).2 m k hk).2.1
        · rfl
      · show flat (ofS ((0, .sl 0 S.e) :: aF S.as y 1) m) = true
        unfold ofS
        rw [List.lookup_cons]
        by_cases e : m = 0
        · subst e; rfl
        · have e' : (m == 0) = false := by simpa using e
          simp only [e']
          split
          · rename_i k hk
            exact ((mm 1 hx).2 m k hk).2.1
          · rfl
  exact qa (c := rcx O w bk) hro hf h1 hg1 (CK (c := rcx O w bk) hS)
theorem J0 {Gl : gQ} {f : FuncId} {S : d6} (h : mB P Gl f S) (ha : S.arg = false) : ap P Gl f ⟨S.as, .pair (.slc S.e) .unit, fun y => (S.g [] y, ()), fun y => S.pre [] y, false⟩ := by
 refine ⟨h.can, (fun e => by cases e), fun O w vs x hO hgl hx hp => ?_⟩
 have hlat : Lat O w (rowG O w undef none (if S.arg = true then .live (.row S.e []) else .no)).av w := ⟨Nat.le_refl _, fun g _ hg => ⟨rfl, fun h => h.elim hg fun ⟨i, x, h, _⟩ => by
  rw [ha] at h
  by_cases e : i = 0 <;> simp [rowG, e] at h⟩⟩
 have hM : MemOk P (rowG O w undef none (if S.arg = true then .live (.row S.e []) else .no)) w := by
  rw [ha]
  refine ⟨(Kept.refl w).x _, hO, (fun _ h => by cases h), fun i x h => ?_, fun i _ x _ _ h => ?_, fun i x _ h => ?_⟩
  all_goals
   exfalso
   by_cases e : i = 0 <;> simp [rowG, e] at h
 have := h.does O w undef none [] vs x (fun _ => ⟨rfl, rfl⟩) hM (hgl.lat hlat) (hx.lat hlat) hp
 rw [ha] at this
 refine Calls.mono this fun e w' he => ?_
 obtain ⟨v', G', i, e1, hM', eO, e0, eown, eb, eh⟩ := he
 have hv := mq hM' eb
 rw [eh] at hv
 obtain ⟨cs, ev, hr⟩ := aB.lat (qt (G := G'.drop i) (O := O) (fun g hg => by show G'.O g; rw [eO]; exact hg) w') hv
 have hk := hM'.kept
 rw [e0, eown] at hk
 exact ⟨v', e1, ⟨hk.os, hk.tape, hk.output, hk.size, fun b hb => hk.block b hb (by simp)⟩, [], cs, by rw [ev]; rfl, hr, rfl⟩
def o0 (P : Program) (Gl : gQ) (R : List (Nat × d6)) : Prop := ∀ f S, R.lookup f = some S → ROk P Gl f S
def Dj (P : Program) (R : List (Nat × Fx)) : Prop := ∀ f fx, R.lookup f = some fx → P.funcs[f]? = some fx.fn ∧ fx.fn.body.isSome = true ∧ gx P f ∧ fx.ro = none
def H9 (P : Program) (D : aK) (R : List Nat) : Prop := ∀ f, R.contains f = true → LA P D f
theorem aN {Gl : gQ} : o0 P Gl [] := fun _ _ h => by cases h
theorem H1 {Gl : gQ} {R : List (Nat × d6)} {f : Nat} {S : d6} (h : ROk P Gl f S) (hr : o0 P Gl R) : o0 P Gl ((f, S) :: R) := fun g S' hl => by
 rw [List.lookup_cons] at hl
 split at hl
 ·rename_i e
  have e : g = f := by simpa using e
  have e' := Option.some.inj hl
  subst e; subst e'
  exact h
 ·exact hr g S' hl
theorem Ht {Gl : gQ} {R : List (Nat × d6)} {f : Nat} {S : d6} (h : mB P Gl f S) (hr : o0 P Gl R) : o0 P Gl ((f, S) :: R) := H1 (.inl h) hr
theorem Og {Gl : gQ} {R : List (Nat × d6)} {f : Nat} {S : d6} (h : sm P Gl f S) (hr : o0 P Gl R) : o0 P Gl ((f, S) :: R) := H1 (.inr h) hr
theorem aW : Dj P [] := fun _ _ h => by cases h
theorem gX {R : List (Nat × Fx)} {f : Nat} {fx : Fx} (hf : P.funcs[f]? = some fx.fn) (hb : (fx.fn.body.isSome && !(fx.fn.name == "runtime.NumGoroutine") && fx.ro.isNone) = true) (hr : Dj P R) : Dj P ((f, fx) :: R) := fun g fx' hl => by
 rw [List.lookup_cons] at hl
 simp only [Bool.and_eq_true, Bool.not_eq_true'] at hb
 split at hl
 ·rename_i e
  have e : g = f := by simpa using e
  have e' := Option.some.inj hl
  subst e; subst e'
  exact ⟨hf, hb.1.1, kY hf hb.1.1 hb.1.2, by simpa using hb.2⟩
 ·exact hr g fx' hl
theorem aV {D : aK} : H9 P D [] := fun _ h => by simp at h
theorem O9 {P : Program} {f : Nat} {e : Ty} (h : uU P f e) : ∀ g e', List.lookup g [(f, e)] = some e' → uU P g e' := fun g e' hg => by
 unfold List.lookup at hg
 split at hg
 ·rename_i hq
  have e1 := Option.some.inj hg
  subst e1
  rw [eq_of_beq hq]; exact h
 ·cases hg
theorem Qp {T : List (Nat × Ty)} {F : List (Nat × bq)} {G : gQ} {R : List (Nat × d6)} {inl : List (Nat × Fx)} {ovl : List Nat} {clp : List (Nat × Ty)} (hD : DOk P { T, F, G }) (hh : dX { T, F, G } = true) (h1 : o0 P G R) (h2 : Dj P inl) (h3 : H9 P { T, F, G } ovl) (h4 : ∀ f e, clp.lookup f = some e → uU P f e) : XOk P { D := { T, F, G, R, ovl, clp }, inl } := ⟨⟨⟨hD.tab, hD.fns, hD.mixed⟩, h1, h3, h4⟩, hh, h2⟩
theorem xok {T : List (Nat × Ty)} {F : List (Nat × bq)} {G : gQ} {R : List (Nat × d6)} {inl : List (Nat × Fx)} {ovl : List Nat} (hD : DOk P { T, F, G }) (hh : dX { T, F, G } = true) (h1 : o0 P G R) (h2 : Dj P inl) (h3 : H9 P { T, F, G } ovl) : XOk P { D := { T, F, G, R, ovl }, inl } := ⟨⟨⟨hD.tab, hD.fns, hD.mixed⟩, h1, h3, fun _ _ h => by cases h⟩, hh, h2⟩
end
end Go.Proofs.Ytimdnodkabnbfaa
namespace Go.Proofs.Ytimdnodkabnbfaa
open Go Go.RowKit Go.ChangeShapes Go.WideShapes Go.ChangeAt
def tQ : Ty → Bool
 | .int _ => true
 | .bool => true
 | .str => true
 | .unit => true
 | .pair a b => tQ a && tQ b
 | .st b => tQ b
 | .arr _ e => tQ e
 | .slc e => tQ e
 | _ => false
section
variable {H : Type} {enc : TypeId × Value → H} {P : Program} {w : World} {spare : Nat → Bool} {held : Bool} {O : Nat → Prop}
theorem MJ {T : Nat → Option Ty} {t : TypeId} {τ : Ty} (h : Fit P T t τ) : P.cellsOf t = siz τ := by
 obtain ⟨i, z, hi, hs, _⟩ := h.info
 unfold Program.cellsOf
 rw [hi]; exact hs
theorem M5 {k : IntKind} {n : Int} (h : (Lit.int k n).wf = true) : InK k n := by
 simpa [Lit.wf, InK] using h
def Hd (P : Program) (w : World) (t : TypeId) (τ : Ty) (cs : List Value) : Prop := ∃ y : den τ, Rep P τ .cells (fun _ => False) w cs y
theorem Ec {T : Nat → Option Ty} {G : TypeId → List Value → Prop} (hT : ∀ i a, T i = some a → P.cellsOf i = siz a) (ih : ∀ i a cs, T i = some a → tQ a = true → G i cs → Hd P w i a cs) : ∀ (fs : List Field) (b : Ty) (off : Nat) (cs : List Value), dF T fs b off = true → tQ b = true →
    (∀ f ∈ fs, G f.type ((cs.drop f.offset).take (P.cellsOf f.type))) → cs.length = off + siz b → ∃ y : den b, Rep P b .cells (fun _ => False) w (cs.drop off) y
  | [], b, off, cs, h, hd, _, hl => by
    cases b <;> simp only [dF] at h <;> try cases h
    exact ⟨(), by show cs.drop off = []; rw [List.drop_eq_nil_iff]; simp [siz] at hl; omega⟩
  | f :: fs, b, off, cs, h, hd, hf, hl => by
    cases b with
    | pair a b =>
      simp only [dF, Bool.and_eq_true, beq_iff_eq, decide_eq_true_eq] at h
      obtain ⟨⟨⟨⟨h1, h2⟩, _⟩, h4⟩, h5⟩ := h
      simp only [tQ, Bool.and_eq_true] at hd
      have h0 := hf f (List.mem_cons_self ..)
      rw [h1, hT _ _ h2] at h0
      obtain ⟨x, hx⟩ := ih _ _ _ h2 hd.1 h0
      obtain ⟨y, hy⟩ := Ec hT ih fs b (off + siz a) cs h5 hd.2 (fun g hg => hf g (List.mem_cons_of_mem _ hg)) (by simp only [siz] at hl; omega)
      exact ⟨(x, y), hx, by rw [List.drop_drop]; exact hy⟩
    | _ => simp only [dF] at h; cases h
theorem KK {e : TypeId} {te : Ty} {G : List Value → Prop} (ih : ∀ cs, G cs → Hd P w e te cs) (cs : List Value) : ∀ (m k : Nat), (∀ i, i < m → G ((cs.drop ((k + i) * siz te)).take (siz te))) →
    ∃ ys : List (den te), ys.length = m ∧ RepAll (fun cs x => Rep P te .cells (fun _ => False) w cs x) (siz te) ((cs.drop (k * siz te)).take (m * siz te)) ys
  | 0, k, _ => ⟨[], rfl, by simp [RepAll]⟩
  | m + 1, k, h => by
    obtain ⟨y, hy⟩ := ih _ (h 0 (by omega))
    obtain ⟨ys, hl, hys⟩ := KK ih cs m (k + 1) (fun i hi => by have := h (i + 1) (by omega); rwa [show k + (i + 1) = k + 1 + i by omega] at this)
    have e0 : (m + 1) * siz te = siz te + m * siz te := by rw [Nat.add_mul, Nat.one_mul, Nat.add_comm]
    have e1 : (k + 1) * siz te = siz te + k * siz te := by rw [Nat.add_mul, Nat.one_mul, Nat.add_comm]
    refine ⟨y :: ys, by simp [hl], ?_, ?_⟩
    · rw [List.take_take, Nat.min_eq_left (by omega)]; exact hy
    · rw [List.drop_take, List.drop_drop, e0, Nat.add_sub_cancel_left, Nat.add_comm (k * siz te), ← e1]; exact hys
theorem KH {e : TypeId} {te : Ty} {G : List Value → Prop} {a : Addr} (ih : ∀ cs, G cs → Hd P w e te cs) (hs : a.spot = none) : ∀ (m k : Nat), (∀ i, i < m → ∃ cs, w.cells? 0 (a.add ((k + i) * siz te)) (siz te) = some cs ∧ G cs) →
    ∃ (L : List Value) (ys : List (den te)), ys.length = m ∧ L.length = m * siz te ∧ RepAll (fun cs x => Rep P te .cells (fun _ => False) w cs x) (siz te) L ys ∧ ∀ j u, L[j]? = some u → w.cell? (a.add (k * siz te + j)) = some u
  | 0, k, _ => ⟨[], [], rfl, by simp, rfl, fun j u h => by simp at h⟩
  | m + 1, k, h => by
    obtain ⟨cs, hc, hG⟩ := h 0 (by omega)
    obtain ⟨y, hy⟩ := ih _ hG
    obtain ⟨L, ys, h1, h2, h3, h4⟩ := KH ih hs m (k + 1) (fun i hi => by have := h (i + 1) (by omega); rwa [show k + (i + 1) = k + 1 + i by omega] at this)
    unfold World.cells? at hc
    rw [if_pos (Nat.zero_le _)] at hc
    have hl : cs.length = siz te := by have := mapM_some_length hc; simpa using this
    have e0 : (m + 1) * siz te = siz te + m * siz te := by rw [Nat.add_mul, Nat.one_mul, Nat.add_comm]
    have e1 : (k + 1) * siz te = siz te + k * siz te := by rw [Nat.add_mul, Nat.one_mul, Nat.add_comm]
    refine ⟨cs ++ L, y :: ys, by simp [h1], by rw [List.length_append, hl, h2, e0], ⟨by rw [List.take_left' hl]; exact hy, by rw [List.drop_left' hl]; exact h3⟩, fun j u hj => ?_⟩
    rw [List.getElem?_append] at hj
    split at hj
    · rename_i hlt
      have := mapM_some_get hc j j (by rw [List.getElem?_range (by omega)])
      rw [Nat.add_zero, vY _ _ _ hs] at this
      rw [this]; exact hj
    · rename_i hge
      have := h4 (j - cs.length) u hj
      rw [e1] at this
      rw [← this]; congr 2; omega
theorem qd {T : List (Nat × Ty)} (htab : AE P T = true) : ∀ (n : Nat) (t : TypeId) (τ : Ty) (cs : List Value) (x : DataW H × List MemPlace), T.lookup t = some τ → tQ τ = true → DataW.trod enc P w 0 spare held n t cs = some x → Hd P w t τ cs
  | 0, t, τ, cs, x, hl, hd, h => by simp [DataW.trod] at h
  | n + 1, t, τ, cs, x, hl, hd, h => by
    have hf := mw htab hl
    have hT : ∀ i a, (fun i => T.lookup i) i = some a → P.cellsOf i = siz a := fun i a h => MJ (mw htab h)
    have hs := hf.shape
    cases τ with
    | int k =>
      obtain ⟨z, h1, _, h3⟩ := DataW.trod_int (fD hs) h
      exact ⟨z, h1, M5 h3⟩
    | bool =>
      obtain ⟨z, h1, _⟩ := DataW.trod_bool (sq hs) h
      exact ⟨z, h1⟩
    | str =>
      obtain ⟨z, h1, _, h3⟩ := DataW.trod_string (gg hs) h
      exact ⟨z, h1, h3⟩
    | st b =>
      obtain ⟨fs, hu, hfs, _⟩ := jd hs
      obtain ⟨xs, m, hm, _, h3, h4, h5⟩ := DataW.trod_struct hu h
      cases hm
      have hsz := hT t _ hl
      rw [hsz] at h3
      have := Ec (w := w) (G := fun i cs => ∃ x, DataW.trod enc P w 0 spare held n i cs = some x) hT (fun i a cs hi hd' ⟨x, hx⟩ => qd htab n i a cs x hi hd' hx) fs.toList b 0 cs hfs hd (fun f hf' => by
        obtain ⟨i, hi, he⟩ := List.getElem_of_mem hf'
        have hi' : i < fs.size := by simpa using hi
        have := h5 i f (by rw [Array.getElem?_eq_getElem hi']; simpa using he)
        rw [this, List.getElem?_eq_getElem (by omega)]
        exact ⟨_, rfl⟩) (by rw [h3]; simp [siz])
      obtain ⟨y, hy⟩ := this
      exact ⟨y, hy⟩
    | arr m te =>
      obtain ⟨e, hu, he, _⟩ := ja hs
      obtain ⟨xs, k, hm, _, h3, h4, h5⟩ := DataW.trod_array hu h
      cases hm
      have hse := hT e _ he
      obtain ⟨ys, hy1, hy2⟩ := KK (P := P) (w := w) (e := e) (te := te) (G := fun cs => ∃ x, DataW.trod enc P w 0 spare held n e cs = some x) (fun cs ⟨x, hx⟩ => qd htab n e te cs x he hd hx) cs m 0 (fun i hi => by
        have := h5 i hi
        rw [hse] at this
        rw [Nat.zero_add, this, List.getElem?_eq_getElem (by omega)]
        exact ⟨_, rfl⟩)
      have hlen : cs.length = m * siz te := by rw [h3, hT t _ hl]; rfl
      refine ⟨ys, hy1, ?_⟩
      rw [Nat.zero_mul, List.drop_zero, ← hlen, List.take_length] at hy2
      exact hy2
    | slc te =>
      obtain ⟨e, hu, he, h1⟩ := aY hs
      have hse := hT e _ he
      rcases DataW.trod_slice hu h with ⟨h2, _⟩ | ⟨a, len, cap, elems, rest, k, hm, h2, _, _, h5, h6, h7, h8, _⟩
      · exact ⟨[], none, 0, [], h2, Nat.le_refl _, Nat.zero_le _, by simp, rfl, fun h => absurd rfl h, fun _ => rfl⟩
      · cases hm
        have hG : ∀ i, i < len → ∃ cs, w.cells? 0 (a.add (i * siz te)) (siz te) = some cs ∧ ∃ x, DataW.trod enc P w 0 spare held n e cs = some x := fun i hi => by
          have := h8 i hi
          rw [hse, List.getElem?_eq_getElem (by omega)] at this
          obtain ⟨cs, hc, hx⟩ := Option.bind_eq_some_iff.1 this
          exact ⟨cs, hc, _, hx⟩
        by_cases h0 : len = 0
        · subst h0
          exact ⟨[], some a, cap, [], h2, Nat.zero_le _, h6, by simp, rfl, fun h => absurd rfl h, fun h => by cases h⟩
        · have hsp : a.spot = none ∧ a.block < w.heap.size := by
            obtain ⟨cs, hc, _⟩ := hG 0 (by omega)
            unfold World.cells? at hc
            rw [if_pos (Nat.zero_le _), Nat.zero_mul] at hc
            have hl0 : cs.length = siz te := by have := mapM_some_length hc; simpa using this
            have := mapM_some_get hc 0 0 (by rw [List.getElem?_range (by omega)])
            rw [List.getElem?_eq_getElem (by omega)] at this
            have ea : (a.add 0).add 0 = a := by simp [Addr.add]
            rw [ea] at this
            refine ⟨World.cell?_spot this, ?_⟩
            unfold World.cell? at this
            split at this
            · rename_i hh
              first
                | exact (Array.getElem?_eq_some_iff.1 hh).1
                | (obtain ⟨hh, _⟩ := Array.getElem?_eq_some_iff.1 hh; exact hh)
            · cases this
          obtain ⟨L, ys, g1, g2, g3, g4⟩ := KH (P := P) (w := w) (e := e) (te := te) (a := a) (G := fun cs => ∃ x, DataW.trod enc P w 0 spare held n e cs = some x) (fun cs ⟨x, hx⟩ => qd htab n e te cs x he hd hx) hsp.1 len 0 (fun i hi => by rw [Nat.zero_add]; exact hG i hi)
          refine ⟨ys, some a, cap, L, by rw [g1]; exact h2, by rw [g1]; exact h5, h6, by rw [g1]; exact g2, g3, fun _ => ⟨a, rfl, fun h => h, hsp.2, fun j u hj => ?_⟩, fun h => by cases h⟩
          have := g4 j u hj
          rwa [Nat.zero_mul, Nat.zero_add] at this
    | unit => exact absurd rfl (iQ hs).1
    | pair a b => exact absurd rfl ((iQ hs).2.1 a b)
    | fn _ _ => cases hd
    | ref _ => cases hd
    | mp _ _ => cases hd
    | clo _ _ => cases hd
end
section
variable {H : Type} {enc : TypeId × Value → H} {P : Program} {w : World}
theorem MR {T : List (Nat × Ty)} (htab : AE P T = true) {t : TypeId} {τ : Ty} (hl : T.lookup t = some τ) (hd : tQ τ = true) {r : Reach} {b : Nat} {v : Value} (h : Value.okWide P w r b t v) : v = az τ v.cells.toList := by
 have hf := mw htab hl
 have hs := hf.shape
 cases τ with
 | int k => obtain ⟨n, rfl⟩ := okWide_int (fD hs) h; rfl
 | bool => obtain ⟨n, rfl⟩ := okWide_bool (sq hs) h; rfl
 | str => obtain ⟨n, rfl⟩ := okWide_string (gg hs) h; rfl
 | slc e =>
  obtain ⟨e', hu, _⟩ := aY hs
  obtain ⟨a, l, c, rfl⟩ := okWide_slice hu h; rfl
 | st e =>
  obtain ⟨fs, hu, _⟩ := jd hs
  unfold Value.okWide at h
  rw [hu] at h
  obtain ⟨cs, rfl, _⟩ := h
  rfl
 | arr n e =>
  obtain ⟨e', hu, _⟩ := ja hs
  unfold Value.okWide at h
  rw [hu] at h
  obtain ⟨cs, rfl, _⟩ := h
  rfl
 | unit => exact absurd rfl (iQ hs).1
 | pair a b => exact absurd rfl ((iQ hs).2.1 a b)
 | fn _ _ => cases hd
 | ref _ => cases hd
 | mp _ _ => cases hd
 | clo _ _ => cases hd
def m7 (P : Program) (T : List (Nat × Ty)) : List TypeId → Ty → Bool
 | [], .unit => true
 | t :: ts, .pair a b => decide (T.lookup t = some a) && tQ a && P.readableRec t && decide (t < P.types.size) && m7 P T ts b
 | _, _ => false
theorem yL {T : List (Nat × Ty)} (htab : AE P T = true) {r : Reach} {b0 : Nat} {spare : Nat → Bool} {held : Bool} : ∀ (ts : List TypeId) (as : Ty) (vs : List Value) (ds : List (DataW H)) (ps : List MemPlace), m7 P T ts as = true → DataW.TrodAll enc P w 0 spare held ts vs ds ps →
    (∀ (j : Nat) (t : TypeId) (v : Value), ts[j]? = some t → vs[j]? = some v → Value.okWide P w r b0 t v) → ∃ x : den as, Rep P as .chain (fun _ => False) w vs x
  | [], as, vs, ds, ps, hc, h, _ => by
    cases as <;> simp only [m7] at hc <;> try cases hc
    cases vs with
    | nil => exact ⟨(), rfl⟩
    | cons _ _ => cases ds <;> exact h.elim
  | t :: ts, as, vs, ds, ps, hc, h, hv => by
    cases as with
    | pair a b =>
      simp only [m7, Bool.and_eq_true, decide_eq_true_eq] at hc
      obtain ⟨⟨⟨⟨h1, h2⟩, _⟩, _⟩, h3⟩ := hc
      obtain ⟨v, vs', d, ds', p, q, rfl, rfl, rfl, h4, h5⟩ := trodAll_cons h
      obtain ⟨n, hn⟩ := h4
      obtain ⟨y, hy⟩ := qd htab n t a _ _ h1 h2 hn
      obtain ⟨z, hz⟩ := yL htab ts b vs' ds' q h3 h5 (fun j t v hj hv' => hv (j + 1) t v hj hv')
      exact ⟨(y, z), vs', _, by rw [← MR htab h1 h2 (hv 0 t v rfl rfl)], hy, hz⟩
    | _ => simp only [m7] at hc; cases hc
theorem wO {T : List (Nat × Ty)} (hlo : laidOutB P = true) {W W' : World} (hb : Below W.heap.size W W') : ∀ (ts : List TypeId) (as : Ty) (vs : List Value) (ds : List (DataW H)) (ps : List MemPlace), m7 P T ts as = true → DataW.TrodAll enc P W 0 (fun _ => true) true ts vs ds ps →
    DataW.TrodAll enc P W' 0 (fun b => decide (b < W.heap.size)) true ts vs ds ps
  | [], as, vs, ds, ps, _, h => by
    cases vs <;> cases ds <;> exact h
  | t :: ts, as, vs, ds, ps, hc, h => by
    cases as with
    | pair a b =>
      simp only [m7, Bool.and_eq_true, decide_eq_true_eq] at hc
      obtain ⟨⟨⟨⟨_, _⟩, h1⟩, h2⟩, h3⟩ := hc
      obtain ⟨v, vs', d, ds', p, q, rfl, rfl, rfl, h4, h5⟩ := trodAll_cons h
      have lt : ∀ x ∈ p, x.block < W.heap.size := by obtain ⟨m, hm⟩ := h4; exact DataW.trod_lt m _ _ _ hm
      exact ⟨p, q, Below.trod hlo h1 h2 h4 hb lt, wO hlo hb ts b vs' ds' q h3 h5, rfl⟩
    | _ => simp only [m7] at hc; cases hc
theorem II {base : Nat} {spare : Nat → Bool} {held : Bool} : ∀ {ts : List TypeId} {vs : List Value} {ds : List (DataW H)} {ps : List MemPlace}, DataW.TrodAll enc P w base spare held ts vs ds ps → ds.length = ts.length
 | [], [], [], _, _ => rfl
 | _ :: _, _ :: _, _ :: _, _, h => by
  obtain ⟨_, _, _, h, _⟩ := h
  simp [II h]
 | [], [], _ :: _, _, h => h.elim
 | [], _ :: _, _, _, h => by rename_i ds _; cases ds <;> exact h.elim
 | _ :: _, [], _, _, h => by rename_i ds _; cases ds <;> exact h.elim
 | _ :: _, _ :: _, [], _, h => h.elim
def Ox : Ty → List Value
 | .pair a b => az a (aQ a) :: Ox b
 | _ => []
@[reducible] def Oj (as : Ty) : bq := ⟨as, .pair .bool .unit, fun _ => (true, ()), fun _ => True, true⟩
theorem MM {T : List (Nat × Ty)} (htab : AE P T = true) {f : FuncId} {as : Ty} (hk : ap P [] f (Oj as)) {ts : List TypeId} (hc : m7 P T ts as = true) {r : Reach} {b0 : Nat} {spare : Nat → Bool} {held : Bool} {args : Array Value} {ds : List (DataW H)} {ps : List MemPlace}
    (h : DataW.TrodAll enc P w 0 spare held ts args.toList ds ps) (hv : ∀ (j : Nat) t v, ts[j]? = some t → args[j]? = some v → Value.okWide P w r b0 t v) : Calls P f args w fun e w' => e = .returned (.bool true) ∧ Below w.heap.size w w' := by
  obtain ⟨x, hx⟩ := yL htab ts as args.toList ds ps hc h (fun j t v hj hv' => hv j t v hj (by simpa using hv'))
  have := hk.does (fun _ => False) w args.toList x (fun _ h => h.elim) (fun _ _ _ h => by cases h) hx trivial
  rw [Array.toArray_toList] at this
  refine Calls.mono this fun e w' ⟨v, e1, e2, rest, cs, e3, e4, e5⟩ => ?_
  have e4 : cs = [.bool true] := e4
  subst e4
  have e3 : [v] = [Value.bool true] := e3
  have : v = .bool true := by simpa using e3
  subst this
  exact ⟨e1, ⟨e2.os, e2.tape.eq, e2.output, e2.size, e2.block⟩⟩
end
end Go.Proofs.Ytimdnodkabnbfaa
