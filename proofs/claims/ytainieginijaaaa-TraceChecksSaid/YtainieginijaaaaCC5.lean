/- Part 5 of 8 of what this claim's proof stands on: a theory of programs on data, and the contracts of the functions that the law reaches. It holds no condition of its own. -/
import Derived.Test.YtainieginijaaaaCC4
import Derived.ProofKit
import Derived.OpenShut
import Derived.ShutString
import Derived.ChangeOld

/- Bodies that enter other bodies do what their trees say, 1: renaming, steps. -/
namespace Go.Proofs.Ytainieginijaaaa
open Go Go.RowKit

structure XOk (P : Program) (X : TabX) : Prop where
  D : DOkX P X.D
  ht : htOk X.D = true
  inl : ∀ f fx, X.inl.lookup f = some fx → P.funcs[f]? = some fx.fn ∧ fx.fn.body.isSome = true ∧ callable P f

theorem XOk.at {P : Program} {X : TabX} (h : XOk P X) (fx : Fx) : DOkX P (X.at fx) := ⟨⟨h.D.tab, h.D.fns, h.D.mixed⟩, h.D.rows, h.D.ovl⟩

section
variable {P : Program} {X : TabX} {D : Tabs} {o : Oper} {a : Act} {G : Gst} {w : World} {tm : Nat → Value}

/-! ### New numbers for private blocks -/

theorem lookup_number : ∀ {l : List Nat} {n i j : Nat}, (number l n).lookup i = some j → i ∈ l
  | x :: l, n, i, j, h => by
    unfold number at h
    rw [List.lookup_cons] at h
    split at h
    · rename_i e
      have e : i = x := by simpa using e
      rw [e]; exact List.mem_cons_self ..
    · exact List.mem_cons_of_mem _ (lookup_number h)

theorem boxesX_lookup {b : Nat → BS} {σ : List (Nat × Nat)} : ∀ {τ : List (Nat × Nat)} {bs : List (Nat × Bx)}, boxesX b σ τ = some bs → ∀ {j : Nat} {x : Bx}, bs.lookup j = some x → ∃ i y, inv τ j = some i ∧ b i = .live y ∧ x = renBx σ y
  | [], bs, h, j, x, hl => by
    have e := Option.some.inj h
    subst e
    cases hl
  | (i0, j0) :: τ, bs, h, j, x, hl => by
    simp only [boxesX] at h
    split at h
    · rename_i y r hy hr
      have e := (Option.some.inj h).symm
      subst e
      rw [List.lookup_cons] at hl
      unfold inv
      rw [List.map_cons, List.lookup_cons]
      split at hl
      · rename_i e
        rw [e]
        have e' : renBx σ y = x := by simpa using hl
        exact ⟨i0, y, rfl, liveAt_some hy, e'.symm⟩
      · rename_i e
        have e : (j == j0) = false := by simpa using e
        rw [e]
        exact boxesX_lookup hr hl
    · cases h

theorem boxesX_mem {b : Nat → BS} {σ : List (Nat × Nat)} : ∀ {τ : List (Nat × Nat)} {bs : List (Nat × Bx)}, boxesX b σ τ = some bs → ∀ {i j : Nat}, (i, j) ∈ τ → ∃ x, bs.lookup j = some x
  | [], bs, h, i, j, hm => by cases hm
  | (i0, j0) :: τ, bs, h, i, j, hm => by
    simp only [boxesX] at h
    split at h
    · rename_i y r hy hr
      have e := (Option.some.inj h).symm
      subst e
      rw [List.lookup_cons]
      split
      · exact ⟨_, rfl⟩
      · rename_i hne
        rcases List.mem_cons.1 hm with hm | hm
        · injection hm with _ e2
          subst e2
          simp at hne
        · exact boxesX_mem hr hm
    · cases h

/-- What one ghost knows, by other numbers, the other knows. -/
structure Ren (G G' : Gst) (w : World) (σ : List (Nat × Nat)) : Prop where
  lat : Lat G.av w G'.av w
  hd : ∀ i j, σ.lookup i = some j → G'.hd j = G.hd i ∧ G'.bk j = G.bk i ∧ ∃ x, G'.b j = .live x

theorem KV.ren {G' : Gst} {σ : List (Nat × Nat)} (h : Ren G G' w σ) : ∀ {k : K} {v : Value}, KV P G w tm k v → KV P G' w tm (renX σ k) v := by
  intro k
  induction k with
  | any => intro v _; trivial
  | nilsl => intro v hv; exact hv
  | val t x => intro v hv; exact VRep.lat h.lat hv
  | clip e xs => intro v hv; exact ⟨VRep.lat h.lat hv.1, hv.2⟩
  | grd s c cs k ih => intro v _; trivial
  | opt cs k ih => intro v _; trivial
  | tup t x => intro v _; trivial
  | ref t x => intro v hv; obtain ⟨ad, e, hr⟩ := hv; exact ⟨ad, e, hr.lat h.lat⟩
  | ptr id base p =>
    intro v hv
    simp only [renX]
    split
    · rename_i j hj
      obtain ⟨_, hp, g, hg, e⟩ := hv
      obtain ⟨e1, e2, x, e3⟩ := h.hd id j hj
      exact ⟨⟨x, .inl e3⟩, hp, g, by rw [e2]; exact hg, by rw [e1]; exact e⟩
    · trivial
  | sl id e =>
    intro v hv
    simp only [renX]
    split
    · rename_i j hj
      obtain ⟨e1, e2, x, e3⟩ := h.hd id j hj
      exact ⟨⟨x, .inl e3⟩, by rw [e1]; exact hv.2⟩
    · trivial
  | fnc f => intro v hv; exact hv
  | knil => intro v hv; exact hv
  | kcons a b iha ihb => intro v hv; obtain ⟨x, xs, e, h1, h2⟩ := hv; exact ⟨x, xs, e, iha h1, ihb h2⟩
  | agg b c ih => intro v hv; obtain ⟨vs, h1, h2, e⟩ := hv; exact ⟨vs, ih h1, h2, e⟩
  | clo f c ih => intro v hv; obtain ⟨vs, h1, e⟩ := hv; exact ⟨vs, ih h1, e⟩
  | vw id e lo n =>
    intro v hv
    simp only [renX]
    split
    · rename_i j hj
      obtain ⟨_, a, len, cap, h1, h2⟩ := hv
      obtain ⟨e1, e2, x, e3⟩ := h.hd id j hj
      exact ⟨⟨x, .inl e3⟩, a, len, cap, by rw [e1]; exact h1, h2⟩
    · trivial
  | sel c a b iha ihb => intro v hv; exact ⟨fun hc => iha (hv.1 hc), fun hc => ihb (hv.2 hc)⟩
  | pm id =>
    intro v hv
    simp only [renX]
    split
    · rename_i j hj
      obtain ⟨_, g, hg, e⟩ := hv
      obtain ⟨e1, e2, x, e3⟩ := h.hd id j hj
      exact ⟨⟨x, .inl e3⟩, g, by rw [e2]; exact hg, e⟩
    · trivial
  | nilmp => intro v hv; exact hv
  | ifc t k ih => intro v hv; obtain ⟨u, e, h1⟩ := hv; exact ⟨u, e, ih h1⟩
  | nilif => intro v hv; exact hv
  | yld id =>
    intro v hv
    simp only [renX]
    split
    · rename_i j hj
      obtain ⟨_, g, hg, e⟩ := hv
      obtain ⟨e1, e2, x, e3⟩ := h.hd id j hj
      exact ⟨⟨x, .inl e3⟩, g, by rw [e2]; exact hg, e⟩
    · trivial

theorem nog_ren (σ : List (Nat × Nat)) : ∀ k : K, nog (renX σ k) = true := by
  intro k
  induction k with
  | kcons a b iha ihb => simp [renX, nog, iha, ihb]
  | agg b c ih => simp [renX, nog, ih]
  | clo f c ih => simp [renX, nog, ih]
  | sel c a b iha ihb => simp [renX, nog, iha, ihb]
  | ifc t k ih => simp [renX, nog, ih]
  | ptr id base p => simp only [renX]; split <;> rfl
  | sl id e => simp only [renX]; split <;> rfl
  | vw id e lo n => simp only [renX]; split <;> rfl
  | pm id => simp only [renX]; split <;> rfl
  | yld id => simp only [renX]; split <;> rfl
  | _ => rfl

theorem KE.ren {G' : Gst} {σ : List (Nat × Nat)} (h : Ren G G' w σ) : ∀ {k : K} {ms : List MapEntry}, KE P G w k ms → KE P G' w (renX σ k) ms
  | .knil, _, hh => hh
  | .kcons (.kcons _ _) _, _, ⟨m, ms', e, h1, h2, h3⟩ => ⟨m, ms', e, h1.ren h, h2.ren h, KE.ren h h3⟩

theorem ofS_ren (σ : List (Nat × Nat)) : ∀ (l : List (Nat × K)) (n : Nat), ofS (renL σ l) n = renX σ (ofS l n) ∨ (ofS (renL σ l) n = .any)
  | [], n => .inr rfl
  | (m, k) :: l, n => by
    unfold ofS renL
    rw [List.lookup_cons, List.lookup_cons]
    cases h : n == m
    · exact ofS_ren σ l n
    · exact .inl rfl

theorem KVs.ren {G' : Gst} {σ : List (Nat × Nat)} (h : Ren G G' w σ) {l : List (Nat × K)} {n : Nat} {v : Value} (hv : KV P G w tm (ofS l n) v) : KV P G' w tm (ofS (renL σ l) n) v := by
  rcases ofS_ren σ l n with e | e <;> rw [e]
  · exact hv.ren h
  · trivial

theorem KVs.flat (σ : List (Nat × Nat)) (l : List (Nat × K)) (n : Nat) : Go.Proofs.Ytainieginijaaaa.flat (ofS (renL σ l) n) = true := by
  rcases ofS_ren σ l n with e | e <;> rw [e]
  · exact flat_nog (nog_ren σ _)
  · rfl

theorem BxOk.ren {G' : Gst} {σ : List (Nat × Nat)} (h : Ren G G' w σ) (hw0 : G'.w0 = G.w0) (hown : G'.own = G.own) {i j : Nat} (e1 : G'.hd j = G.hd i) (e2 : G'.bk j = G.bk i) {x : Bx} (hx : BxOk P G w i x) : BxOk P G' w j (renBx σ x) := by
  have hl := h.lat
  have hn : ∀ g, G.nb g → G'.nb g := fun g h => by unfold Gst.nb; rw [hw0, hown]; exact h
  cases x with
  | cell t y =>
    obtain ⟨g, arr, eid, h1, h2, h3, h4, h5⟩ := hx
    exact ⟨g, arr, eid, by rw [e2]; exact h1, hn _ h2, h3, h4.lat hl, by rw [e1]; exact h5⟩
  | row e xs =>
    rcases hx with ⟨q1, h1, a, h2⟩ | ⟨g, arr, eid, off, sp, h1, h2, h3, h4, h5, h6, h8⟩
    · exact .inl ⟨q1, by rw [e2]; exact h1, a, by rw [e1]; exact h2⟩
    · exact .inr ⟨g, arr, eid, off, sp, by rw [e2]; exact h1, by rw [e1]; exact h2, hn _ h3, h4, h5, h6, h8.imp fun _ _ r => r.lat hl⟩
  | full e n zs =>
    rcases hx with ⟨q1, q2, h1, a, h2⟩ | ⟨g, arr, eid, off, h1, h2, h3, h4, h5, h6, h7, h8⟩
    · exact .inl ⟨q1, q2, by rw [e2]; exact h1, a, by rw [e1]; exact h2⟩
    · exact .inr ⟨g, arr, eid, off, by rw [e2]; exact h1, by rw [e1]; exact h2, hn _ h3, h4, h5, h6, h7, h8.imp fun _ _ r => r.lat hl⟩
  | obj t k =>
    obtain ⟨g, arr, eid, v, h1, h2, h3, h4, h5, h6, h7, h8, h9, h10, h11⟩ := hx
    exact ⟨g, arr, eid, v, by rw [e2]; exact h1, hn _ h2, h3, nog_ren σ k, h5.ren h, h6, h7, h8, h9, h10, by rw [e1]; exact h11⟩
  | mpd k v l => obtain ⟨g, es, ck, h1, h2, h3, hst, h4⟩ := hx; exact ⟨g, es, ck, by rw [e2]; exact h1, hn _ h2, h3, hst, h4.imp (fun _ _ r => VRep.lat hl r) (fun _ _ r => VRep.lat hl r)⟩
  | itr k v left cur =>
    obtain ⟨g, gm, since, seen, es, h1, h2, h3, h0, h4, h5, h6, h7, h8, h9⟩ := hx
    exact ⟨g, gm, since, seen, es, by rw [e2]; exact h1, hn _ h2, h3, by rw [e1]; exact h0, (hl.keep gm h5 h4).2, h5, h6, h7,
      h8.imp (fun _ _ r => VRep.lat hl r) (fun _ _ r => VRep.lat hl r), fun x hx => let ⟨e, a1, a2, a3, a4⟩ := h9 x hx; ⟨e, a1, a2, a3.lat hl, a4.lat hl⟩⟩
  | mpk k c => obtain ⟨g, es, ck, h1, h2, h3, h4⟩ := hx; exact ⟨g, es, ck, by rw [e2]; exact h1, hn _ h2, h3, h4.ren h⟩
  | lop st pend s f params assign body => obtain ⟨g, d, tmps, h1, h2, h3, h4⟩ := hx; exact ⟨g, d, tmps, by rw [e2]; exact h1, hn _ h2, h3, fun n => KVs.ren h (h4 n)⟩
  | dfr => obtain ⟨g, h1, h2, h3⟩ := hx; exact ⟨g, by rw [e2]; exact h1, hn _ h2, h3⟩

/-! ### Calls that wait -/

/-- What is known of the slots of calls that wait. -/
def StkOk (P : Program) : List Cont → List Act → Gst → World → Prop
  | [], [], _, _ => True
  | ct :: stk, a :: as, G, w => (∀ n, KV P G w (tmF a) (ct.s n) (tmF a n)) ∧ (∀ n, flat (ct.s n) = true) ∧ a.tmps.size = ct.fx.fn.ntmps ∧ a.defers = [] ∧ dstOk ct.fx.fn.ntmps { (default : Oper) with dst := ct.dst } = true ∧ StkOk P stk as G w
  | _, _, _, _ => False

theorem StkOk.ext : ∀ {stk : List Cont} {as : List Act} {G G' : Gst} {w w' : World}, G.Ext w G' w' → StkOk P stk as G w → StkOk P stk as G' w'
  | [], [], _, _, _, _, _, _ => trivial
  | _ :: _, _ :: _, _, _, _, _, h, ⟨h1, h2, h3, h4, h5, h6⟩ => ⟨fun n => (h1 n).ext h, h2, h3, h4, h5, h6.ext h⟩
  | [], _ :: _, _, _, _, _, _, h => h.elim
  | _ :: _, [], _, _, _, _, _, h => h.elim

/-- Around a run: what a first call has, and the calls that wait. -/
def Cx.stk (P : Program) (c : Cx) (stk : List Cont) (as : List Act) : Cx := ⟨c.O, c.own, c.w0, fun G w => StkOk P stk as G w, fun _ _ _ _ e h => h.ext e⟩

/-- How calls end, one behind the other. -/
def retTo (P : Program) (R0 : Ending → World → Prop) : List Cont → List Act → Ending → World → Prop
  | ct :: stk, a :: as => fun e w' => ∃ v, e = .returned v ∧ ∀ (b : Frame) (cs : List Frame), ∃ e' a' w'', bodyPost P ct.fx.fn (retTo P R0 stk as) e' a' w'' ∧ Arrives P (lone (b.at (a.put ct.dst v) ct.todo) cs w') b [] cs e' a' w''
  | _, _ => R0

def GoodS (P : Program) (X : TabX) (c : Cx) (R0 : Ending → World → Prop) (stk : List Cont) (fx : Fx) (todo : List Item) (env : Env) : Prop :=
  ∀ (as : List Act) (a : Act) (w : World), Sim P (X.at fx) (c.stk P stk as) env a w → ∀ (b : Frame) (cs : List Frame), ∃ e a' w', bodyPost P fx.fn (retTo P R0 stk as) e a' w' ∧ Arrives P (lone (b.at a todo) cs w) b [] cs e a' w'

def TreeGoodS (P : Program) (X : TabX) (c : Cx) (R0 : Ending → World → Prop) (Z : K → Prop) : TreeS → Prop
  | .bad _ => False
  | .ret k => Z k
  | .ite c0 t e => (c0 = true → TreeGoodS P X c R0 Z t) ∧ (c0 = false → TreeGoodS P X c R0 Z e)
  | .req p t => p ∧ TreeGoodS P X c R0 Z t
  | .all _ p t => ∀ x, p x → TreeGoodS P X c R0 Z (t x)
  | .loop stk fx todo s b => GoodS P X c R0 stk fx todo (Env.of s b)

theorem reqsS_good {c : Cx} {R0 : Ending → World → Prop} {Z : K → Prop} : ∀ {ps : List Prop} {t : TreeS}, TreeGoodS P X c R0 Z (reqsS ps t) → (∀ p ∈ ps, p) ∧ TreeGoodS P X c R0 Z t
  | [], t, h => ⟨by simp, h⟩
  | p :: ps, t, h => by
    obtain ⟨h1, h2⟩ := h
    obtain ⟨h3, h4⟩ := reqsS_good h2
    refine ⟨fun q hq => ?_, h4⟩
    rcases List.mem_cons.1 hq with rfl | hq
    · exact h1
    · exact h3 q hq

/-! ### One operation as steps -/

theorem steps_of_wp {ops : Array Oper} {i : Nat} {rest : List Nat} {k : List Item} {b : Frame} {cs : List Frame} {next : Act → World → Prop} (ho : ops[i]? = some o) (hw : Region.wanted o (yielded ops a.tmps) = true) (h : o.wp P a w next (fun _ _ _ => False)) :
    ∃ a' w', next a' w' ∧ Steps P (lone (b.at a (.inRegion ops (i :: rest) :: k)) cs w) (lone (b.at a' (.inRegion ops rest :: k)) cs w') := by
  simp only [Oper.wp, Oper.upon] at h
  have hg := stepG_op (P := P) (b := b) (k := k) (cs := cs) (w := w) (rest := rest) ho hw
  have hfin : ∀ v, (b.at a (.inRegion ops (i :: rest) :: k)).finish v = b.at (a.put o.dst v) (.inRegion ops rest :: k) := by
    intro v; rw [Frame.finish_at, ho]; rfl
  split at h
  · rename_i v w' hr
    refine ⟨_, _, h, .one (step_lone_go ?_)⟩
    rw [hg, ← hfin]; simp [stepG.apply, hr]
  · rename_i w' hr
    refine ⟨_, _, h, .one (step_lone_go ?_)⟩
    rw [hg, ← hfin]; simp [stepG.apply, hr]
  · rename_i d w' hr
    refine ⟨_, _, h, .one (step_lone_go ?_)⟩
    have : ({ b.at a (.inRegion ops (i :: rest) :: k) with defers := d :: a.defers } : Frame).finish undef =
        b.at ({ a with defers := d :: a.defers }.put o.dst undef) (.inRegion ops rest :: k) := by
      have := Frame.finish_at b { a with defers := d :: a.defers } ops i rest k undef
      rw [ho] at this; exact this
    rw [hg]; simp only [stepG.apply, Sem.runT_eq, hr, GStep.bare_after]
    exact congrArg (fun fr => GStep.go { frame := fr, callers := cs, status := .running, dying := none } w') this
  · rename_i f args w' hr
    obtain ⟨e, w'', fr, hR, hsteps, _, hleave⟩ := h (b.at a (.inRegion ops (i :: rest) :: k) :: cs)
    have henter : step P (lone (b.at a (.inRegion ops (i :: rest) :: k)) cs w) =
        .next (lone (Frame.enter P f args .normal) (b.at a (.inRegion ops (i :: rest) :: k) :: cs) w') :=
      step_lone_go (by rw [hg]; simp [stepG.apply, hr, Frame.at])
    cases e with
    | returned v =>
      refine ⟨_, _, hR, .head henter (hsteps.trans (.one ?_))⟩
      rw [← hfin]; exact step_leave_returned hleave
    | panicked chain => exact hR.elim
    | outgrown => obtain ⟨_, _, hq⟩ := hR; exact hq.elim
  · rename_i row args w' hr
    obtain ⟨v, w'', hR, hsteps⟩ := h (b.at a (.inRegion ops (i :: rest) :: k)) cs
    have henter : step P (lone (b.at a (.inRegion ops (i :: rest) :: k)) cs w) =
        .next (lone (Frame.ofRow P row args .normal) (b.at a (.inRegion ops (i :: rest) :: k) :: cs) w') :=
      step_lone_go (by rw [hg]; simp [stepG.apply, hr, Frame.at])
    refine ⟨_, _, hR, .head henter ?_⟩
    rw [← hfin]; exact hsteps
  · exact h.elim
  · exact h.elim

theorem steps_of_wpOp {ops : Array Oper} {i : Nat} {rest : List Nat} {k : List Item} {b : Frame} {cs : List Frame} {next : Act → World → Prop} (ho : ops[i]? = some o) (h : wpOp P ops (fun _ _ _ => False) i next a w) :
    ∃ a' w', next a' w' ∧ Steps P (lone (b.at a (.inRegion ops (i :: rest) :: k)) cs w) (lone (b.at a' (.inRegion ops rest :: k)) cs w') := by
  unfold wpOp at h
  rw [ho] at h
  simp only at h
  split at h
  · rename_i hw
    rcases h with h | ⟨_, _, _, h⟩
    · exact steps_of_wp ho hw h
    · exact h.elim
  · rename_i hw
    refine ⟨_, _, h, .one ?_⟩
    have := step_op_skip (P := P) (b := b) (a := a) (k := k) (cs := cs) (w := w) (ops := ops) (i := i) (rest := rest) (by simp [ho]; simpa using hw)
    simpa [ho] using this

end

end Go.Proofs.Ytainieginijaaaa

/- Bodies that enter other bodies do what their trees say, 2. -/
namespace Go.Proofs.Ytainieginijaaaa
open Go Go.RowKit

section
variable {P : Program} {X : TabX} {D : Tabs} {o : Oper} {a : Act} {G : Gst} {w : World} {tm : Nat → Value}

theorem keepS_ok {s : Nat → K} {n : Nat} {v : Value} (h : KV P G w tm (s n) v) : ∀ l : List Nat, KV P G w tm (ofS (keepS s l) n) v
  | [] => trivial
  | m :: l => by
    unfold keepS
    split
    · exact keepS_ok h l
    · rename_i k hk
      unfold ofS
      rw [List.lookup_cons]
      cases e : n == m
      · exact keepS_ok h l
      · have e : n = m := by simpa using e
        subst e
        exact h.strip

theorem stkX_ok {G' : Gst} {σ : List (Nat × Nat)} (h : Ren G G' w σ) : ∀ {stk : List Cont} {as : List Act} (ls : List (List Nat)), StkOk P stk as G w → StkOk P (stkX σ (keepStk stk ls)) as G' w
  | [], [], _, _ => trivial
  | ct :: stk, a :: as, [], ⟨h1, h2, h3, h4, h5, h6⟩ => ⟨fun n => KVs.ren (l := []) (n := n) h trivial, fun n => KVs.flat σ [] n, h3, h4, h5, stkX_ok h [] h6⟩
  | ct :: stk, a :: as, l :: ls, ⟨h1, h2, h3, h4, h5, h6⟩ => ⟨fun n => KVs.ren h (keepS_ok (h1 n) l), fun n => KVs.flat σ _ n, h3, h4, h5, stkX_ok h ls h6⟩
  | [], _ :: _, _, h => h.elim
  | _ :: _, [], _, h => h.elim

theorem canonS {c : Cx} {stk : List Cont} {as : List Act} {env : Env} {keep : List Nat} {ls : List (List Nat)} {σ : List (Nat × Nat)} {bs : List (Nat × Bx)} (hn1 : nodupB (σ.map (·.1)) = true) (hn2 : nodupB (σ.map (·.2)) = true) (hbs : boxesX env.b σ σ = some bs) {a : Act} {w : World}
    (hS : Sim P D (c.stk P stk as) env a w) : Sim P D (c.stk P (stkX σ (keepStk stk ls)) as) (Env.of (renL σ (keepS env.s keep)) bs) a w := by
  obtain ⟨⟨G, hb, hC, hM, hgl, hs⟩, hfl, hsz, hdf⟩ := hS
  let G' : Gst := { hd := fun j => match inv σ j with | some i => G.hd i | none => undef, bk := fun j => match inv σ j with | some i => G.bk i | none => none, b := ofB bs, O := G.O, w0 := G.w0, own := G.own }
  have hd' : ∀ j i, inv σ j = some i → G'.hd j = G.hd i ∧ G'.bk j = G.bk i := fun j i h => by
    show (match inv σ j with | some i => G.hd i | none => undef) = _ ∧ (match inv σ j with | some i => G.bk i | none => none) = _
    rw [h]
    exact ⟨rfl, rfl⟩
  have live : ∀ j x, G'.b j = .live x → ∃ i y, inv σ j = some i ∧ G.b i = .live y ∧ x = renBx σ y := by
    intro j x h
    have h : ofB bs j = .live x := h
    unfold ofB at h
    split at h
    · rename_i y hy
      have e : y = x := by injection h
      subst e
      rw [hb]
      exact boxesX_lookup hbs hy
    · cases h
  have hav : ∀ g, G'.av g → G.av g := by
    rintro g (h | ⟨j, x, h1, h2⟩)
    · exact .inl h
    · obtain ⟨i, y, hi, hx, _⟩ := live j x h1
      rw [(hd' j i hi).2] at h2
      exact .inr ⟨i, y, hx, h2⟩
  have hl : Lat G.av w G'.av w := ⟨Nat.le_refl _, fun g _ hg => ⟨rfl, fun h => hg (hav g h)⟩⟩
  have hR : Ren G G' w σ := ⟨hl, fun i j hij => by
    have hi := inv_of_lookup hn2 hij
    obtain ⟨x, hx⟩ := boxesX_mem hbs (lookup_mem hij)
    refine ⟨(hd' j i hi).1, (hd' j i hi).2, x, ?_⟩
    show ofB bs j = _
    unfold ofB
    rw [hx]⟩
  have hM' : MemOk P G' w := by
    refine ⟨hM.kept, hM.old, hM.dis, fun j x h => ?_, fun j j' x y g h h' k k' => ?_⟩
    · obtain ⟨i, y, hi, hx, rfl⟩ := live j x h
      exact (hM.box i y hx).ren hR rfl rfl (hd' j i hi).1 (hd' j i hi).2
    · obtain ⟨i, z, hi, hx, _⟩ := live j x h
      obtain ⟨i', z', hi', hx', _⟩ := live j' y h'
      rw [(hd' j i hi).2] at k
      rw [(hd' j' i' hi').2] at k'
      have e := hM.sep i i' z z' g hx hx' k k'
      subst e
      exact nodup_fst hn1 (inv_mem hi) (inv_mem hi')
  exact ⟨⟨G', rfl, ⟨hC.O, hC.w0, hC.own, stkX_ok hR ls hC.J⟩, hM', hgl.lat hl, fun n => KVs.ren hR (keepS_ok (hs n) keep)⟩, fun n => KVs.flat σ _ n, hsz, hdf⟩

theorem loopS_sound {c : Cx} {R0 : Ending → World → Prop} {Z : K → Prop} {keep : List Nat} {own : List (Nat × Ty)} {ls : List (List Nat)} {stk : List Cont} {fx : Fx} {todo : List Item} {env : Env}
    (h : TreeGoodS P X c R0 Z (atLoopS keep own ls stk fx todo env)) (hret : ∀ σ as, retTo P R0 (stkX σ (keepStk stk ls)) as = retTo P R0 stk as) : GoodS P X c R0 stk fx todo env := by
  unfold atLoopS at h
  split at h
  · exact h.elim
  · rename_i env1 h1
    simp only at h
    split at h
    · rename_i hn
      simp only [Bool.and_eq_true] at hn
      split at h
      · rename_i bs hbs
        intro as a w hS b cs
        have := h as a w (canonS hn.1 hn.2 hbs (ownAll_sound h1 hS)) b cs
        rw [hret] at this
        exact this
      · exact h.elim
    · exact h.elim

theorem retTo_stkX (R0 : Ending → World → Prop) (σ : List (Nat × Nat)) : ∀ (stk : List Cont) (ls : List (List Nat)) (as : List Act), retTo P R0 (stkX σ (keepStk stk ls)) as = retTo P R0 stk as
  | [], _, _ => rfl
  | ct :: stk, [], [] => rfl
  | ct :: stk, l :: ls, [] => rfl
  | ct :: stk, [], a :: as => by
    simp only [keepStk, stkX, retTo, retTo_stkX R0 σ stk [] as]
  | ct :: stk, l :: ls, a :: as => by
    simp only [keepStk, stkX, retTo, retTo_stkX R0 σ stk ls as]

/-! ### One operation -/

theorem vopX_sound (hX : XOk P X) {fx : Fx} {c0 : Cx} {ops : Array Oper} {o : Oper} {env : Env} {st : Stp} (h : vopX X (X.at fx) ops o env = some st) {a : Act} {w : World} (hS : Sim P (X.at fx) c0 env a w) {i : Nat} (hi : ops[i]? = some o) {rest : List Nat} {k : List Item} (b : Frame) (cs : List Frame) :
    match st with
    | .one env' ps => (∀ p ∈ ps, p) → ∃ a' w', Sim P (X.at fx) c0 env' a' w' ∧ Steps P (lone (b.at a (.inRegion ops (i :: rest) :: k)) cs w) (lone (b.at a' (.inRegion ops rest :: k)) cs w')
    | .ex _ p f => ∃ x, p x ∧ ∃ a' w', Sim P (X.at fx) c0 (f x) a' w' ∧ Steps P (lone (b.at a (.inRegion ops (i :: rest) :: k)) cs w) (lone (b.at a' (.inRegion ops rest :: k)) cs w') := by
  have hD := hX.at fx
  have hh : htOk (X.at fx) = true := hX.ht
  unfold vopX at h
  split at h
  · rename_i env' ps hv
    have e := (Option.some.inj h).symm
    subst e
    exact fun hp => steps_of_wpOp hi (vop_sound hD hh hv hp hS hi _)
  · split at h
    · cases h
    · rename_i hcond
      simp only [Bool.or_eq_true, not_or, Bool.not_eq_true, Option.isSome_eq_false_iff, Bool.not_eq_false', Bool.not_eq_eq_eq_not, Bool.not_true] at hcond
      have hg : o.guard = none := by simpa using hcond.1
      have hdst : dstOk (X.at fx).n o = true := by simpa using hcond.2
      have hw : Region.wanted o (yielded ops a.tmps) = true := by unfold Region.wanted; rw [hg]
      obtain ⟨⟨G, hb, hC, hM, hgl, hs⟩, hfl, hsz, hdf⟩ := hS
      have hr := fun x => rd_ok (a := a) (tm := tmF a) hD.toDOk hgl (g := none) (fun _ _ e => by cases e) hs (fun _ => rfl) x
      have fin : ∀ {k' : K} {ch' : Chg}, Yields P o a G w (tmF a) k' ch' → ∃ a' w', Sim P (X.at fx) c0 { s := put env.s o.dst (Go.Proofs.Ytainieginijaaaa.strip k'), b := putB env.b ch', lim := env.lim } a' w' ∧
          Steps P (lone (b.at a (.inRegion ops (i :: rest) :: k)) cs w) (lone (b.at a' (.inRegion ops rest :: k)) cs w') := by
        intro k' ch' hy
        refine steps_of_wp (next := fun a' w' => Sim P (X.at fx) c0 { s := put env.s o.dst (Go.Proofs.Ytainieginijaaaa.strip k'), b := putB env.b ch', lim := env.lim } a' w') hi hw (hy _ _ ?_)
        intro G' w' v e1 e2 e3 e4
        refine ⟨⟨G', by rw [e1, hb], hC.ext e2, e3, hgl.lat e2.lat, ?_⟩, put_flat hfl (flat_nog (nog_strip k')), ?_, ?_⟩
        · exact slots_put rfl hfl (fun n => (hs n).ext e2) hsz hdst (fun d hd => e4.strip.tm (nog_strip _))
        · cases hd : o.dst <;> simp [Act.put, hsz]
        · cases hd : o.dst <;> simp [Act.put, hdf]
      rw [← hb] at h
      split at h
      · rename_i k1 ch ps hv
        have e := (Option.some.inj h).symm
        subst e
        intro hp
        have := veff2_sound (tm := tmF a) hD hM hgl hr hv hp
        rw [hb]
        exact fin this
      · rename_i α p k1 ch hv
        have e := (Option.some.inj h).symm
        subst e
        obtain ⟨x, hx, hy⟩ := veff2_sound (tm := tmF a) hD hM hgl hr hv
        refine ⟨x, hx, ?_⟩
        rw [hb]
        exact fin hy
      · split at h
        · rename_i k1 ch ps hv
          have e := (Option.some.inj h).symm
          subst e
          intro hp
          have := veff3_sound (tm := tmF a) hD hM hr hv hp
          rw [hb]
          exact fin this
        · rename_i α p k1 ch hv
          have e := (Option.some.inj h).symm
          subst e
          obtain ⟨x, hx, hy⟩ := veff3_sound (tm := tmF a) hD hM hr hv
          refine ⟨x, hx, ?_⟩
          rw [hb]
          exact fin hy
        · cases h

/-! ### Results -/

theorem kOfBox (hD : DOkX P D) (hM : MemOk P G w) {id : Nat} {t : Ty} {k : K} (hl : G.b id = .live (.obj t k)) {ty : TypeId} (hty : D.ty ty = some t) {g : Nat} (hk : G.bk id = some g) : ∃ v, (loadVar ty ⟨g, 0, none⟩).run P w = .ok v w ∧ nog k = true ∧ KV P G w tm k v := by
  obtain ⟨g', arr, eid, v, h1, h2, h3, h4, h5, h6, h7, h8, h9, h10, h11⟩ := hM.box id _ hl
  rw [hk] at h1
  cases h1
  have hlen : arr.toList.length = siz t := by rw [Array.length_toList]; exact h7
  have hload := load_of_fit (hD.fit hty) w ⟨g, 0, none⟩ arr.toList hlen (fun j u hj => by
    rw [add_off, Nat.zero_add, cell_of_row w g j arr eid (0, 0) h3]
    simpa using hj)
  refine ⟨v, ?_, h4, h5.tm h4⟩
  rw [hload]
  congr 1
  unfold ofCells
  cases ha : isAgg t
  · have h1c := h10 ha
    rw [if_neg (by simp)]
    have : v.cells = #[v] := by cases v <;> first | rfl | (simp [Value.oneCell'] at h1c)
    rw [← h6, this]; rfl
  · obtain ⟨cs, rfl⟩ := h9 ha
    rw [if_pos rfl]
    have : cs = arr := h6
    rw [this]

theorem retK1_ok (hD : DOkX P D) {c0 : Cx} {env : Env} {a : Act} {w : World} (hS : Sim P D c0 env a w) {G : Gst} (hb : G.b = env.b) (hM : MemOk P G w) (hs : ∀ n, KV P G w (tmF a) (env.s n) (tmF a n)) {r : ResultVar} {k : K} (h : retK1 D env r = some k) :
    ∃ v, (oneRes a r).run P w = Result.ok v w ∧ nog k = true ∧ KV P G w (tmF a) k v := by
  cases r with
  | tmp t =>
    have e := (Option.some.inj h).symm
    subst e
    exact ⟨tmF a t, rfl, nog_strip _, (hs t).strip⟩
  | cell q ty =>
    have hk := hs q
    simp only [retK1] at h
    split at h
    · rename_i id base e
      rw [e] at hk
      obtain ⟨_, _, g, hg, ev⟩ := hk
      have hoff : offAt base [] = 0 := by cases base <;> rfl
      have ev : a.tmps.getD q undef = .pointer (some ⟨g, offOf (G.hd id) + offAt base [], none⟩) := ev
      split at h
      · rename_i u x hl
        split at h
        · rename_i hty
          have e'' := (Option.some.inj h).symm
          subst e''
          rw [← hb] at hl
          obtain ⟨g', arr, eid, q1, q2, q3, q4, q5⟩ := hM.box id _ (liveAt_some hl)
          rw [hg] at q1
          cases q1
          have hload := load_of_fit (hD.fit hty) w ⟨g, 0, none⟩ arr.toList q4.length (fun j u hj => by
            rw [add_off, Nat.zero_add, cell_of_row w g j arr eid (0, 0) q3]
            simpa using hj)
          rw [q5, hoff] at ev
          refine ⟨ofCells u arr.toList, ?_, rfl, ⟨_, rfl, q4⟩⟩
          show (do loadVar ty (← asAddr (a.tmps.getD q undef)) : Sem Value).run P w = _
          simp only [ev, asAddr, Sem.run_bind, Sem.run_pure, Result.andThen_ok, hload]
        · cases h
      · rename_i u k' hl
        split at h
        · rename_i hty
          have e'' := (Option.some.inj h).symm
          subst e''
          rw [← hb] at hl
          obtain ⟨_, _, _, _, _, _, _, _, _, _, _, _, _, _, q5⟩ := hM.box id _ (liveAt_some hl)
          obtain ⟨v, hload, h4, h5⟩ := kOfBox (tm := tmF a) hD hM (liveAt_some hl) hty hg
          rw [q5, hoff] at ev
          refine ⟨v, ?_, h4, h5⟩
          show (do loadVar ty (← asAddr (a.tmps.getD q undef)) : Sem Value).run P w = _
          simp only [ev, asAddr, Sem.run_bind, Sem.run_pure, Result.andThen_ok, hload]
        · cases h
      · cases h
    · cases h

theorem retL_ok (hD : DOkX P D) {c0 : Cx} {env : Env} {a : Act} {w : World} (hS : Sim P D c0 env a w) {G : Gst} (hb : G.b = env.b) (hM : MemOk P G w) (hs : ∀ n, KV P G w (tmF a) (env.s n) (tmF a n)) : ∀ {l : List ResultVar} {ks : List K}, retL D env l = some ks →
    ∃ vs : List Value, (l.mapM (oneRes a)).run P w = Result.ok vs w ∧ vs.length = ks.length ∧ nog (kList ks) = true ∧ KV P G w (tmF a) (kList ks) (.tuple vs.toArray) ∧ ∀ k, ks = [k] → ∀ v, vs = [v] → nog k = true ∧ KV P G w (tmF a) k v
  | [], ks, h => by
    have e := (Option.some.inj h).symm
    subst e
    exact ⟨[], by simp, rfl, rfl, rfl, fun _ h => by cases h⟩
  | r :: l, ks, h => by
    simp only [retL] at h
    split at h
    · rename_i k ks' h1 h2
      have e := (Option.some.inj h).symm
      subst e
      obtain ⟨v, hv, hn, hk⟩ := retK1_ok hD hS hb hM hs h1
      obtain ⟨vs, hvs, hlen, hns, hks, _⟩ := retL_ok hD hS hb hM hs h2
      refine ⟨v :: vs, ?_, by simp [hlen], by simp [kList, nog, hn, hns], ⟨v, vs, rfl, hk, hks⟩, ?_⟩
      · rw [List.mapM_cons]
        simp only [Sem.run_bind, hv, Result.andThen_ok, hvs, Sem.run_pure]
      · intro k' e1 v' e2
        injection e1 with e1 _
        injection e2 with e2 _
        rw [← e1, ← e2]
        exact ⟨hn, hk⟩
    · cases h

theorem retKs_ok (hD : DOkX P D) {c0 : Cx} {fn : Func} {env : Env} {a : Act} {w : World} (hS : Sim P D c0 env a w) {G : Gst} (hb : G.b = env.b) (hM : MemOk P G w) (hs : ∀ n, KV P G w (tmF a) (env.s n) (tmF a n)) {k : K} (h : retKs D env fn.results.toList = some k) :
    ∃ v, (results fn a.tmps).run P w = .ok v w ∧ nog k = true ∧ KV P G w (tmF a) k v := by
  have key : ∀ ks, retL D env fn.results.toList = some ks → ∃ vs : List Value, (fn.results.mapM (oneRes a)).run P w = Result.ok vs.toArray w ∧ vs.length = ks.length ∧ nog (kList ks) = true ∧ KV P G w (tmF a) (kList ks) (.tuple vs.toArray) ∧ ∀ k, ks = [k] → ∀ v, vs = [v] → nog k = true ∧ KV P G w (tmF a) k v := by
    intro ks hks
    obtain ⟨vs, h1, h2⟩ := retL_ok hD hS hb hM hs hks
    refine ⟨vs, ?_, h2⟩
    rw [Array.mapM_eq_mapM_toList]
    simp only [Sem.run_map, h1, Result.andThen_ok]
  unfold retKs at h
  split at h
  · rename_i k' hks
    have e := (Option.some.inj h).symm
    subst e
    obtain ⟨vs, h1, h2, _, _, h3⟩ := key _ hks
    match vs, h2 with
    | [v], _ =>
      refine ⟨v, ?_, h3 _ rfl v rfl⟩
      rw [results_eq]
      simp only [Sem.run_bind, h1, Result.andThen_ok]
      rfl
  · rename_i ks hne hks
    have e := (Option.some.inj h).symm
    subst e
    obtain ⟨vs, h1, h2, h3, h4, _⟩ := key _ hks
    refine ⟨.tuple vs.toArray, ?_, h3, h4⟩
    rw [results_eq]
    have hs1 : ¬ vs.toArray.size = 1 := by
      intro h
      have : ks.length = 1 := by rw [← h2]; simpa using h
      match ks, this with
      | [k], _ => exact hne k rfl
    simp only [Sem.run_bind, h1, Result.andThen_ok, dif_neg hs1, Sem.run_pure]
  · cases h

end

end Go.Proofs.Ytainieginijaaaa

/- Bodies that enter other bodies do what their trees say, 3. -/
namespace Go.Proofs.Ytainieginijaaaa
open Go Go.RowKit

section
variable {P : Program} {X : TabX} {a : Act} {w : World} {c : Cx} {R0 : Ending → World → Prop} {Z : K → Prop} {m : RMode}

theorem goodS_step {stk : List Cont} {fx : Fx} {todo todo' : List Item} {env : Env} (h : ∀ (a : Act) (w : World) (b : Frame) (cs : List Frame), step P (lone (b.at a todo) cs w) = .next (lone (b.at a todo') cs w)) (hg : GoodS P X c R0 stk fx todo' env) : GoodS P X c R0 stk fx todo env := by
  intro as a w hS b cs
  obtain ⟨e, a', w', hq, harr⟩ := hg as a w hS b cs
  exact ⟨e, a', w', hq, .of_steps (.one (h a w b cs)) harr⟩

/-- A call that was entered hands back. -/
theorem goodS_ret (hX : XOk P X) {ct : Cont} {stk : List Cont} {fx : Fx} {env : Env} {k : K} (hk : retKs (X.at fx) env fx.fn.results.toList = some k) (hg : GoodS P X c R0 stk ct.fx ct.todo { s := put ct.s ct.dst k, b := env.b, lim := env.lim })
    {as : List Act} {a : Act} {w : World} (hS : Sim P (X.at fx) (c.stk P (ct :: stk) as) env a w) : a.defers = [] ∧ ∃ v, (results fx.fn a.tmps).run P w = .ok v w ∧ retTo P R0 (ct :: stk) as (.returned v) w := by
  obtain ⟨⟨G, hb, hC, hM, hgl, hs⟩, hfl, hsz, hdf⟩ := hS
  obtain ⟨v, hv, hn, hkv⟩ := retKs_ok (hX.at fx) (c0 := c.stk P (ct :: stk) as) ⟨⟨G, hb, hC, hM, hgl, hs⟩, hfl, hsz, hdf⟩ hb hM hs hk
  refine ⟨hdf, v, hv, ?_⟩
  cases as with
  | nil => exact hC.J.elim
  | cons a1 as =>
    obtain ⟨h1, h2, h3, h4, h5, h6⟩ := (hC.J : StkOk P (ct :: stk) (a1 :: as) G w)
    refine ⟨v, rfl, fun b cs => hg as (a1.put ct.dst v) w ⟨⟨G, hb, ⟨hC.O, hC.w0, hC.own, h6⟩, hM, hgl, ?_⟩, put_flat h2 (flat_nog hn), ?_, ?_⟩ b cs⟩
    · exact slots_put (o := { (default : Oper) with dst := ct.dst }) rfl h2 h1 h3 h5 (fun d hd => hkv.tm hn)
    · cases hd : ct.dst <;> simp [Act.put, h3, TabX.at]
    · cases hd : ct.dst <;> simp [Act.put, h4]

theorem kParts_ok {G : Gst} {tm : Nat → Value} : ∀ {cap : K} {vs : List Value}, KV P G w tm cap (.tuple vs.toArray) → nog cap = true → kEnd cap = true → vs.length = (kParts cap).length ∧ ∀ (n : Nat) (k : K), (kParts cap)[n]? = some k → ∃ v, vs[n]? = some v ∧ nog k = true ∧ KV P G w tm k v := by
  intro cap
  induction cap with
  | kcons p q _ ihq =>
    intro vs h hn he
    simp only [nog, Bool.and_eq_true] at hn
    obtain ⟨x, xs, e, h1, h2⟩ := h
    have e : vs = x :: xs := by injection e with e; simpa using congrArg Array.toList e
    subst e
    obtain ⟨i1, i2⟩ := ihq h2 hn.2 he
    refine ⟨by simp [kParts, i1], fun n k hk => ?_⟩
    cases n with
    | zero =>
      have e : p = k := by simpa [kParts] using hk
      subst e
      exact ⟨x, rfl, hn.1, h1⟩
    | succ n => exact i2 n k (by simpa [kParts] using hk)
  | knil =>
    intro vs h _ _
    have h : Value.tuple vs.toArray = .tuple #[] := h
    have e : vs = [] := by injection h with e; simpa using congrArg Array.toList e
    subst e
    exact ⟨rfl, fun n k hk => by simp [kParts] at hk⟩
  | _ => intro vs _ _ he; cases he

/-- A call that is entered: how it begins. -/
theorem enters_ok (hX : XOk P X) {fx fx' : Fx} {o : Oper} {env : Env} {ks : List K} (h : enters X (X.at fx) o env = some (fx', ks)) {c0 : Cx} {a : Act} {w : World} (hS : Sim P (X.at fx) c0 env a w) :
    o.guard = none ∧ dstOk fx.fn.ntmps o = true ∧ ∃ f args cb, P.funcs[f]? = some fx'.fn ∧ fx'.fn.body = some cb ∧ (execOp a.eval o).run P w = .ok (.enter f args) w ∧
      args.size ≤ fx'.fn.ntmps ∧ ∀ G : Gst, G.b = env.b → MemOk P G w → GlobOk P X.D.G G.av w → (∀ n, KV P G w (tmF a) (env.s n) (tmF a n)) →
        (∀ n, KV P G w (tmF { tmps := args ++ Array.replicate (fx'.fn.ntmps - args.size) undef, defers := [] }) (slotsOf ks n) (tmF { tmps := args ++ Array.replicate (fx'.fn.ntmps - args.size) undef, defers := [] } n)) ∧ (∀ n, flat (slotsOf ks n) = true) := by
  unfold enters at h
  split at h
  · cases h
  · rename_i hcond
    simp only [Bool.or_eq_true, not_or, Bool.not_eq_true] at hcond
    have hg : o.guard = none := by simpa using hcond.1
    have hdst : dstOk (X.at fx).n o = true := by simpa using hcond.2
    refine ⟨hg, hdst, ?_⟩
    -- the slots of one that is entered
    have slots : ∀ {G : Gst} {args : Array Value} {N : Nat} (hN : args.size ≤ N) {ks : List K}, (∀ (n : Nat) (k : K), ks[n]? = some k → ∃ v, args[n]? = some v ∧ nog k = true ∧ KV P G w (tmF a) k v) →
        (∀ n, KV P G w (tmF { tmps := args ++ Array.replicate (N - args.size) undef, defers := [] }) (slotsOf ks n) (tmF { tmps := args ++ Array.replicate (N - args.size) undef, defers := [] } n)) ∧ (∀ n, flat (slotsOf ks n) = true) := by
      intro G args N hN ks hks
      refine ⟨fun n => ?_, fun n => ?_⟩
      · unfold slotsOf
        rw [List.getD_eq_getElem?_getD]
        cases hk : ks[n]? with
        | none => trivial
        | some k =>
          obtain ⟨v, hv, hn, hkv⟩ := hks n k hk
          have e : tmF { tmps := args ++ Array.replicate (N - args.size) undef, defers := [] } n = v := by
            unfold tmF
            have hlt : n < args.size := (Array.getElem?_eq_some_iff.1 hv).1
            rw [Array.getD_eq_getD_getElem?, Array.getElem?_append, if_pos hlt, hv]
            rfl
          rw [e]
          exact hkv.tm hn
      · unfold slotsOf
        rw [List.getD_eq_getElem?_getD]
        cases hk : ks[n]? with
        | none => rfl
        | some k => obtain ⟨_, _, hn, _⟩ := hks n k hk; exact flat_nog hn
    split at h
    · rename_i cl ho
      split at h
      · rename_i q hq
        obtain ⟨⟨G0, hb0, hC0, hM0, hgl0, hs0⟩, _⟩ := hS
        have hr0 := rd_ok (a := a) (tm := tmF a) (hX.at fx).toDOk hgl0 (g := none) (fun _ _ e => by cases e) hs0 (fun _ => rfl) q
        split at h
        · rename_i f hf
          split at h
          · rename_i fx1 hfx
            split at h
            · rename_i hle
              simp only [Option.some.injEq, Prod.mk.injEq] at h
              obtain ⟨rfl, rfl⟩ := h
              obtain ⟨h1, h2, h3⟩ := hX.inl f fx1 hfx
              obtain ⟨cb, hcb⟩ := Option.isSome_iff_exists.1 h2
              rw [hf] at hr0
              have hr0 : a.eval q = .func (.func f) #[] #[] := hr0
              have hle : cl.args.size ≤ fx1.fn.ntmps := of_decide_eq_true hle
              refine ⟨f, cl.args.map a.eval, cb, h1, hcb, ?_, by simpa using hle, fun G hb hM hgl hs => ?_⟩
              · simp only [execOp, ho, resolve, hq, hr0, Deferred.ofValue, Sem.run_bind, Sem.run_pure, Result.andThen_ok, invoke, Array.append_empty, Array.empty_append]
                exact h3 _ _
              · refine slots (by simpa using hle) (fun n k hk => ?_)
                rw [List.getElem?_map] at hk
                obtain ⟨x, hx, rfl⟩ := Option.map_eq_some_iff.1 hk
                have hx' : cl.args[n]? = some x := by simpa using hx
                exact ⟨a.eval x, by rw [Array.getElem?_map, hx']; rfl, nog_strip _, (rd_ok (a := a) (tm := tmF a) (hX.at fx).toDOk hgl (g := none) (fun _ _ e => by cases e) hs (fun _ => rfl) x).strip⟩
            · cases h
          · cases h
        · rename_i f cap hf
          split at h
          · rename_i fx1 hfx
            split at h
            · rename_i hle
              simp only [Bool.and_eq_true, decide_eq_true_eq] at hle
              simp only [Option.some.injEq, Prod.mk.injEq] at h
              obtain ⟨rfl, rfl⟩ := h
              obtain ⟨h1, h2, h3⟩ := hX.inl f fx1 hfx
              obtain ⟨cb, hcb⟩ := Option.isSome_iff_exists.1 h2
              rw [hf] at hr0
              obtain ⟨vs, hv1, hv2⟩ := hr0
              obtain ⟨p1, _⟩ := kParts_ok hv1 hle.1.2 hle.2
              have hsz : (cl.args.map a.eval ++ vs.toArray).size ≤ fx1.fn.ntmps := by simp [p1]; exact hle.1.1
              refine ⟨f, cl.args.map a.eval ++ vs.toArray, cb, h1, hcb, ?_, hsz, fun G hb hM hgl hs => ?_⟩
              · simp only [execOp, ho, resolve, hq, hv2, Deferred.ofValue, Sem.run_bind, Sem.run_pure, Result.andThen_ok, invoke, Array.empty_append]
                exact h3 _ _
              · have hrq := rd_ok (a := a) (tm := tmF a) (hX.at fx).toDOk hgl (g := none) (fun _ _ e => by cases e) hs (fun _ => rfl) q
                rw [hf] at hrq
                obtain ⟨vs', hv1', hv2'⟩ := hrq
                have evs : vs' = vs := by
                  rw [hv2] at hv2'
                  injection hv2' with _ _ e
                  simpa using congrArg Array.toList e.symm
                subst evs
                obtain ⟨_, p2⟩ := kParts_ok hv1' hle.1.2 hle.2
                refine slots hsz (fun n k hk => ?_)
                rw [List.getElem?_append] at hk
                simp only [List.length_map, Array.length_toList] at hk
                split at hk
                · rename_i hlt
                  rw [List.getElem?_map] at hk
                  obtain ⟨x, hx, rfl⟩ := Option.map_eq_some_iff.1 hk
                  have hx' : cl.args[n]? = some x := by simpa using hx
                  exact ⟨a.eval x, by rw [Array.getElem?_append, if_pos (by simpa using hlt), Array.getElem?_map, hx']; rfl, nog_strip _, (rd_ok (a := a) (tm := tmF a) (hX.at fx).toDOk hgl (g := none) (fun _ _ e => by cases e) hs (fun _ => rfl) x).strip⟩
                · rename_i hlt
                  obtain ⟨v, hv, hn, hkv⟩ := p2 _ _ hk
                  exact ⟨v, by rw [Array.getElem?_append, if_neg (by simpa using hlt)]; simpa using hv, hn, hkv⟩
            · cases h
          · cases h
        · cases h
      · cases h
    · cases h

/-- What a call that is entered does, and what is behind it. -/
theorem goodS_enter (hX : XOk P X) {stk : List Cont} {fx fx' : Fx} {ops : Array Oper} {i : Nat} {l : List Nat} {k : List Item} {o : Oper} {env : Env} {ks : List K} (hi : ops[i]? = some o) (h : enters X (X.at fx) o env = some (fx', ks)) {lim : Nat}
    (hg : GoodS P X c R0 (⟨fx, .inRegion ops l :: k, o.dst, env.s⟩ :: stk) fx' (bodyOf fx'.fn) { s := slotsOf ks, b := env.b, lim }) : GoodS P X c R0 stk fx (.inRegion ops (i :: l) :: k) env := by
  intro as a w hS b cs
  obtain ⟨hgd, hdst, f, args, cb, hf, hcb, hrun, hsz, hsl⟩ := enters_ok hX h hS
  obtain ⟨⟨G, hb, hC, hM, hgl, hs⟩, hfl, hsize, hdf⟩ := hS
  obtain ⟨hs1, hs2⟩ := hsl G hb hM hgl hs
  have hw : Region.wanted o (yielded ops a.tmps) = true := by unfold Region.wanted; rw [hgd]
  let b' : Frame := { (default : Frame) with fn := f, kind := .normal }
  have henter : Frame.enter P f args .normal = b'.at { tmps := args ++ Array.replicate (fx'.fn.ntmps - args.size) undef, defers := [] } (bodyOf fx'.fn) := by
    simp [Frame.enter, Frame.at, hf, hcb, b', bodyOf]
  have hstep : step P (lone (b.at a (.inRegion ops (i :: l) :: k)) cs w) = .next (lone (Frame.enter P f args .normal) (b.at a (.inRegion ops (i :: l) :: k) :: cs) w) :=
    step_lone_go (by rw [stepG_op hi hw]; simp [stepG.apply, hrun, Frame.at])
  have hS' : Sim P (X.at fx') (c.stk P (⟨fx, .inRegion ops l :: k, o.dst, env.s⟩ :: stk) (a :: as)) { s := slotsOf ks, b := env.b, lim } { tmps := args ++ Array.replicate (fx'.fn.ntmps - args.size) undef, defers := [] } w :=
    ⟨⟨G, hb, ⟨hC.O, hC.w0, hC.own, ⟨hs, hfl, hsize, hdf, hdst, hC.J⟩⟩, hM, hgl, hs1⟩, hs2, by simp [TabX.at]; omega, rfl⟩
  obtain ⟨e, a', w', hq, harr⟩ := hg (a :: as) _ w hS' b' (b.at a (.inRegion ops (i :: l) :: k) :: cs)
  rw [← henter] at harr
  have fin : ∀ {v : Value} {fr : Frame}, Steps P (lone (Frame.enter P f args .normal) (b.at a (.inRegion ops (i :: l) :: k) :: cs) w) (lone fr (b.at a (.inRegion ops (i :: l) :: k) :: cs) w') → fr.leaving P w' (.returned v) → retTo P R0 (⟨fx, .inRegion ops l :: k, o.dst, env.s⟩ :: stk) (a :: as) (.returned v) w' →
      ∃ e a' w', bodyPost P fx.fn (retTo P R0 stk as) e a' w' ∧ Arrives P (lone (b.at a (.inRegion ops (i :: l) :: k)) cs w) b [] cs e a' w' := by
    intro v fr hst hlv hret
    obtain ⟨v', e1, hret⟩ := hret
    cases e1
    obtain ⟨e2, a2, w2, hq2, harr2⟩ := hret b cs
    refine ⟨e2, a2, w2, hq2, .of_steps (.head hstep (hst.trans (.one ?_))) harr2⟩
    have hfin : (b.at a (.inRegion ops (i :: l) :: k)).finish v = b.at (a.put o.dst v) (.inRegion ops l :: k) := by rw [Frame.finish_at, hi]; rfl
    rw [← hfin]
    exact step_leave_returned hlv
  cases e with
  | normal =>
    obtain ⟨hd, v, hr, hR⟩ := hq
    exact fin (Steps.trans harr (.one step_end)) ⟨rfl, hd, rfl, fx'.fn, hf, hr⟩ hR
  | ret =>
    obtain ⟨hd, v, hr, hR⟩ := hq
    obtain ⟨todo, hst⟩ := harr
    exact fin hst ⟨rfl, hd, rfl, fx'.fn, hf, hr⟩ hR
  | panic chain =>
    obtain ⟨_, hR⟩ := hq
    obtain ⟨v, e1, _⟩ := hR
    cases e1
  | outgrown =>
    obtain ⟨v, e1, _⟩ := hq
    cases e1
  | exit _ => exact hq.elim
  | goto _ => exact hq.elim

theorem shareAll_good {Z : K → Prop} : ∀ (l : List Nat) (env : Env) (k : Env → TreeS), TreeGoodS P X c R0 Z (shareAll l env k) → TreeGoodS P X c R0 Z (k env)
  | [], env, k, h => h
  | d :: l, env, k, h => by
    unfold shareAll at h
    split at h
    · rename_i t x hd
      have := shareAll_good l _ k (h x rfl)
      rwa [show ({ env with s := fun n => if n = d then .val t x else env.s n } : Env) = env from by
        have : (fun n => if n = d then K.val t x else env.s n) = env.s := by
          funext n
          split
          · rename_i e; rw [e, hd]
          · rfl
        rw [this]] at this
    · rename_i t x hd
      have := shareAll_good l _ k (h x rfl)
      rwa [show ({ env with s := fun n => if n = d then .tup t x else env.s n } : Env) = env from by
        have : (fun n => if n = d then K.tup t x else env.s n) = env.s := by
          funext n
          split
          · rename_i e; rw [e, hd]
          · rfl
        rw [this]] at this
    · exact shareAll_good l env k h

theorem treeS_good (hX : XOk P X) (hZ : ∀ fx env, TreeGoodS P X c R0 Z (atRetS X m fx env) → ∀ as a w, Sim P (X.at fx) (c.stk P [] as) env a w → a.defers = [] ∧ ∃ v, (results fx.fn a.tmps).run P w = .ok v w ∧ R0 (.returned v) w) :
    ∀ (n : Nat) (stk : List Cont) (fx : Fx) (todo : List Item) (env : Env), TreeGoodS P X c R0 Z (treeS X m n stk fx todo env) → GoodS P X c R0 stk fx todo env
  | 0, _, _, _, _, h => h.elim
  | n + 1, stk, fx, [], env, h => by
    cases stk with
    | nil =>
      intro as a w hS b cs
      exact ⟨.normal, a, w, hZ fx env h as a w hS, .refl _ _⟩
    | cons ct stk =>
      have h : TreeGoodS P X c R0 Z (match retKs (X.at fx) env fx.fn.results.toList with | some k => treeS X m n stk ct.fx ct.todo { s := put ct.s ct.dst k, b := env.b, lim := env.lim } | none => .bad 33) := h
      split at h
      · rename_i k hk
        intro as a w hS b cs
        exact ⟨.normal, a, w, goodS_ret hX hk (treeS_good hX hZ n _ _ _ _ h) hS, .refl _ _⟩
      · exact h.elim
  | n + 1, stk, fx, .code cd :: k, env, h => by
    cases cd with
    | skip => exact goodS_step (fun _ _ _ _ => step_skip) (treeS_good hX hZ n _ _ _ _ h)
    | region id ops draw =>
      have hT : TreeGoodS P X c R0 Z (match freezeAll ((fx.ann.frz.lookup id).getD []) env with
        | none => .bad 6
        | some env =>
          if draw then
            (match ordAny (X.at fx) ops env with
            | none => .bad 12
            | some ord => (match vidx (X.at fx) ops ord env with
              | none => .bad (1000 + id)
              | some (env', ps) => reqsS ps (shareAll (ops.toList.flatMap (shareOfD fx)) { env' with lim := env'.lim + 1000 } fun env => treeS X m n stk fx k env)))
          else treeS X m n stk fx (.inRegion ops (List.range ops.size) :: k) { env with lim := env.lim + 1000 }) := h
      clear h
      split at hT
      · exact hT.elim
      · rename_i env1 hf
        split at hT
        · rename_i hd
          split at hT
          · exact hT.elim
          · rename_i ord hreg
            split at hT
            · exact hT.elim
            · rename_i env2 ps hv
              subst hd
              obtain ⟨hp, ht⟩ := reqsS_good hT
              intro as a w hS b cs
              obtain ⟨e, a', w', ⟨he, hS'⟩, harr⟩ := region_soundA (c0 := c.stk P stk as) (id := id) (hX.at fx) hX.ht hreg (Q := fun e a w => e = .normal ∧ Sim P (X.at fx) (c.stk P stk as) env2 a w) hv hp (freezeAll_sound hf hS) (fun _ _ h => ⟨rfl, h⟩) b k cs
              subst he
              obtain ⟨e, a'', w'', hq, h2⟩ := treeS_good hX hZ n _ _ _ _ (shareAll_good _ _ _ ht) as a' w' ⟨hS'.ex, hS'.flat, hS'.size, hS'.defers⟩ b cs
              exact ⟨e, a'', w'', hq, .of_steps harr h2⟩
        · rename_i hd
          have hd : draw = false := by simpa using hd
          subst hd
          intro as a w hS b cs
          have hS1 := freezeAll_sound hf hS
          obtain ⟨e, a'', w'', hq, h2⟩ := treeS_good hX hZ n _ _ _ _ hT as a w ⟨hS1.ex, hS1.flat, hS1.size, hS1.defers⟩ b cs
          exact ⟨e, a'', w'', hq, .of_steps (.one step_region) h2⟩
    | seq x y => exact goodS_step (fun _ _ _ _ => step_seq) (treeS_good hX hZ n _ _ _ _ h)
    | cond cc x y =>
      have h : TreeGoodS P X c R0 Z (match boolK (rd (X.at fx) env.s none cc) with
        | some t => .ite t (treeS X m n stk fx (.code x :: k) env) (treeS X m n stk fx (.code y :: k) env)
        | none => .bad 7) := h
      split at h
      · rename_i t ht
        have hb : ∀ {as : List Act} {a : Act} {w : World}, Sim P (X.at fx) (c.stk P stk as) env a w → a.eval cc = .bool t := by
          intro as a w hS
          obtain ⟨⟨G, _, _, _, hgl, hs⟩, _⟩ := hS
          have := rd_ok (a := a) (tm := tmF a) (hX.at fx).toDOk hgl (g := none) (fun _ _ e => by cases e) hs (fun _ => rfl) cc
          unfold boolK at ht
          split at ht
          · rename_i b e
            have e' := Option.some.inj ht
            subst e'
            rw [e] at this
            exact vrep_bool.1 this
          · cases ht
        cases t with
        | true =>
          intro as a w hS b cs
          obtain ⟨e, a', w', hq, harr⟩ := treeS_good hX hZ n _ _ _ _ (h.1 rfl) as a w hS b cs
          exact ⟨e, a', w', hq, .of_steps (.one (step_cond (hb hS))) harr⟩
        | false =>
          intro as a w hS b cs
          obtain ⟨e, a', w', hq, harr⟩ := treeS_good hX hZ n _ _ _ _ (h.2 rfl) as a w hS b cs
          exact ⟨e, a', w', hq, .of_steps (.one (step_cond (hb hS))) harr⟩
      · exact h.elim
    | block id bd => exact goodS_step (fun _ _ _ _ => step_block) (treeS_good hX hZ n _ _ _ _ h)
    | loop bd =>
      have h : TreeGoodS P X c R0 Z (match (firstReg bd).bind (fun i => (List.lookup i fx.ann.loops).map fun L => (i, L)) with
        | some (i, L) => atLoopS L.keep L.own (stkKeeps fx i) stk fx (.code bd :: .inLoop bd :: k) env
        | none => .bad 8) := h
      split at h
      · exact goodS_step (fun _ _ _ _ => step_loop) (loopS_sound h (fun σ as => retTo_stkX R0 σ stk _ as))
      · exact h.elim
    | exit id =>
      have h : TreeGoodS P X c R0 Z (match exitTo id k with
        | some k' => treeS X m n stk fx k' env
        | none => .bad 9) := h
      split at h
      · rename_i k' hk
        exact goodS_step (fun _ _ _ _ => step_exit hk) (treeS_good hX hZ n _ _ _ _ h)
      · exact h.elim
    | ret =>
      cases stk with
      | nil =>
        intro as a w hS b cs
        exact ⟨.ret, a, w, hZ fx env h as a w hS, _, .one step_ret⟩
      | cons ct stk =>
        have h : TreeGoodS P X c R0 Z (match retKs (X.at fx) env fx.fn.results.toList with | some k => treeS X m n stk ct.fx ct.todo { s := put ct.s ct.dst k, b := env.b, lim := env.lim } | none => .bad 33) := h
        split at h
        · rename_i k hk
          intro as a w hS b cs
          exact ⟨.ret, a, w, goodS_ret hX hk (treeS_good hX hZ n _ _ _ _ h) hS, _, .one step_ret⟩
        · exact h.elim
    | _ => exact h.elim
  | n + 1, stk, fx, .inBlock _ :: k, env, h => goodS_step (fun _ _ _ _ => step_inBlock) (treeS_good hX hZ n _ _ _ _ h)
  | n + 1, stk, fx, .inLoop bd :: k, env, h => by
    have h : TreeGoodS P X c R0 Z (match (firstReg bd).bind (fun i => (List.lookup i fx.ann.loops).map fun L => (i, L)) with
      | some (i, L) => atLoopS L.keep L.own (stkKeeps fx i) stk fx (.code bd :: .inLoop bd :: k) env
      | none => .bad 8) := h
    split at h
    · exact goodS_step (fun _ _ _ _ => step_inLoop) (loopS_sound h (fun σ as => retTo_stkX R0 σ stk _ as))
    · exact h.elim
  | n + 1, stk, fx, .inRegion ops [] :: k, env, h => goodS_step (fun _ _ _ _ => step_region_end) (treeS_good hX hZ n _ _ _ _ h)
  | n + 1, stk, fx, .inRegion ops (i :: l) :: k, env, h => by
    have h : TreeGoodS P X c R0 Z (match ops[i]? with
      | none => .bad 20
      | some o => match enters X (X.at fx) o env with
        | some (fx', ks) => treeS X m n (⟨fx, .inRegion ops l :: k, o.dst, env.s⟩ :: stk) fx' (bodyOf fx'.fn) { s := slotsOf ks, b := env.b, lim := env.lim + 1000 }
        | none => match vopX X (X.at fx) ops o env with
          | none => .bad (100000 + 1000 * (firstReg (.region 0 ops false)).getD 0 + i)
          | some (.one env' ps) => reqsS ps (shareAll (shareOf fx o) env' fun env => treeS X m n stk fx (.inRegion ops l :: k) env)
          | some (.ex α p f) => .all α p fun x => treeS X m n stk fx (.inRegion ops l :: k) (f x)) := h
    split at h
    · exact h.elim
    · rename_i o hi
      split at h
      · rename_i fx' ks he
        exact goodS_enter hX hi he (treeS_good hX hZ n _ _ _ _ h)
      · split at h
        · exact h.elim
        · rename_i env' ps hv
          obtain ⟨hp, ht⟩ := reqsS_good h
          intro as a w hS b cs
          obtain ⟨a', w', hS', hst⟩ := vopX_sound hX hv hS hi (rest := l) (k := k) b cs hp
          obtain ⟨e, a'', w'', hq, h2⟩ := treeS_good hX hZ n _ _ _ _ (shareAll_good _ _ _ ht) as a' w' hS' b cs
          exact ⟨e, a'', w'', hq, .of_steps hst h2⟩
        · rename_i α p f hv
          intro as a w hS b cs
          obtain ⟨x, hx, a', w', hS', hst⟩ := vopX_sound hX hv hS hi (rest := l) (k := k) b cs
          obtain ⟨e, a'', w'', hq, h2⟩ := treeS_good hX hZ n _ _ _ _ (h x hx) as a' w' hS' b cs
          exact ⟨e, a'', w'', hq, .of_steps hst h2⟩
  | n + 1, _, _, .inScope _ :: _, _, h => h.elim
  | n + 1, _, _, .inRangeFunc _ :: _, _, h => h.elim
  | n + 1, _, _, .endRangeFunc _ :: _, _, h => h.elim
  | n + 1, _, _, .beginRound :: _, _, h => h.elim
  | n + 1, _, _, .call .. :: _, _, h => h.elim
  | n + 1, _, _, .extern .. :: _, _, h => h.elim

end

end Go.Proofs.Ytainieginijaaaa

/- Contracts out of trees that enter other bodies; contracts of functions on rows. -/
namespace Go.Proofs.Ytainieginijaaaa
open Go Go.RowKit

/-- Words for what is printed. -/
def vok (lo n m : Nat) : Prop := lo + n ≤ m
def vpart (e : Ty) (zs : List (den e)) (lo n : Nat) : List (den e) := (zs.drop lo).take n

section
variable {P : Program} {X : TabX} {a : Act} {w : World}

/-- What holds of a datum that is yielded. -/
def ZD (rs : Ty) (p : den rs → Prop) (k : K) : Prop := ∃ x, getAs rs k = some x ∧ p x

theorem toS_good {c : Cx} {R0 : Ending → World → Prop} {rs : Ty} {p : den rs → Prop} {D : Tabs} {O : Nat → Prop} {w0 : World} {fn : Func} : ∀ {t : Tree}, TreeGoodS P X c R0 (ZD rs p) (toS t) → TreeGood P D O w0 fn rs p t
  | .ret k, h => h
  | .bad _, h => h.elim
  | .ite _ _ _, h => h.elim
  | .req _ _, h => h.elim
  | .loop _ _ _, h => h.elim

abbrev GoodD (P : Program) (X : TabX) (O : Nat → Prop) (w0 : World) (rs : Ty) (p : den rs → Prop) := TreeGoodS P X (Cx.base O w0) (Ends P O w0 rs p) (ZD rs p)

theorem bottom_data (hX : XOk P X) {O : Nat → Prop} {w0 : World} {rs : Ty} {p : den rs → Prop} : ∀ fx env, GoodD P X O w0 rs p (atRetS X (.data rs) fx env) → ∀ as a w, Sim P (X.at fx) ((Cx.base O w0).stk P [] as) env a w → a.defers = [] ∧ ∃ v, (results fx.fn a.tmps).run P w = .ok v w ∧ Ends P O w0 rs p (.returned v) w := by
  intro fx env h as a w hS
  obtain ⟨⟨G, hb, hC, hM, hgl, hs⟩, hfl, hsz, hdf⟩ := hS
  exact ret_sound (hX.at fx) (toS_good h) ⟨⟨G, hb, ⟨hC.O, hC.w0, hC.own, trivial⟩, hM, hgl, hs⟩, hfl, hsz, hdf⟩

/-- From a tree on, a body ends as it should. -/
theorem goodS_of (hX : XOk P X) {O : Nat → Prop} {w0 : World} {rs : Ty} {p : den rs → Prop} {n : Nat} {stk : List Cont} {fx : Fx} {todo : List Item} {env : Env} {T : TreeS} (heq : treeS X (.data rs) n stk fx todo env = T) (h : GoodD P X O w0 rs p T) : GoodS P X (Cx.base O w0) (Ends P O w0 rs p) stk fx todo env :=
  treeS_good hX (bottom_data hX) n stk fx todo env (by rw [heq]; exact h)

/-- A function's contract out of its tree. -/
theorem fnS_T (hX : XOk P X) {fx : Fx} {f : FuncId} {S : Spec} (hf : P.funcs[f]? = some fx.fn) (hb : (fx.fn.body.isSome && !(fx.fn.name == "runtime.NumGoroutine") && decide (arity S.as ≤ fx.fn.ntmps)) = true) (hall : S.tot = true → ∀ x, S.pre x) {n : Nat} {T : den S.as → TreeS}
    (heq : ∀ x, treeS X (.data S.rs) n [] fx (bodyOf fx.fn) (Env.of (argEnv S.as x 0) []) = T x) (h : ∀ (O : Nat → Prop) (w0 : World) (x : den S.as), okT S.as x → S.pre x → GoodD P X O w0 S.rs (fun y => y = S.g x) (T x)) : FnOk P X.D.G f S := by
  simp only [Bool.and_eq_true, Bool.not_eq_true', decide_eq_true_eq] at hb
  obtain ⟨⟨h1, h2⟩, h3⟩ := hb
  refine ⟨callable_of hf h1 h2, hall, fun O w vs x hO hg hx hp => ?_⟩
  have hg1 : GoodS P X (Cx.base O w) (Ends P O w S.rs fun y => y = S.g x) [] fx (bodyOf fx.fn) (Env.of (argEnv S.as x 0) []) := goodS_of hX (heq x) (h O w x (chain_okT hx) hp)
  have hS := sim_start (D := X.at fx) hO hg hx h3
  have hgood : Good P (X.at fx) O w fx.fn (Ends P O w S.rs fun y => y = S.g x) (bodyOf fx.fn) (Env.of (argEnv S.as x 0) []) := by
    intro a w' hS b cs
    obtain ⟨⟨G, hb, hC, hM, hgl, hs⟩, hfl, hsz, hdf⟩ := hS
    exact hg1 [] a w' ⟨⟨G, hb, ⟨hC.O, hC.w0, hC.own, trivial⟩, hM, hgl, hs⟩, hfl, hsz, hdf⟩ b cs
  refine Calls.mono (calls_of_good hf h1 hS hgood) fun e w' he => ?_
  obtain ⟨v, y, e1, e2, e3, e4⟩ := he
  exact ⟨v, e1, e2, by rw [← e4]; exact e3⟩

/-! ### Functions on rows -/

theorem vw_shift {G : Gst} {e : Ty} {v : Vw e} {val : Value} {n0 : Nat} {sp : List (den e)} (hvo : VwOk P G w e v val n0 sp) (hok : v.ok) :
    (∃ a', v.part = [] ∧ val = .slice a' 0 0) ∨ ∃ g arr eid off sp', G.bk v.id = some g ∧ val = .slice (some ⟨g, off, none⟩) v.part.length (v.part ++ sp').length ∧ G.nb g ∧ w.heap[g]? = some (.cells arr eid (0, 0)) ∧
      (v.part ++ sp').length ≤ maxLen ∧ off + (v.part ++ sp').length * siz e ≤ arr.size ∧ RepAll (Rep P e .cells G.av w) (siz e) ((arr.toList.drop off).take ((v.part ++ sp').length * siz e)) (v.part ++ sp') := by
  obtain ⟨a', hval, hle, hnone, hsome⟩ := hvo.val
  unfold Vw.ok at hok
  have hplen : v.part.length = v.n := by unfold Vw.part; simp; omega
  by_cases hlt : v.lo < (v.kn ++ sp).length
  · rcases hvo.row.row with ⟨h1, _⟩ | ⟨g, arr, eid, off, hk, hh, hnb, hg, hn, hm, hs, hrp⟩
    · have := congrArg List.length h1; simp only [List.length_nil] at this; omega
    · right
      have hA : arr.toList.length = arr.size := Array.length_toList
      have hfull : ((arr.toList.drop off).take ((v.kn ++ sp).length * siz e)).length = (v.kn ++ sp).length * siz e := by rw [List.length_take, List.length_drop, hA]; omega
      have hx := hrp.take_drop v.lo (v.kn ++ sp).length (Nat.le_refl _) hfull
      rw [List.take_of_length_le (Nat.le_refl _), List.take_of_length_le (by rw [hfull]; exact Nat.le_refl _)] at hx
      have hdrop : (v.kn ++ sp).drop v.lo = v.part ++ (v.kn ++ sp).drop (v.lo + v.n) := by
        unfold Vw.part
        rw [← List.drop_drop]
        have e1 : ((v.kn.drop v.lo).take v.n) = ((v.kn ++ sp).drop v.lo).take v.n := by
          rw [List.drop_append_of_le_length (by omega), List.take_append_of_le_length (by simp; omega)]
        rw [e1, List.take_append_drop]
      have hlen2 : (v.part ++ (v.kn ++ sp).drop (v.lo + v.n)).length = (v.kn ++ sp).length - v.lo := by rw [← hdrop, List.length_drop]
      have hmul : v.lo * siz e + ((v.kn ++ sp).length - v.lo) * siz e = (v.kn ++ sp).length * siz e := by rw [← Nat.add_mul]; congr 1; omega
      refine ⟨g, arr, eid, off + v.lo * siz e, (v.kn ++ sp).drop (v.lo + v.n), hk, ?_, hnb, hg, ?_, ?_, ?_⟩
      · rw [hval, hsome g off hk hh hlt, hplen, hlen2]
      · rw [hlen2]; omega
      · rw [hlen2]; omega
      · rw [hlen2, ← hdrop]
        have e5 : (arr.toList.drop (off + v.lo * siz e)).take (((v.kn ++ sp).length - v.lo) * siz e) = ((arr.toList.drop off).take ((v.kn ++ sp).length * siz e)).drop (v.lo * siz e) := by
          rw [List.drop_take, List.drop_drop, Nat.sub_mul]
        rw [e5]
        exact hx
  · left
    have h1 : v.n = 0 := by omega
    refine ⟨a', List.eq_nil_of_length_eq_zero (by omega), ?_⟩
    rw [hval, h1, Nat.sub_eq_zero_of_le (by omega)]

/-- How a function on rows ends. -/
def REnds (P : Program) (O : Nat → Prop) (w : World) (bk : Option Nat) (e : Ty) (xs : List (den e)) (en : Ending) (w' : World) : Prop :=
  ∃ v' G' i, en = .returned v' ∧ MemOk P G' w' ∧ G'.O = O ∧ G'.w0 = w ∧ (G'.own = fun g => bk = some g) ∧ G'.b i = .live (.row e xs) ∧ G'.hd i = v'

/-- A ghost with one row alone. -/
theorem lone_row {G : Gst} (hM : MemOk P G w) {e : Ty} {xs : List (den e)} {val : Value} {bk : Option Nat} (hbk : ∀ g, bk = some g → ∃ i x, G.b i = .live x ∧ G.bk i = some g)
    (h : (∃ a', xs = [] ∧ bk = none ∧ val = .slice a' 0 0) ∨ ∃ g arr eid off sp', bk = some g ∧ val = .slice (some ⟨g, off, none⟩) xs.length (xs ++ sp').length ∧ G.nb g ∧ w.heap[g]? = some (.cells arr eid (0, 0)) ∧
      (xs ++ sp').length ≤ maxLen ∧ off + (xs ++ sp').length * siz e ≤ arr.size ∧ RepAll (Rep P e .cells G.av w) (siz e) ((arr.toList.drop off).take ((xs ++ sp').length * siz e)) (xs ++ sp')) :
    ∃ G' : Gst, MemOk P G' w ∧ G'.O = G.O ∧ G'.w0 = G.w0 ∧ G'.own = G.own ∧ G'.b 0 = .live (.row e xs) ∧ G'.hd 0 = val := by
  let G' : Gst := { hd := fun _ => val, bk := fun n => if n = 0 then bk else none, b := fun n => if n = 0 then .live (.row e xs) else .no, O := G.O, w0 := G.w0, own := G.own }
  have hav : ∀ g, G'.av g → G.av g := by
    rintro g (h | ⟨i, z, h1, h2⟩)
    · exact .inl h
    · by_cases e : i = 0
      · subst e
        obtain ⟨i', x', h3, h4⟩ := hbk g h2
        exact .inr ⟨i', x', h3, h4⟩
      · simp [G', e] at h1
  have hlat : Lat G.av w G'.av w := ⟨Nat.le_refl _, fun b _ h => ⟨rfl, fun h' => h (hav b h')⟩⟩
  refine ⟨G', ⟨hM.kept, hM.old, hM.dis, fun i z hi => ?_, fun i j y z g hi hj _ _ => ?_⟩, rfl, rfl, rfl, rfl, rfl⟩
  · by_cases e : i = 0
    · subst e
      have : z = .row _ xs := by simpa [G'] using hi.symm
      subst this
      rcases h with ⟨a', h1, h2, h3⟩ | ⟨g, arr, eid, off, sp', h1, h2, h3, h4, h5, h6, h7⟩
      · exact .inl ⟨h1, h2, a', h3⟩
      · exact .inr ⟨g, arr, eid, off, sp', h1, h2, h3, h4, h5, h6, h7.imp fun _ _ r => r.lat hlat⟩
    · simp [G', e] at hi
  · by_cases e : i = 0
    · by_cases f : j = 0
      · rw [e, f]
      · simp [G', f] at hj
    · simp [G', e] at hi

abbrev rcx (O : Nat → Prop) (w : World) (bk : Option Nat) : Cx := ⟨O, fun g => bk = some g, w, fun _ _ => True, fun _ _ _ _ _ _ => trivial⟩

/-- A row that is yielded. -/
def ZR (e : Ty) (xs : List (den e)) (k : K) : Prop := k = .val (.slc e) xs

theorem bottom_row (hX : XOk P X) {O : Nat → Prop} {w0 : World} {bk : Option Nat} {e : Ty} {xs : List (den e)} : ∀ fx env, TreeGoodS P X (rcx O w0 bk) (REnds P O w0 bk e xs) (ZR e xs) (atRetS X (.row e) fx env) → ∀ as a w, Sim P (X.at fx) ((rcx O w0 bk).stk P [] as) env a w →
    a.defers = [] ∧ ∃ v, (results fx.fn a.tmps).run P w = .ok v w ∧ REnds P O w0 bk e xs (.returned v) w := by
  intro fx env h as a w hS
  obtain ⟨⟨G, hb, hC, hM, hgl, hs⟩, hfl, hsz, hdf⟩ := hS
  refine ⟨hdf, ?_⟩
  have h : TreeGoodS P X (rcx O w0 bk) (REnds P O w0 bk e xs) (ZR e xs) (rowRet e fx.fn env) := h
  unfold rowRet at h
  split at h
  · rename_i t ht
    have hres : (results fx.fn a.tmps).run P w = .ok (tmF a t) w := by
      rw [results_eq]
      have : (fx.fn.results.mapM (oneRes a)).run P w = Result.ok #[tmF a t] w := by
        rw [Array.mapM_eq_mapM_toList, ht]
        simp [oneRes, tmF]
      simp only [Sem.run_bind, this, Result.andThen_ok]
      rfl
    refine ⟨_, hres, ?_⟩
    have fin : ∀ {G' : Gst} {ys : List (den e)}, ys = xs → MemOk P G' w → G'.O = G.O → G'.w0 = G.w0 → G'.own = G.own → G'.b 0 = .live (.row e ys) → G'.hd 0 = tmF a t → REnds P O w0 bk e xs (.returned (tmF a t)) w := by
      intro G' ys ey h1 h2 h3 h4 h5 h6
      exact ⟨_, G', 0, rfl, h1, h2.trans hC.O, h3.trans hC.w0, h4.trans hC.own, by rw [← ey]; exact h5, h6⟩
    split at h
    · rename_i hk
      have hkv := hs t
      rw [hk] at hkv
      have hkv : tmF a t = .slice none 0 0 := hkv
      obtain ⟨G', h1, h2, h3, h4, h5, h6⟩ := lone_row (bk := none) (e := e) (xs := []) (val := tmF a t) hM (fun g h => by cases h) (.inl ⟨none, rfl, rfl, hkv⟩)
      have h : K.val (.slc e) [] = .val (.slc e) xs := h
      injection h with _ h
      exact fin h h1 h2 h3 h4 h5 h6
    · split at h
      · rename_i v hv
        obtain ⟨hok, h⟩ := h
        rw [← hb] at hv
        obtain ⟨n0, sp, hvo⟩ := vwOf_ok hM (hs t) hv
        obtain ⟨bx, hlive⟩ := hvo.row.live
        have h : K.val (.slc e) v.part = .val (.slc e) xs := h
        injection h with _ h
        rcases vw_shift hvo hok with ⟨a', e1, e2⟩ | ⟨g, arr, eid, off, sp', q1, q⟩
        · obtain ⟨G', h1, h2, h3, h4, h5, h6⟩ := lone_row (bk := none) (e := e) (xs := v.part) (val := tmF a t) hM (fun g h => by cases h) (.inl ⟨a', e1, rfl, e2⟩)
          exact fin h h1 h2 h3 h4 h5 h6
        · obtain ⟨G', h1, h2, h3, h4, h5, h6⟩ := lone_row (bk := some g) (e := e) (xs := v.part) (val := tmF a t) hM (fun g' h => by cases h; exact ⟨_, _, hlive, q1⟩) (.inr ⟨g, arr, eid, off, sp', rfl, q⟩)
          exact fin h h1 h2 h3 h4 h5 h6
      · exact h.elim
  · exact h.elim

abbrev GoodR (P : Program) (X : TabX) (O : Nat → Prop) (w0 : World) (bk : Option Nat) (e : Ty) (xs : List (den e)) := TreeGoodS P X (rcx O w0 bk) (REnds P O w0 bk e xs) (ZR e xs)

theorem goodR_of (hX : XOk P X) {O : Nat → Prop} {w0 : World} {bk : Option Nat} {e : Ty} {xs : List (den e)} {n : Nat} {stk : List Cont} {fx : Fx} {todo : List Item} {env : Env} {T : TreeS} (heq : treeS X (.row e) n stk fx todo env = T) (h : GoodR P X O w0 bk e xs T) : GoodS P X (rcx O w0 bk) (REnds P O w0 bk e xs) stk fx todo env :=
  treeS_good hX (bottom_row hX) n stk fx todo env (by rw [heq]; exact h)

/-- What a function on rows begins with. -/
def rowEnv (S : RSpec) (xs : List (den S.e)) (y : den S.as) : Env :=
  if S.arg then Env.of ((0, .sl 0 S.e) :: argEnv S.as y 1) [(0, .row S.e xs)] else Env.of (argEnv S.as y 0) []

theorem rowFn_T (hX : XOk P X) {fx : Fx} {f : FuncId} {S : RSpec} (hret : S.ret = true) (hf : P.funcs[f]? = some fx.fn) (hb : (fx.fn.body.isSome && !(fx.fn.name == "runtime.NumGoroutine") && decide (arity S.as + 1 ≤ fx.fn.ntmps)) = true) {n : Nat} {T : List (den S.e) → den S.as → TreeS}
    (heq : ∀ xs y, (S.arg = false → xs = []) → treeS X (.row S.e) n [] fx (bodyOf fx.fn) (rowEnv S xs y) = T xs y) (h : ∀ (O : Nat → Prop) (w0 : World) (bk : Option Nat) (xs : List (den S.e)) (y : den S.as), xs.length ≤ maxLen → okT S.as y → S.pre xs y → GoodR P X O w0 bk S.e (S.g xs y) (T xs y)) : RFnOk P X.D.G f S := by
  simp only [Bool.and_eq_true, Bool.not_eq_true', decide_eq_true_eq] at hb
  obtain ⟨⟨h1, h2⟩, h3⟩ := hb
  refine ⟨callable_of hf h1 h2, hret, fun O w hv bk xs vs y harg hM hgl hx hp => ?_⟩
  have hxl : xs.length ≤ maxLen := by
    cases ha : S.arg with
    | false => rw [(harg ha).1]; exact Nat.zero_le _
    | true =>
      rw [ha] at hM
      obtain ⟨_, _, _, h5, h6⟩ := row_hd hM (id := 0) (e := S.e) (xs := xs) (by simp [rowG])
      exact Nat.le_trans h5 h6
  have hg1 : GoodS P X (rcx O w bk) (REnds P O w bk S.e (S.g xs y)) [] fx (bodyOf fx.fn) (rowEnv S xs y) :=
    goodR_of hX (heq xs y (fun h => (harg h).1)) (h O w bk xs y hxl (chain_okT hx) hp)
  obtain ⟨c, hbody⟩ := Option.isSome_iff_exists.1 h1
  let args := ((if S.arg then [hv] else []) ++ vs).toArray
  let G := rowG O w hv bk (if S.arg then .live (.row S.e xs) else .no)
  have hvl : vs.length = arity S.as := (argEnv_ok 0 hx).1
  have hsz : args.size ≤ fx.fn.ntmps := by simp only [args]; split <;> simp <;> omega
  have hS : Sim P (X.at fx) ((rcx O w bk).stk P [] []) (rowEnv S xs y) { tmps := args ++ Array.replicate (fx.fn.ntmps - args.size) undef, defers := [] } w := by
    have tmv : ∀ m v, args[m]? = some v → tmF { tmps := args ++ Array.replicate (fx.fn.ntmps - args.size) undef, defers := [] } m = v := fun m v hm => by
      unfold tmF
      have hlt : m < args.size := (Array.getElem?_eq_some_iff.1 hm).1
      rw [Array.getD_eq_getD_getElem?, Array.getElem?_append, if_pos hlt, hm]
      rfl
    have slot : ∀ (i : Nat) (hi : ∀ j, vs[j]? = args[j + i]?) m k, (argEnv S.as y i).lookup m = some k → KV P G w (tmF { tmps := args ++ Array.replicate (fx.fn.ntmps - args.size) undef, defers := [] }) k (tmF { tmps := args ++ Array.replicate (fx.fn.ntmps - args.size) undef, defers := [] } m) ∧ flat k = true := by
      intro i hi m k hk
      obtain ⟨q0, q1, t', z, q2, q3⟩ := (argEnv_ok i hx).2 m k hk
      refine ⟨?_, q1⟩
      subst q2
      have hlt : m - i < vs.length := by
        have := (argEnv_ok (P := P) i hx).2 m _ hk
        have hh : ∀ (t : Ty) (x : den t) (i m : Nat) (k : K), (argEnv t x i).lookup m = some k → m < i + arity t := by
          intro t
          induction t with
          | pair p b _ ih =>
            intro x i m k hl
            have hl : List.lookup m ((i, asK p x.1) :: argEnv b x.2 (i + 1)) = some k := hl
            rw [List.lookup_cons] at hl
            split at hl
            · rename_i e
              have e : m = i := by simpa using e
              simp only [arity]; omega
            · have := ih x.2 (i + 1) m k hl
              simp only [arity]; omega
          | _ => intro x i m k hl; cases hl
        have := hh S.as y i m _ hk
        omega
      have hv' : args[m]? = some (vs.getD (m - i) undef) := by
        have := hi (m - i)
        rw [show m - i + i = m by omega] at this
        rw [← this, List.getD_eq_getElem?_getD, List.getElem?_eq_getElem hlt]
        rfl
      rw [tmv m _ hv']
      exact asK_ok q3
    refine ⟨⟨G, ?_, ⟨rfl, rfl, rfl, trivial⟩, hM, hgl, fun m => ?_⟩, fun m => ?_, by simp [TabX.at]; omega, rfl⟩
    · unfold rowEnv
      cases ha : S.arg
      · funext m
        show (if m = 0 then (if S.arg = true then BS.live _ else .no) else .no) = BS.no
        rw [ha]; split <;> rfl
      · funext m
        show (if m = 0 then (if S.arg = true then BS.live _ else .no) else .no) = ofB [(0, .row S.e xs)] m
        rw [ha]
        unfold ofB
        rw [List.lookup_cons]
        by_cases e : m = 0
        · simp [e]
        · have e' : (m == 0) = false := by simpa using e
          simp [e, e']
    · unfold rowEnv
      cases ha : S.arg
      · show KV P G w _ (ofS (argEnv S.as y 0) m) _
        unfold ofS
        split
        · rename_i k hk
          exact (slot 0 (fun j => by simp [args, ha]) m k hk).1
        · trivial
      · show KV P G w _ (ofS ((0, .sl 0 S.e) :: argEnv S.as y 1) m) _
        unfold ofS
        rw [List.lookup_cons]
        by_cases e : m = 0
        · subst e
          simp only [beq_self_eq_true]
          rw [tmv 0 hv (by simp [args, ha])]
          exact ⟨⟨.row S.e xs, .inl (by simp [G, rowG, ha])⟩, rfl⟩
        · have e' : (m == 0) = false := by simpa using e
          simp only [e']
          split
          · rename_i k hk
            exact (slot 1 (fun j => by simp [args, ha]) m k hk).1
          · trivial
    · unfold rowEnv
      cases ha : S.arg
      · show flat (ofS (argEnv S.as y 0) m) = true
        unfold ofS
        split
        · rename_i k hk
          exact ((argEnv_ok 0 hx).2 m k hk).2.1
        · rfl
      · show flat (ofS ((0, .sl 0 S.e) :: argEnv S.as y 1) m) = true
        unfold ofS
        rw [List.lookup_cons]
        by_cases e : m = 0
        · subst e; rfl
        · have e' : (m == 0) = false := by simpa using e
          simp only [e']
          split
          · rename_i k hk
            exact ((argEnv_ok 1 hx).2 m k hk).2.1
          · rfl
  intro cs
  let b : Frame := { (default : Frame) with fn := f, kind := .normal }
  have hbody' : bodyOf fx.fn = [.code c] := by unfold bodyOf; rw [hbody]; rfl
  have henter : Frame.enter P f args .normal = b.at { tmps := args ++ Array.replicate (fx.fn.ntmps - args.size) undef, defers := [] } (bodyOf fx.fn) := by
    simp [Frame.enter, Frame.at, hf, hbody, b, hbody']
  obtain ⟨e, a', w', hq, harr⟩ := hg1 [] _ w hS b cs
  rw [← henter] at harr
  cases e with
  | normal =>
    obtain ⟨hd, v, hr, hR⟩ := hq
    exact ⟨.returned v, w', _, hR, Steps.trans harr (.one step_end), rfl, rfl, hd, rfl, fx.fn, hf, hr⟩
  | ret =>
    obtain ⟨hd, v, hr, hR⟩ := hq
    obtain ⟨todo, hs⟩ := harr
    exact ⟨.returned v, w', _, hR, hs, rfl, rfl, hd, rfl, fx.fn, hf, hr⟩
  | panic chain =>
    obtain ⟨_, hR⟩ := hq
    obtain ⟨_, _, _, e1, _⟩ := hR
    cases e1
  | exit id => exact hq.elim
  | goto l => exact hq.elim
  | outgrown =>
    obtain ⟨_, _, _, e1, _⟩ := hq
    cases e1

/-! ### Tables out of contracts -/

def RowsOk (P : Program) (Gl : Globs) (R : List (Nat × RSpec)) : Prop := ∀ f S, R.lookup f = some S → RFnOk P Gl f S
def InlOk (P : Program) (R : List (Nat × Fx)) : Prop := ∀ f fx, R.lookup f = some fx → P.funcs[f]? = some fx.fn ∧ fx.fn.body.isSome = true ∧ callable P f
def OvlsOk (P : Program) (D : Tabs) (R : List Nat) : Prop := ∀ f, R.contains f = true → OvlOk P D f

theorem rows_nil {Gl : Globs} : RowsOk P Gl [] := fun _ _ h => by cases h
theorem rows_add {Gl : Globs} {R : List (Nat × RSpec)} {f : Nat} {S : RSpec} (h : RFnOk P Gl f S) (hr : RowsOk P Gl R) : RowsOk P Gl ((f, S) :: R) := fun g S' hl => by
  rw [List.lookup_cons] at hl
  split at hl
  · rename_i e
    have e : g = f := by simpa using e
    have e' := Option.some.inj hl
    subst e; subst e'
    exact h
  · exact hr g S' hl
theorem inl_nil : InlOk P [] := fun _ _ h => by cases h
theorem inl_add {R : List (Nat × Fx)} {f : Nat} {fx : Fx} (hf : P.funcs[f]? = some fx.fn) (hb : (fx.fn.body.isSome && !(fx.fn.name == "runtime.NumGoroutine")) = true) (hr : InlOk P R) : InlOk P ((f, fx) :: R) := fun g fx' hl => by
  rw [List.lookup_cons] at hl
  simp only [Bool.and_eq_true, Bool.not_eq_true'] at hb
  split at hl
  · rename_i e
    have e : g = f := by simpa using e
    have e' := Option.some.inj hl
    subst e; subst e'
    exact ⟨hf, hb.1, callable_of hf hb.1 hb.2⟩
  · exact hr g fx' hl
theorem ovl_nil {D : Tabs} : OvlsOk P D [] := fun _ h => by simp at h
theorem ovl_one {D : Tabs} {f : Nat} (h : OvlOk P D f) : OvlsOk P D [f] := fun g hg => by
  have : g = f := by simpa using hg
  rw [this]; exact h

theorem ovl_of {D : Tabs} {f : FuncId} {fn : Func} {tS tR : TypeId} {e : Ty} (hf : P.funcs[f]? = some fn) (hname : (fn.name == "runtime.NumGoroutine") = false) (hb : fn.body.isNone = true) (hn : Extern.findNext fn = none) (he : Extern.find fn = some (Extern.SlicesOverlaps.overlaps #[tS, tS] #[tR])) (ht : D.ty tS = some (.slc e)) : OvlOk P D f :=
  ⟨tS, tR, e, ht, fun args w v h => by rw [run_callFunc_extern hf hname hb hn he, h]; rfl⟩

theorem xok {T : List (Nat × Ty)} {F : List (Nat × Spec)} {G : Globs} {R : List (Nat × RSpec)} {inl : List (Nat × Fx)} {ovl : List Nat} (hD : DOk P { T, F, G }) (hh : htOk { T, F, G } = true) (h1 : RowsOk P G R) (h2 : InlOk P inl) (h3 : OvlsOk P { T, F, G } ovl) : XOk P { D := { T, F, G, R, ovl }, inl } := ⟨⟨⟨hD.tab, hD.fns, hD.mixed⟩, h1, h3⟩, hh, h2⟩

end

end Go.Proofs.Ytainieginijaaaa

/- What comes in holds data; what is proved of a law is what its statement says. -/
namespace Go.Proofs.Ytainieginijaaaa
open Go Go.RowKit Go.ChangeShapes Go.WideShapes Go.ChangeAt

/-- Data alone. -/
def datT : Ty → Bool
  | .int _ => true
  | .bool => true
  | .str => true
  | .unit => true
  | .pair a b => datT a && datT b
  | .st b => datT b
  | .arr _ e => datT e
  | .slc e => datT e
  | _ => false

section
variable {H : Type} {enc : TypeId × Value → H} {P : Program} {w : World} {spare : Nat → Bool} {held : Bool} {O : Nat → Prop}

theorem fit_cells {T : Nat → Option Ty} {t : TypeId} {τ : Ty} (h : Fit P T t τ) : P.cellsOf t = siz τ := by
  obtain ⟨i, z, hi, hs, _⟩ := h.info
  unfold Program.cellsOf
  rw [hi]; exact hs

theorem int_of_wf {k : IntKind} {n : Int} (h : (Lit.int k n).wf = true) : InK k n := by
  simpa [Lit.wf, InK] using h

/-- What reads as a datum of a type's holds one. -/
def Holds (P : Program) (w : World) (t : TypeId) (τ : Ty) (cs : List Value) : Prop := ∃ y : den τ, Rep P τ .cells (fun _ => False) w cs y

theorem rep_fields {T : Nat → Option Ty} {G : TypeId → List Value → Prop} (hT : ∀ i a, T i = some a → P.cellsOf i = siz a) (ih : ∀ i a cs, T i = some a → datT a = true → G i cs → Holds P w i a cs) : ∀ (fs : List Field) (b : Ty) (off : Nat) (cs : List Value), fieldsB T fs b off = true → datT b = true →
    (∀ f ∈ fs, G f.type ((cs.drop f.offset).take (P.cellsOf f.type))) → cs.length = off + siz b → ∃ y : den b, Rep P b .cells (fun _ => False) w (cs.drop off) y
  | [], b, off, cs, h, hd, _, hl => by
    cases b <;> simp only [fieldsB] at h <;> try cases h
    exact ⟨(), by show cs.drop off = []; rw [List.drop_eq_nil_iff]; simp [siz] at hl; omega⟩
  | f :: fs, b, off, cs, h, hd, hf, hl => by
    cases b with
    | pair a b =>
      simp only [fieldsB, Bool.and_eq_true, beq_iff_eq, decide_eq_true_eq] at h
      obtain ⟨⟨⟨⟨h1, h2⟩, _⟩, h4⟩, h5⟩ := h
      simp only [datT, Bool.and_eq_true] at hd
      have h0 := hf f (List.mem_cons_self ..)
      rw [h1, hT _ _ h2] at h0
      obtain ⟨x, hx⟩ := ih _ _ _ h2 hd.1 h0
      obtain ⟨y, hy⟩ := rep_fields hT ih fs b (off + siz a) cs h5 hd.2 (fun g hg => hf g (List.mem_cons_of_mem _ hg)) (by simp only [siz] at hl; omega)
      exact ⟨(x, y), hx, by rw [List.drop_drop]; exact hy⟩
    | _ => simp only [fieldsB] at h; cases h

theorem rep_arr {e : TypeId} {te : Ty} {G : List Value → Prop} (ih : ∀ cs, G cs → Holds P w e te cs) (cs : List Value) : ∀ (m k : Nat), (∀ i, i < m → G ((cs.drop ((k + i) * siz te)).take (siz te))) →
    ∃ ys : List (den te), ys.length = m ∧ RepAll (fun cs x => Rep P te .cells (fun _ => False) w cs x) (siz te) ((cs.drop (k * siz te)).take (m * siz te)) ys
  | 0, k, _ => ⟨[], rfl, by simp [RepAll]⟩
  | m + 1, k, h => by
    obtain ⟨y, hy⟩ := ih _ (h 0 (by omega))
    obtain ⟨ys, hl, hys⟩ := rep_arr ih cs m (k + 1) (fun i hi => by have := h (i + 1) (by omega); rwa [show k + (i + 1) = k + 1 + i by omega] at this)
    have e0 : (m + 1) * siz te = siz te + m * siz te := by rw [Nat.add_mul, Nat.one_mul, Nat.add_comm]
    have e1 : (k + 1) * siz te = siz te + k * siz te := by rw [Nat.add_mul, Nat.one_mul, Nat.add_comm]
    refine ⟨y :: ys, by simp [hl], ?_, ?_⟩
    · rw [List.take_take, Nat.min_eq_left (by omega)]; exact hy
    · rw [List.drop_take, List.drop_drop, e0, Nat.add_sub_cancel_left, Nat.add_comm (k * siz te), ← e1]; exact hys

theorem rep_row {e : TypeId} {te : Ty} {G : List Value → Prop} {a : Addr} (ih : ∀ cs, G cs → Holds P w e te cs) (hs : a.spot = none) : ∀ (m k : Nat), (∀ i, i < m → ∃ cs, w.cells? 0 (a.add ((k + i) * siz te)) (siz te) = some cs ∧ G cs) →
    ∃ (L : List Value) (ys : List (den te)), ys.length = m ∧ L.length = m * siz te ∧ RepAll (fun cs x => Rep P te .cells (fun _ => False) w cs x) (siz te) L ys ∧ ∀ j u, L[j]? = some u → w.cell? (a.add (k * siz te + j)) = some u
  | 0, k, _ => ⟨[], [], rfl, by simp, rfl, fun j u h => by simp at h⟩
  | m + 1, k, h => by
    obtain ⟨cs, hc, hG⟩ := h 0 (by omega)
    obtain ⟨y, hy⟩ := ih _ hG
    obtain ⟨L, ys, h1, h2, h3, h4⟩ := rep_row ih hs m (k + 1) (fun i hi => by have := h (i + 1) (by omega); rwa [show k + (i + 1) = k + 1 + i by omega] at this)
    unfold World.cells? at hc
    rw [if_pos (Nat.zero_le _)] at hc
    have hl : cs.length = siz te := by have := mapM_some_length hc; simpa using this
    have e0 : (m + 1) * siz te = siz te + m * siz te := by rw [Nat.add_mul, Nat.one_mul, Nat.add_comm]
    have e1 : (k + 1) * siz te = siz te + k * siz te := by rw [Nat.add_mul, Nat.one_mul, Nat.add_comm]
    refine ⟨cs ++ L, y :: ys, by simp [h1], by rw [List.length_append, hl, h2, e0], ⟨by rw [List.take_left' hl]; exact hy, by rw [List.drop_left' hl]; exact h3⟩, fun j u hj => ?_⟩
    rw [List.getElem?_append] at hj
    split at hj
    · rename_i hlt
      have := mapM_some_get hc j j (by rw [List.getElem?_range (by omega)])
      rw [Nat.add_zero, add_add _ _ _ hs] at this
      rw [this]; exact hj
    · rename_i hge
      have := h4 (j - cs.length) u hj
      rw [e1] at this
      rw [← this]; congr 2; omega

theorem rep_of_trod {T : List (Nat × Ty)} (htab : tabB P T = true) : ∀ (n : Nat) (t : TypeId) (τ : Ty) (cs : List Value) (x : DataW H × List MemPlace), T.lookup t = some τ → datT τ = true → DataW.trod enc P w 0 spare held n t cs = some x → Holds P w t τ cs
  | 0, t, τ, cs, x, hl, hd, h => by simp [DataW.trod] at h
  | n + 1, t, τ, cs, x, hl, hd, h => by
    have hf := fit_of_tab htab hl
    have hT : ∀ i a, (fun i => T.lookup i) i = some a → P.cellsOf i = siz a := fun i a h => fit_cells (fit_of_tab htab h)
    have hs := hf.shape
    cases τ with
    | int k =>
      obtain ⟨z, h1, _, h3⟩ := DataW.trod_int (shape_int hs) h
      exact ⟨z, h1, int_of_wf h3⟩
    | bool =>
      obtain ⟨z, h1, _⟩ := DataW.trod_bool (shape_bool hs) h
      exact ⟨z, h1⟩
    | str =>
      obtain ⟨z, h1, _, h3⟩ := DataW.trod_string (shape_str hs) h
      exact ⟨z, h1, h3⟩
    | st b =>
      obtain ⟨fs, hu, hfs, _⟩ := shape_st hs
      obtain ⟨xs, m, hm, _, h3, h4, h5⟩ := DataW.trod_struct hu h
      cases hm
      have hsz := hT t _ hl
      rw [hsz] at h3
      have := rep_fields (w := w) (G := fun i cs => ∃ x, DataW.trod enc P w 0 spare held n i cs = some x) hT (fun i a cs hi hd' ⟨x, hx⟩ => rep_of_trod htab n i a cs x hi hd' hx) fs.toList b 0 cs hfs hd (fun f hf' => by
        obtain ⟨i, hi, he⟩ := List.getElem_of_mem hf'
        have hi' : i < fs.size := by simpa using hi
        have := h5 i f (by rw [Array.getElem?_eq_getElem hi']; simpa using he)
        rw [this, List.getElem?_eq_getElem (by omega)]
        exact ⟨_, rfl⟩) (by rw [h3]; simp [siz])
      obtain ⟨y, hy⟩ := this
      exact ⟨y, hy⟩
    | arr m te =>
      obtain ⟨e, hu, he, _⟩ := shape_arr hs
      obtain ⟨xs, k, hm, _, h3, h4, h5⟩ := DataW.trod_array hu h
      cases hm
      have hse := hT e _ he
      obtain ⟨ys, hy1, hy2⟩ := rep_arr (P := P) (w := w) (e := e) (te := te) (G := fun cs => ∃ x, DataW.trod enc P w 0 spare held n e cs = some x) (fun cs ⟨x, hx⟩ => rep_of_trod htab n e te cs x he hd hx) cs m 0 (fun i hi => by
        have := h5 i hi
        rw [hse] at this
        rw [Nat.zero_add, this, List.getElem?_eq_getElem (by omega)]
        exact ⟨_, rfl⟩)
      have hlen : cs.length = m * siz te := by rw [h3, hT t _ hl]; rfl
      refine ⟨ys, hy1, ?_⟩
      rw [Nat.zero_mul, List.drop_zero, ← hlen, List.take_length] at hy2
      exact hy2
    | slc te =>
      obtain ⟨e, hu, he, h1⟩ := shape_slc hs
      have hse := hT e _ he
      rcases DataW.trod_slice hu h with ⟨h2, _⟩ | ⟨a, len, cap, elems, rest, k, hm, h2, _, _, h5, h6, h7, h8, _⟩
      · exact ⟨[], none, 0, [], h2, Nat.le_refl _, Nat.zero_le _, by simp, rfl, fun h => absurd rfl h, fun _ => rfl⟩
      · cases hm
        have hG : ∀ i, i < len → ∃ cs, w.cells? 0 (a.add (i * siz te)) (siz te) = some cs ∧ ∃ x, DataW.trod enc P w 0 spare held n e cs = some x := fun i hi => by
          have := h8 i hi
          rw [hse, List.getElem?_eq_getElem (by omega)] at this
          obtain ⟨cs, hc, hx⟩ := Option.bind_eq_some_iff.1 this
          exact ⟨cs, hc, _, hx⟩
        by_cases h0 : len = 0
        · subst h0
          exact ⟨[], some a, cap, [], h2, Nat.zero_le _, h6, by simp, rfl, fun h => absurd rfl h, fun h => by cases h⟩
        · have hsp : a.spot = none ∧ a.block < w.heap.size := by
            obtain ⟨cs, hc, _⟩ := hG 0 (by omega)
            unfold World.cells? at hc
            rw [if_pos (Nat.zero_le _), Nat.zero_mul] at hc
            have hl0 : cs.length = siz te := by have := mapM_some_length hc; simpa using this
            have := mapM_some_get hc 0 0 (by rw [List.getElem?_range (by omega)])
            rw [List.getElem?_eq_getElem (by omega)] at this
            have ea : (a.add 0).add 0 = a := by simp [Addr.add]
            rw [ea] at this
            refine ⟨World.cell?_spot this, ?_⟩
            unfold World.cell? at this
            split at this
            · rename_i hh
              first
                | exact (Array.getElem?_eq_some_iff.1 hh).1
                | (obtain ⟨hh, _⟩ := Array.getElem?_eq_some_iff.1 hh; exact hh)
            · cases this
          obtain ⟨L, ys, g1, g2, g3, g4⟩ := rep_row (P := P) (w := w) (e := e) (te := te) (a := a) (G := fun cs => ∃ x, DataW.trod enc P w 0 spare held n e cs = some x) (fun cs ⟨x, hx⟩ => rep_of_trod htab n e te cs x he hd hx) hsp.1 len 0 (fun i hi => by rw [Nat.zero_add]; exact hG i hi)
          refine ⟨ys, some a, cap, L, by rw [g1]; exact h2, by rw [g1]; exact h5, h6, by rw [g1]; exact g2, g3, fun _ => ⟨a, rfl, fun h => h, hsp.2, fun j u hj => ?_⟩, fun h => by cases h⟩
          have := g4 j u hj
          rwa [Nat.zero_mul, Nat.zero_add] at this
    | unit => exact absurd rfl (shape_none hs).1
    | pair a b => exact absurd rfl ((shape_none hs).2.1 a b)
    | fn _ _ => cases hd
    | ref _ => cases hd
    | mp _ _ => cases hd
end

section
variable {H : Type} {enc : TypeId × Value → H} {P : Program} {w : World}

theorem val_cells {T : List (Nat × Ty)} (htab : tabB P T = true) {t : TypeId} {τ : Ty} (hl : T.lookup t = some τ) (hd : datT τ = true) {r : Reach} {b : Nat} {v : Value} (h : Value.okWide P w r b t v) : v = ofCells τ v.cells.toList := by
  have hf := fit_of_tab htab hl
  have hs := hf.shape
  cases τ with
  | int k => obtain ⟨n, rfl⟩ := okWide_int (shape_int hs) h; rfl
  | bool => obtain ⟨n, rfl⟩ := okWide_bool (shape_bool hs) h; rfl
  | str => obtain ⟨n, rfl⟩ := okWide_string (shape_str hs) h; rfl
  | slc e =>
    obtain ⟨e', hu, _⟩ := shape_slc hs
    obtain ⟨a, l, c, rfl⟩ := okWide_slice hu h; rfl
  | st e =>
    obtain ⟨fs, hu, _⟩ := shape_st hs
    unfold Value.okWide at h
    rw [hu] at h
    obtain ⟨cs, rfl, _⟩ := h
    rfl
  | arr n e =>
    obtain ⟨e', hu, _⟩ := shape_arr hs
    unfold Value.okWide at h
    rw [hu] at h
    obtain ⟨cs, rfl, _⟩ := h
    rfl
  | unit => exact absurd rfl (shape_none hs).1
  | pair a b => exact absurd rfl ((shape_none hs).2.1 a b)
  | fn _ _ => cases hd
  | ref _ => cases hd
  | mp _ _ => cases hd

/-- Are these the types of a chain's data? -/
def chainB (P : Program) (T : List (Nat × Ty)) : List TypeId → Ty → Bool
  | [], .unit => true
  | t :: ts, .pair a b => decide (T.lookup t = some a) && datT a && P.readableRec t && decide (t < P.types.size) && chainB P T ts b
  | _, _ => false

theorem chain_of_trod {T : List (Nat × Ty)} (htab : tabB P T = true) {r : Reach} {b0 : Nat} {spare : Nat → Bool} {held : Bool} : ∀ (ts : List TypeId) (as : Ty) (vs : List Value) (ds : List (DataW H)) (ps : List MemPlace), chainB P T ts as = true → DataW.TrodAll enc P w 0 spare held ts vs ds ps →
    (∀ (j : Nat) (t : TypeId) (v : Value), ts[j]? = some t → vs[j]? = some v → Value.okWide P w r b0 t v) → ∃ x : den as, Rep P as .chain (fun _ => False) w vs x
  | [], as, vs, ds, ps, hc, h, _ => by
    cases as <;> simp only [chainB] at hc <;> try cases hc
    cases vs with
    | nil => exact ⟨(), rfl⟩
    | cons _ _ => cases ds <;> exact h.elim
  | t :: ts, as, vs, ds, ps, hc, h, hv => by
    cases as with
    | pair a b =>
      simp only [chainB, Bool.and_eq_true, decide_eq_true_eq] at hc
      obtain ⟨⟨⟨⟨h1, h2⟩, _⟩, _⟩, h3⟩ := hc
      obtain ⟨v, vs', d, ds', p, q, rfl, rfl, rfl, h4, h5⟩ := trodAll_cons h
      obtain ⟨n, hn⟩ := h4
      obtain ⟨y, hy⟩ := rep_of_trod htab n t a _ _ h1 h2 hn
      obtain ⟨z, hz⟩ := chain_of_trod htab ts b vs' ds' q h3 h5 (fun j t v hj hv' => hv (j + 1) t v hj hv')
      exact ⟨(y, z), vs', _, by rw [← val_cells htab h1 h2 (hv 0 t v rfl rfl)], hy, hz⟩
    | _ => simp only [chainB] at hc; cases hc

theorem trod_all_below {T : List (Nat × Ty)} (hlo : laidOutB P = true) {W W' : World} (hb : Below W.heap.size W W') : ∀ (ts : List TypeId) (as : Ty) (vs : List Value) (ds : List (DataW H)) (ps : List MemPlace), chainB P T ts as = true → DataW.TrodAll enc P W 0 (fun _ => true) true ts vs ds ps →
    DataW.TrodAll enc P W' 0 (fun b => decide (b < W.heap.size)) true ts vs ds ps
  | [], as, vs, ds, ps, _, h => by
    cases vs <;> cases ds <;> exact h
  | t :: ts, as, vs, ds, ps, hc, h => by
    cases as with
    | pair a b =>
      simp only [chainB, Bool.and_eq_true, decide_eq_true_eq] at hc
      obtain ⟨⟨⟨⟨_, _⟩, h1⟩, h2⟩, h3⟩ := hc
      obtain ⟨v, vs', d, ds', p, q, rfl, rfl, rfl, h4, h5⟩ := trodAll_cons h
      have lt : ∀ x ∈ p, x.block < W.heap.size := by obtain ⟨m, hm⟩ := h4; exact DataW.trod_lt m _ _ _ hm
      exact ⟨p, q, Below.trod hlo h1 h2 h4 hb lt, trod_all_below hlo hb ts b vs' ds' q h3 h5, rfl⟩
    | _ => simp only [chainB] at hc; cases hc

theorem trod_len {base : Nat} {spare : Nat → Bool} {held : Bool} : ∀ {ts : List TypeId} {vs : List Value} {ds : List (DataW H)} {ps : List MemPlace}, DataW.TrodAll enc P w base spare held ts vs ds ps → ds.length = ts.length
  | [], [], [], _, _ => rfl
  | _ :: _, _ :: _, _ :: _, _, h => by
    obtain ⟨_, _, _, h, _⟩ := h
    simp [trod_len h]
  | [], [], _ :: _, _, h => h.elim
  | [], _ :: _, _, _, h => by rename_i ds _; cases ds <;> exact h.elim
  | _ :: _, [], _, _, h => by rename_i ds _; cases ds <;> exact h.elim
  | _ :: _, _ :: _, [], _, h => h.elim

/-- Zero values, of a chain. -/
def zargs : Ty → List Value
  | .pair a b => ofCells a (zcells a) :: zargs b
  | _ => []

/-- What is said of a law. -/
@[reducible] def lawS (as : Ty) : Spec := ⟨as, .pair .bool .unit, fun _ => (true, ()), fun _ => True, true⟩

/-- A law that is proved answers true, and leaves all as it was. -/
theorem law_calls {T : List (Nat × Ty)} (htab : tabB P T = true) {f : FuncId} {as : Ty} (hk : FnOk P [] f (lawS as)) {ts : List TypeId} (hc : chainB P T ts as = true) {r : Reach} {b0 : Nat} {spare : Nat → Bool} {held : Bool} {args : Array Value} {ds : List (DataW H)} {ps : List MemPlace}
    (h : DataW.TrodAll enc P w 0 spare held ts args.toList ds ps) (hv : ∀ (j : Nat) t v, ts[j]? = some t → args[j]? = some v → Value.okWide P w r b0 t v) : Calls P f args w fun e w' => e = .returned (.bool true) ∧ Below w.heap.size w w' := by
  obtain ⟨x, hx⟩ := chain_of_trod htab ts as args.toList ds ps hc h (fun j t v hj hv' => hv j t v hj (by simpa using hv'))
  have := hk.does (fun _ => False) w args.toList x (fun _ h => h.elim) (fun _ _ _ h => by cases h) hx trivial
  rw [Array.toArray_toList] at this
  refine Calls.mono this fun e w' ⟨v, e1, e2, rest, cs, e3, e4, e5⟩ => ?_
  have e4 : cs = [.bool true] := e4
  subst e4
  have e3 : [v] = [Value.bool true] := e3
  have : v = .bool true := by simpa using e3
  subst this
  exact ⟨e1, ⟨e2.os, e2.tape, e2.output, e2.size, e2.block⟩⟩
end

end Go.Proofs.Ytainieginijaaaa
