/- Part 4 of 10 of what this claim's proof stands on: a theory of programs on data, and the contracts of the functions that the law reaches. It holds no condition of its own. -/
import Derived.Test.YtimdnodkabnbfaaCA3
namespace Go.Proofs.Ytimdnodkabnbfaa
open Go Go.RowKit
def tmF (a : Act) (n : Nat) : Value := a.tmps.getD n undef
def flat : K → Bool
 | .grd _ _ _ k => nog k
 | .opt _ k => nog k
 | k => nog k
theorem dK (k : K) : nog (strip k) = true := by
 unfold strip; split
 ·assumption
 ·rfl
theorem i4 {k : K} (h : nog k = true) : Go.Proofs.Ytimdnodkabnbfaa.flat k = true := by
 cases k with
 | grd s c cs k => cases h
 | opt cs k => cases h
 | _ => exact h
theorem K5 {k : K} (h : nog k = true) (d : Nat) : fm d k = k := by
 cases k with
 | grd s c cs k => cases h
 | _ => rfl
structure Cx where
 O : Nat → Prop
 own : Nat → Prop
 w0 : World
 J : Gst → World → Prop
 jx : ∀ G w G' w', G.Ext w G' w' → J G w → J G' w'
 df : List Deferred := []
def Cx.base (O : Nat → Prop) (w0 : World) : Cx := ⟨O, fun _ => False, w0, fun _ _ => True, fun _ _ _ _ _ _ => trivial, []⟩
structure IZ (c : Cx) (G : Gst) (w : World) : Prop where
 O : (∀ g, c.O g → G.O g) ∧ ∀ g, G.O g → c.O g ∨ G.w0.heap.size ≤ g
 w0 : G.w0 = c.w0
 own : G.own = c.own
 J : c.J G w
theorem IZ.ext {c : Cx} {G G' : Gst} {w w' : World} (h : IZ c G w) (e : G.Ext w G' w') : IZ c G' w' := ⟨⟨fun g hg => e.O.1 g (h.O.1 g hg), fun g hg => by
    rw [e.w0]
    exact (e.O.2 g hg).elim (h.O.2 g) .inr⟩, e.w0.trans h.w0, e.own.trans h.own, c.jx _ _ _ _ e h.J⟩
structure Sim (P : Program) (D : aJ) (c : Cx) (env : Env) (a : Act) (w : World) : Prop where
 ex : ∃ G : Gst, G.b = env.b ∧ IZ c G w ∧ MemOk P G w ∧ GlobOk P D.G G.av w ∧ ∀ n, KV P G w (tmF a) (env.s n) (tmF a n)
 flat : ∀ n, flat (env.s n) = true
 size : a.tmps.size = D.n
 defers : a.defers = c.df
section
variable {P : Program} {D : aJ} {c0 : Cx} {ops : Array Oper} {G : Gst} {w : World}
theorem KV.strip {tm : Nat → Value} {k : K} {v : Value} (hk : KV P G w tm k v) : KV P G w tm (strip k) v := by
 unfold Go.Proofs.Ytimdnodkabnbfaa.strip; split
 ·exact hk
 ·trivial
theorem Dj (a : Act) (d : Nat) (v : Value) (h : d < a.tmps.size) (n : Nat) : tmF (a.put (some d) v) n = if n = d then v else tmF a n := by
 unfold tmF Act.put
 simp only
 by_cases e : n = d
 ·subst e
  simp [Array.getD_eq_getD_getElem?, h]
 ·rw [if_neg e]
  simp [Array.getD_eq_getD_getElem?, Ne.symm e]
theorem KV.put_ne {tm tm' : Nat → Value} {d : Nat} (ht : ∀ n, n ≠ d → tm' n = tm n) {k : K} {v : Value} (hf : flat k = true) (hk : KV P G w tm k v) :
    KV P G w tm' (fm d k) v := by
  cases k with
  | grd s c cs k' =>
    have hf : nog k' = true := hf
    show KV P G w tm' (if s = d then .opt cs k' else .grd s c cs k') v
    split
    · by_cases hs : tm s = .bool c
      · exact .inr ⟨(hk.1 hs).1, (hk.1 hs).2.tm hf⟩
      · exact .inl (hk.2 hs)
    · rename_i hne
      refine ⟨fun hs => ?_, fun hs => ?_⟩
      · rw [ht s hne] at hs
        exact ⟨(hk.1 hs).1, (hk.1 hs).2.tm hf⟩
      · rw [ht s hne] at hs
        exact hk.2 hs
  | opt cs k' => exact hk.imp id fun h => ⟨h.1, h.2.tm hf⟩
  | kcons a b => exact KV.tm (k := .kcons a b) hf hk
  | agg b c => exact KV.tm (k := .agg b c) hf hk
  | clo f c => exact KV.tm (k := .clo f c) hf hk
  | sel c a b => exact KV.tm (k := .sel c a b) hf hk
  | ifc t k => exact KV.tm (k := .ifc t k) hf hk
  | _ => exact hk
theorem gq {s : Nat → K} (hs : ∀ n, flat (s n) = true) {d : Option Nat} {k : K} (hk : flat k = true) (n : Nat) : flat (put s d k n) = true := by
 cases d with
 | none => exact hs n
 | some d =>
  show flat (if n = d then k else fm d (s n)) = true
  split
  ·exact hk
  ·have := hs n
   generalize s n = q at this
   cases q with
   | grd g w cs k' =>
    show flat (if g = d then .opt cs k' else .grd g w cs k') = true
    split <;> exact this
   | _ => exact this
theorem lG {tm : Nat → Value} {s : Nat → K} {a : Act} (htm : tm = tmF a) (hfl : ∀ n, flat (s n) = true) (hs : ∀ n, KV P G w tm (s n) (tm n)) {o : Oper} {N : Nat} (hN : a.tmps.size = N) (hd : fc N o = true) {k : K} {v : Value}
    (hk : ∀ d, o.dst = some d → KV P G w (tmF (a.put o.dst v)) k v) : ∀ n, KV P G w (tmF (a.put o.dst v)) (put s o.dst k n) (tmF (a.put o.dst v) n) := by
  intro n
  subst htm
  cases ho : o.dst with
  | none => exact hs n
  | some d =>
    have hd : d < a.tmps.size := by
      unfold fc at hd
      rw [ho] at hd
      rw [hN]; exact of_decide_eq_true hd
    rw [ho] at hk
    have ht := Dj a d v hd
    show KV P G w _ (if n = d then k else fm d (s n)) _
    by_cases e : n = d
    · rw [if_pos e, ht n, if_pos e]
      exact hk d rfl
    · rw [if_neg e, ht n, if_neg e]
      exact (hs n).put_ne (d := d) (fun m hm => (ht m).trans (if_neg hm)) (hfl n)
theorem ov (hD : cQ P D) {a : Act} {looks : List Nat} {s : Nat → K} (hgl : GlobOk P D.G G.av w) {g : Option (Nat × Bool)} (hg : ∀ n c, g = some (n, c) → tmF a n = .bool c) (hs : ∀ n, KV P G w (tmF a) (s n) (tmF a n)) (x : Operand) :
    KV P G w (tmF a) (rdl D looks s g x) (a.eval x) := by
  have h := kV (D := D) (g := g) (s := s) (a := a) (tm := tmF a) hD.toDOk hgl hg hs (fun _ => rfl) x
  cases x with
  | tmp t =>
    show KV P G w _ (if looks.contains t then oo g (s t) else .any) _
    split
    · exact h
    · trivial
  | const v => exact h
  | global x => exact h
  | func f => exact h
theorem GM {a : Act} {c x y : Operand} {kc kx ky k : K} (hc : KV P G w (tmF a) kc (a.eval c)) (hx : ∀ t, a.eval c = .bool t → t = true → KV P G w (tmF a) kx (a.eval x)) (hy : ∀ t, a.eval c = .bool t → t = false → KV P G w (tmF a) ky (a.eval y)) (h : y3 kc kx ky = some k) :
    ∃ t, a.eval c = .bool t ∧ nog k = true ∧ KV P G w (tmF a) k (if t then a.eval x else a.eval y) := by
  unfold y3 at h
  split at h
  · rename_i t u p ht
    split at h
    · rename_i q hq
      have e := (Option.some.inj h).symm
      subst e
      have hc' : a.eval c = .bool t := by
        cases kc with
        | val u' z =>
          cases u' with
          | bool =>
            have e : z = t := Option.some.inj ht
            subst e
            exact bv.1 hc
          | _ => cases ht
        | _ => cases ht
      refine ⟨t, hc', rfl, ?_⟩
      cases t with
      | true => exact hx true hc' rfl
      | false => exact cp (hy false hc' rfl) hq
    · cases h
  · cases h
theorem wh {a : Act} {o : Oper} {c x y : Operand} (ho : o.op = .pick c x y) {t : Bool} (hc : a.eval c = .bool t) : (execOp a.eval o).run P w = .ok (.value (if t then a.eval x else a.eval y)) w := by
 simp only [execOp, ho, hc, asBool, Sem.run_bind, Sem.run_pure, Result.andThen_ok]
theorem L5 {tm : Nat → Value} {k : K} {v : Value} {cs : List (Bool × Bool)} {c d : Bool} (hk : KV P G w tm k v) (h : gK k = some (cs, c)) (hv : v = .bool d) : (∀ q ∈ qK cs c d, q.1 = q.2) := by
 have fin : (∀ q ∈ cs, q.1 = q.2) → c = d → ∀ q ∈ qK cs c d, q.1 = q.2 := by
  intro h1 h2 q hq
  simp only [qK, List.mem_append, List.mem_singleton] at hq
  rcases hq with hq | rfl
  ·exact h1 q hq
  ·exact h2
 unfold gK at h
 split at h
 ·simp only [Option.some.injEq, Prod.mk.injEq] at h
  obtain ⟨rfl, rfl⟩ := h
  have e := bv.1 hk
  rw [hv] at e
  exact fin (by simp) (by injection e with e; exact e.symm)
 ·simp only [Option.some.injEq, Prod.mk.injEq] at h
  obtain ⟨rfl, rfl⟩ := h
  rename_i s c' cs' x
  by_cases hs : tm s = .bool c'
  ·have e := bv.1 (hk.1 hs).2
   rw [hv] at e
   exact fin (hk.1 hs).1 (by injection e with e; exact e.symm)
  ·have e := hk.2 hs
   rw [hv] at e
   cases e
 ·simp only [Option.some.injEq, Prod.mk.injEq] at h
  obtain ⟨rfl, rfl⟩ := h
  rcases hk with hk | hk
  ·rw [hv] at hk; cases hk
  ·have e := bv.1 hk.2
   rw [hv] at e
   exact fin hk.1 (by injection e with e; exact e.symm)
 ·cases h
theorem MZ {cs : List (Bool × Bool)} (h : ∀ q ∈ cs, q.1 = q.2) {p : Prop} (hp : dy cs p) : p := by
 induction cs with
 | nil => exact hp
 | cons q cs ih =>
  obtain ⟨c, d⟩ := q
  exact ih (fun q hq => h q (List.mem_cons_of_mem _ hq)) (hp (h _ (List.mem_cons_self ..)))
theorem F2 {o : Oper} (h : kC ops o = some none) : o.guard = none := by
 unfold kC at h
 split at h
 ·assumption
 ·split at h <;> cases h
theorem xv {o : Oper} {d : Nat} {c : Bool} (h : kC ops o = some (some (d, c))) (a : Act) : (Region.wanted o (yielded ops a.tmps) = true ↔ tmF a d = .bool c) := by
 unfold kC at h
 split at h
 ·cases h
 ·rename_i j c' hg
  split at h
  ·rename_i d' hd
   simp only [Option.some.injEq, Prod.mk.injEq] at h
   obtain ⟨rfl, rfl⟩ := h
   unfold Region.wanted yielded
   rw [hg]
   simp only [hd, Option.bind_some, beq_iff_eq]
   unfold tmF
   rw [Array.getD_eq_getD_getElem?]
   cases hq : a.tmps[d']? with
   | none => simp [undef]
   | some v => cases v <;> simp
  ·cases h
theorem pU (hD : cQ P D) (hh : eR D = true) {o : Oper} {env env' : Env} {ps : List Prop} (h : vop D ops o env = some (env', ps)) (hp : ∀ p ∈ ps, p) {a : Act} (hS : Sim P D c0 env a w) {i : Nat} (hi : ops[i]? = some o) (Q : Exit → Act → World → Prop) :
    wpOp P ops Q i (fun a' w' => Sim P D c0 env' a' w') a w := by
  unfold vop at h
  split at h
  · rename_i k ch ps' hc
    simp only [Option.some.injEq, Prod.mk.injEq] at h
    obtain ⟨rfl, rfl⟩ := h
    obtain ⟨⟨G, hb, hC, hM, hgl, hs⟩, hfl, hsz, hdf⟩ := hS
    unfold c4 at hc
    split at hc
    · rename_i hdst
      have fin : ∀ {k' : K} {ch' : Chg} {tmk : K}, aj P o a G w (tmF a) k' ch' → (∀ G' w' v, KV P G' w' (tmF a) k' v → ∀ d, o.dst = some d → KV P G' w' (tmF (a.put o.dst v)) tmk v) → flat tmk = true → ∀ b', b' = aD env.b ch' →
          o.wp P a w (fun a' w' => Sim P D c0 { s := put env.s o.dst tmk, b := b', lim := env.lim } a' w') Q := by
        intro k' ch' tmk hy hk hf b' eb
        refine hy _ _ ?_
        intro G' w' v e1 e2 e3 e4
        refine ⟨⟨G', by rw [e1, hb, eb], hC.ext e2, e3, hgl.lat e2.lat, ?_⟩, gq hfl hf, ?_, ?_⟩
        · exact lG rfl hfl (fun n => (hs n).ext e2) hsz hdst (hk G' w' v e4)
        · cases hd : o.dst <;> simp [Act.put, hsz]
        · cases hd : o.dst <;> simp [Act.put, hdf]
      split at hc
      · cases hc
      ·
        rename_i hg
        have hgd := F2 hg
        have hw : Region.wanted o (yielded ops a.tmps) = true := by unfold Region.wanted; rw [hgd]
        unfold wpOp
        rw [hi]
        simp only [hw, if_true]
        left
        have hr := ov hD (D := D) (a := a) (looks := o.looksAt ops) (s := env.s) hgl (g := none) (fun _ _ h => by cases h) hs
        split at hc
        · rename_i ct x y ho
          split at hc
          · rename_i k1 hk1
            simp only [Option.some.injEq, Prod.mk.injEq] at hc
            obtain ⟨rfl, rfl, rfl⟩ := hc
            obtain ⟨t, ht, hn, hkv⟩ := GM (hr (.tmp ct))
              (fun t ht e => ov hD hgl (g := some (ct, true)) (fun n c h => by cases h; subst e; exact ht) hs x)
              (fun t ht e => ov hD hgl (g := some (ct, false)) (fun n c h => by cases h; subst e; exact ht) hs y) hk1
            exact fin (k' := k1) (ch' := []) (tmk := k1) (aA hM (wh ho ht) hkv) (fun G' w' v h d hd => h.tm hn) (i4 hn) _ rfl
          · cases hc
        · cases hc
        · split at hc
          · rename_i k1 ch1 ps1 hv
            simp only [Option.some.injEq, Prod.mk.injEq] at hc
            obtain ⟨rfl, rfl, rfl⟩ := hc
            rw [← hb] at hv
            refine fin (zW hD hh hM hgl hr hv hp) (fun G' w' v h d hd => h.strip.tm (dK _)) (i4 (dK k1)) _ rfl
          · cases hc
      ·
        rename_i d c hg
        split at hc
        · cases hc
        · rename_i hne
          split at hc
          · cases hc
          · rename_i cs cc hgk
            have hwd := xv hg a
            have skip : ∀ k', flat (.grd d c (qK cs cc c) k') = true → ¬ Region.wanted o (yielded ops a.tmps) = true → Sim P D c0 { s := put env.s o.dst (.grd d c (qK cs cc c) k'), b := env.b, lim := env.lim } (a.put o.dst undef) w := by
              intro k' hf hn
              refine ⟨⟨G, hb, hC, hM, hgl, ?_⟩, gq hfl hf, ?_, ?_⟩
              · refine lG rfl hfl hs hsz hdst (fun d' hd' => ⟨fun hs' => ?_, fun _ => rfl⟩)
                exfalso
                have hdl : d' < a.tmps.size := by unfold fc at hdst; rw [hd'] at hdst; rw [hsz]; exact of_decide_eq_true hdst
                rw [hd', Dj a d' undef hdl d, if_neg (fun e => hne (by rw [hd', e]))] at hs'
                exact hn (hwd.2 hs')
              · cases hd : o.dst <;> simp [Act.put, hsz]
              · cases hd : o.dst <;> simp [Act.put, hdf]
            have into : ∀ {k' : K}, nog k' = true → tmF a d = .bool c → ∀ G' w' v, KV P G' w' (tmF a) k' v → ∀ d', o.dst = some d' → KV P G' w' (tmF (a.put o.dst v)) (.grd d c (qK cs cc c) k') v := by
              intro k' hn htd G' w' v hv d' hd'
              have hdl : d' < a.tmps.size := by unfold fc at hdst; rw [hd'] at hdst; rw [hsz]; exact of_decide_eq_true hdst
              have hsame : tmF (a.put o.dst v) d = tmF a d := by rw [hd', Dj a d' v hdl d, if_neg (fun e => hne (by rw [hd', e]))]
              refine ⟨fun _ => ⟨L5 (hs d) hgk htd, hv.tm hn⟩, fun h => ?_⟩
              rw [hsame] at h
              exact absurd htd h
            unfold wpOp
            rw [hi]
            simp only
            split at hc
            · rename_i ct x y ho
              split at hc
              · rename_i k1 hk1
                simp only [Option.some.injEq, Prod.mk.injEq] at hc
                obtain ⟨rfl, rfl, rfl⟩ := hc
                split
                · rename_i hw
                  have htd := hwd.1 hw
                  left
                  have hgg : ∀ n c', some (d, c) = some (n, c') → tmF a n = .bool c' := fun n c' h => by cases h; exact htd
                  have oe : ∀ {p q : K} {v : Value}, KV P G w (tmF a) p v → KV P G w (tmF a) q v → KV P G w (tmF a) (Gt p q) v := by
                    intro p q v h1 h2
                    cases p <;> first | exact h1 | exact h2
                  obtain ⟨t, ht, hn, hkv⟩ := GM (ov hD hgl (g := some (d, c)) hgg hs (.tmp ct))
                    (fun t ht e => oe (ov hD hgl (g := some (ct, true)) (fun n c h => by cases h; subst e; exact ht) hs x) (ov hD hgl hgg hs x))
                    (fun t ht e => oe (ov hD hgl (g := some (ct, false)) (fun n c h => by cases h; subst e; exact ht) hs y) (ov hD hgl hgg hs y)) hk1
                  exact fin (k' := k1) (ch' := []) (aA hM (wh ho ht) hkv) (into hn htd) hn _ rfl
                · rename_i hw
                  refine skip k1 ?_ hw
                  have : nog k1 = true := by
                    unfold y3 at hk1
                    split at hk1
                    · split at hk1
                      · have e := (Option.some.inj hk1).symm; subst e; rfl
                      · cases hk1
                    · cases hk1
                  exact this
              · cases hc
            · cases hc
            · split at hc
              · rename_i k1 ps1 hv
                simp only [Option.some.injEq, Prod.mk.injEq] at hc
                obtain ⟨rfl, rfl, rfl⟩ := hc
                split
                · rename_i hw
                  have htd := hwd.1 hw
                  left
                  have hgg : ∀ n c', some (d, c) = some (n, c') → tmF a n = .bool c' := fun n c' h => by cases h; exact htd
                  rw [← hb] at hv
                  have hps : ∀ p ∈ ps1, p := fun p hp' => MZ (L5 (hs d) hgk htd) (hp _ (List.mem_map_of_mem hp'))
                  refine fin (zW hD hh hM hgl (ov hD hgl hgg hs) hv hps) (fun G' w' v h d' hd' => into (dK _) htd G' w' v h.strip d' hd') (dK _) _ rfl
                · rename_i hw
                  exact skip _ (dK _) hw
              · cases hc
    · cases hc
  · cases h
theorem Cm (hD : cQ P D) (hh : eR D = true) (Q : Exit → Act → World → Prop) : ∀ (l : List Oper) (i : Nat) (env env' : Env) (ps : List Prop) (a : Act) (w : World), (∀ j, l[j]? = ops[i + j]?) → Dl D ops l env = some (env', ps) → (∀ p ∈ ps, p) → Sim P D c0 env a w →
    (∀ a' w', Sim P D c0 env' a' w' → Q .normal a' w') → wpOps P ops Q (List.range' i l.length) a w
  | [], i, env, env', ps, a, w, hl, h, hp, hS, hQ => by
    simp only [Dl, Option.some.injEq, Prod.mk.injEq] at h
    obtain ⟨rfl, rfl⟩ := h
    exact hQ a w hS
  | o :: l, i, env, env', ps, a, w, hl, h, hp, hS, hQ => by
    simp only [Dl] at h
    split at h
    · cases h
    · rename_i env1 ps1 h1
      split at h
      · cases h
      · rename_i env2 ps2 h2
        simp only [Option.some.injEq, Prod.mk.injEq] at h
        obtain ⟨rfl, rfl⟩ := h
        have hi : ops[i]? = some o := by have := hl 0; simpa using this.symm
        rw [List.length_cons, List.range'_succ, wpOps_cons]
        refine wpOp_mono (fun a1 w1 hS1 => ?_) (pU hD hh h1 (fun p hp' => hp p (List.mem_append_left _ hp')) hS hi Q)
        exact Cm hD hh Q l (i + 1) env1 env2 ps2 a1 w1 (fun j => by have := hl (j + 1); simpa [Nat.add_assoc, Nat.add_comm 1 j] using this) h2 (fun p hp' => hp p (List.mem_append_right _ hp')) hS1 hQ
end
end Go.Proofs.Ytimdnodkabnbfaa
