/- Part 4 of 10 of what this claim's proof stands on: a theory of programs on data, and the contracts of the functions that the law reaches. It holds no condition of its own. -/
import Derived.Test.YtimdnodkabnbfaaCA3
import Derived.Maps.RangeRun
import Derived.DeepKeys3
namespace Go.Proofs.Ytimdnodkabnbfaa
open Go Go.RowKit
open Go.ChangeMaps (setBlock)
open Go.MapKept (Stamped IsKey)
section
variable {P : Program} {D : aK} {o : Oper} {a : Act} {G : Gst} {w : World} {tm : Nat → Value}
theorem JB {u : Ty} {v : Value} (h : iW u v) : az u v.cells.toList = v := by
 unfold az
 cases ha : isAgg u
 ·rw [if_neg (by simp), nt (h.2.2.2 ha)]; rfl
 ·obtain ⟨cs, rfl⟩ := h.2.2.1 ha
  rw [if_pos rfl]; rfl
theorem PP : ∀ t : Ty, nog (kZ t) = true := by
  intro t
  induction t with
  | pair a b iha ihb => simp only [kZ, nog, iha, ihb, Bool.and_self]
  | st b ih => unfold kZ; split
               · rfl
               · exact ih
  | _ => rfl
theorem OI {T : Nat → Option Ty} (hT : ∀ id t, T id = some t → Fit P T id t) : ∀ t : Ty, (∀ id, T id = some t → ∃ v, KV P G w tm (kZ t) v ∧ iW t v ∧ v.cells.toList = aQ t) ∧
    (∀ (fs : List Field) (off : Nat), dF T fs t off = true → ∃ vs : List Value, KV P G w tm (kZ t) (.tuple vs.toArray) ∧ t6 t vs ∧ (vs.flatMap fun u => u.cells.toList) = aQ t) := by
  intro t
  have data : ∀ t : Ty, kZ t = .val t (zero t) → ∀ id, T id = some t → ∃ v, KV P G w tm (kZ t) v ∧ iW t v ∧ v.cells.toList = aQ t := by
    intro t e id h
    have hf := hT id t h
    have hz := eN P G.av w t hf.plain
    refine ⟨az t (aQ t), by rw [e]; exact ⟨_, rfl, hz⟩, xz (eW hf) ⟨_, rfl, hz⟩, ?_⟩
    rw [bK hz.length (eW hf) hz.oneCell]
  have nofld : ∀ t : Ty, (∀ a b, t ≠ .pair a b) → t ≠ .unit → ∀ (fs : List Field) (off : Nat), dF T fs t off = true → False := by
    intro t h1 h2 fs off h
    cases fs <;> cases t <;> first | (exact absurd rfl h2) | (exact absurd rfl (h1 _ _)) | cases h
  induction t with
  | unit => exact ⟨fun id h => absurd rfl (iQ (hT id _ h).shape).1, fun fs off h => ⟨[], rfl, rfl, rfl⟩⟩
  | pair a b iha ihb =>
    refine ⟨fun id h => absurd rfl ((iQ (hT id _ h).shape).2.1 a b), fun fs off h => ?_⟩
    cases fs with
    | nil => cases h
    | cons f fs =>
      simp only [dF, Bool.and_eq_true, beq_iff_eq, decide_eq_true_eq] at h
      obtain ⟨⟨⟨⟨h1, h2⟩, _⟩, _⟩, h5⟩ := h
      obtain ⟨v, v1, v2, v3⟩ := iha.1 _ h2
      obtain ⟨vs, s1, s2, s3⟩ := ihb.2 fs _ h5
      refine ⟨v :: vs, ⟨v, vs, rfl, v1, s1⟩, ⟨v, vs, rfl, v2.1, v2.2.1, v2.2.2.1, v2.2.2.2, s2⟩, ?_⟩
      rw [List.flatMap_cons, v3, s3]; rfl
  | st b ih =>
    refine ⟨fun id h => ?_, fun fs off h => (nofld _ (fun _ _ e => by cases e) (fun e => by cases e) fs off h).elim⟩
    cases hfl : eZ b with
    | true => exact data _ (by unfold kZ; rw [if_pos hfl]; rfl) id h
    | false =>
      obtain ⟨fs, _, hfs, _⟩ := jd (hT id _ h).shape
      obtain ⟨vs, s1, s2, s3⟩ := ih.2 fs.toList 0 hfs
      obtain ⟨k1, k2⟩ := sH s2
      refine ⟨.agg (vs.flatMap fun u => u.cells.toList).toArray, ?_, ⟨by show (vs.flatMap fun u => u.cells.toList).toArray.size = siz b; rw [List.size_toArray]; exact k1, (by show ∀ u ∈ vs.flatMap (fun u => u.cells.toList), u.oneCell' = true; exact k2), fun _ => ⟨_, rfl⟩, fun h => (by cases h)⟩, (by show vs.flatMap (fun u => u.cells.toList) = aQ b; exact s3)⟩
      unfold kZ
      rw [if_neg (by rw [hfl]; simp)]
      exact ⟨vs, s1, s2, rfl⟩
  | slc e _ => exact ⟨fun id h => ⟨.slice none 0 0, rfl, jc rfl rfl rfl, rfl⟩, fun fs off h => (nofld _ (fun _ _ e => by cases e) (fun e => by cases e) fs off h).elim⟩
  | mp k v _ _ => exact ⟨fun id h => ⟨.map none, rfl, jc rfl rfl rfl, rfl⟩, fun fs off h => (nofld _ (fun _ _ e => by cases e) (fun e => by cases e) fs off h).elim⟩
  | _ => exact ⟨data _ rfl, fun fs off h => (nofld _ (fun _ _ e => by cases e) (fun e => by cases e) fs off h).elim⟩
theorem Bd (hM : MemOk P G w) {id : Nat} (hf : G.b id = .no) {t : Ty} {eid : TypeId} {k : K} {v : Value} (hn : nog k = true) (hk : KV P G w tm k v) (ho : iW t v) :
    ∃ G', G'.b = aG G.b [(id, .live (.obj t k))] ∧ G.Ext w G' (w.alloc (.cells v.cells eid)) ∧ MemOk P G' (w.alloc (.cells v.cells eid)) ∧
      KV P G' (w.alloc (.cells v.cells eid)) tm (.ptr id t []) (.pointer (some ⟨w.heap.size, 0, none⟩)) := by
  have hkp := Kept.alloc w (.cells v.cells eid)
  have := hM.add (P := P) hkp (id := id) (g := w.heap.size) (h := .pointer (some ⟨w.heap.size, 0, none⟩)) (x := .obj t k) hf (Nat.le_refl _) (fun G' hE hh hb _ =>
    ⟨w.heap.size, v.cells, eid, v, hb, by unfold Gst.nb; rw [hE.w0]; exact .inl hM.kept.size, je w _, hn, (hk.tm hn).ext hE, rfl, ho.1, ho.2.1, ho.2.2.1, ho.2.2.2, by rw [hh]; rfl⟩)
  refine ⟨_, ?_, this.2, this.1, ⟨.obj t k, .inl (by simp [Gst.add])⟩, (by cases t <;> trivial), w.heap.size, by simp [Gst.add], ?_⟩
  · rfl
  · have e : aJ t [] = 0 := by cases t <;> rfl
    simp [Gst.add, e, i5]
theorem Jr (hD : DOk P D) (hM : MemOk P G w) {e : TypeId} (ho : o.op = .alloc e) {b : Ty} (ht : D.ty e = some (.st b)) {id : Nat} (hf : aX G.b id = true) :
    ak P o a G w tm (.ptr id (.st b) []) [(id, .live (.obj (.st b) (.agg b (kZ b))))] := by
  have hfit := hD.fit ht
  obtain ⟨fs, _, hfs, _⟩ := jd hfit.shape
  obtain ⟨vs, s1, s2, s3⟩ := (OI (P := P) (G := G) (w := w) (tm := tm) (T := D.ty) (fun id t h => hD.fit h) b).2 fs.toList 0 hfs
  obtain ⟨k1, k2⟩ := sH s2
  obtain ⟨G', hb, he, hM', hk⟩ := Bd (tm := tm) hM (eid := e) (bP hf) (t := .st b) (k := .agg b (kZ b)) (v := .agg (vs.flatMap fun u => u.cells.toList).toArray) (PP b) ⟨vs, s1, s2, rfl⟩
    ⟨by show (vs.flatMap fun u => u.cells.toList).toArray.size = siz b; rw [List.size_toArray]; exact k1, (by show ∀ u ∈ vs.flatMap (fun u => u.cells.toList), u.oneCell' = true; exact k2), fun _ => ⟨_, rfl⟩, fun h => (by cases h)⟩
  refine bp ?_ hb he hM' hk
  have hz : az (.st b) (aQ (.st b)) = .agg (vs.flatMap fun u => u.cells.toList).toArray := by rw [s3]; rfl
  simp only [execOp, ho, Instr.alloc, Sem.run_bind, hfit.zeroValue w, Result.andThen_ok, newVar, newRow, run_newObj, Sem.run_pure, hz]
  rfl
theorem Mi (hD : DOk P D) (hM : MemOk P G w) {e : TypeId} {x : Operand} (ho : o.op = .box e x) {b : Ty} {c : K} (ht : D.ty e = some (.st b)) {id : Nat} (hf : aX G.b id = true) (hn : nog c = true) (hk : KV P G w tm (.agg b c) (a.eval x)) :
    ak P o a G w tm (.ptr id (.st b) []) [(id, .live (.obj (.st b) (.agg b c)))] := by
  have hone := HB (t := .st b) hk (decide_eq_true rfl) (fun h => by cases h)
  obtain ⟨G', hb, he, hM', hk'⟩ := Bd (tm := tm) hM (eid := e) (bP hf) (t := .st b) (k := .agg b c) (v := a.eval x) hn hk hone
  refine bp ?_ hb he hM' hk'
  simp only [execOp, ho, Instr.box, Sem.run_bind, newVar, newRow, run_newObj, Result.andThen_ok, Sem.run_pure]
  rfl
theorem Kg (hD : DOk P D) (hM : MemOk P G w) {e : TypeId} (ho : o.op = .alloc e) {el : Ty} (ht : D.ty e = some (.slc el)) {id : Nat} (hf : aX G.b id = true) :
    ak P o a G w tm (.ptr id (.slc el) []) [(id, .live (.obj (.slc el) .nilsl))] := by
  have hfit := hD.fit ht
  obtain ⟨G', hb, he, hM', hk⟩ := Bd (tm := tm) hM (eid := e) (bP hf) (t := .slc el) (k := .nilsl) (v := .slice none 0 0) rfl rfl (jc rfl rfl rfl)
  refine bp ?_ hb he hM' hk
  have hz : az (.slc el) (aQ (.slc el)) = .slice none 0 0 := rfl
  simp only [execOp, ho, Instr.alloc, Sem.run_bind, hfit.zeroValue w, Result.andThen_ok, newVar, newRow, run_newObj, Sem.run_pure, hz]
  rfl
theorem Ng (hM : MemOk P G w) {e : TypeId} {x : Operand} (ho : o.op = .box e x) {el : Ty} {k : K} {id : Nat} (hf : aX G.b id = true) (hn : nog k = true) (hfit : e9 G.b (.slc el) k = true) (hk : KV P G w tm k (a.eval x)) :
    ak P o a G w tm (.ptr id (.slc el) []) [(id, .live (.obj (.slc el) k))] := by
  have hone := CS (t := .slc el) hM hk hfit (fun _ => rfl)
  obtain ⟨G', hb, he, hM', hk'⟩ := Bd (tm := tm) hM (eid := e) (bP hf) (t := .slc el) (k := k) (v := a.eval x) hn hk hone
  refine bp ?_ hb he hM' hk'
  simp only [execOp, ho, Instr.box, Sem.run_bind, newVar, newRow, run_newObj, Result.andThen_ok, Sem.run_pure]
  rfl
theorem NB {b : Nat → BS} (w : Bool) (u : Ty) (k : K) (h : e9 (if w then b else fun _ => .no) u k = true) : e9 b u k = true := by
 cases w with
 | true => exact h
 | false =>
  unfold e9 at h ⊢
  split at h
  ·exact absurd ((Bool.and_eq_true _ _).mp h).2 (by simp [ao])
  ·exact h
theorem D0 {r : Operand → K} (hr : ∀ x, KV P G w tm (r x) (a.eval x)) {b : Ty} {ps : List (Nat × Nat)} (hps : ∀ i u, cV b i = some u → ps[i]? = some (0 + bD b i, siz u)) (h1 : ∀ i u, cV b i = some u → isAgg u = false → siz u = 1) (hM : MemOk P G w) {bb : Nat → BS} (hbb : ∀ u k, e9 bb u k = true → e9 G.b u k = true) :
    ∀ (parts : List (Nat × Operand)) (c c' : K) (vs : List Value), KV P G w tm c (.tuple vs.toArray) → t6 b vs → nZ bb r b c parts = some c' →
      ∃ vs' : List Value, Instr.fill (fun i => ps[i]?) (vs.flatMap fun u => u.cells.toList).toArray (parts.map fun (i, x) => (i, a.eval x)) = some (vs'.flatMap fun u => u.cells.toList).toArray ∧ KV P G w tm c' (.tuple vs'.toArray) ∧ t6 b vs'
  | [], c, c', vs, hc, hl, h => by
    have e : c = c' := Option.some.inj h
    subst e
    exact ⟨vs, rfl, hc, hl⟩
  | (i, x0) :: l, c, c', vs, hc, hl, h => by
    unfold nZ at h
    split at h
    · rename_i u hu
      split at h
      · rename_i hfit
        split at h
        · rename_i c1 hc1
          have hone := CS hM (hr x0) (hbb _ _ hfit) (h1 i u hu)
          obtain ⟨g1, g2⟩ := Im hl hu hone
          have hle := lV hu
          have hf := zU (place := fun i => ps[i]?) (cells := (vs.flatMap fun u => u.cells.toList).toArray) (i := i) (v := a.eval x0) (rest := l.map fun (i, x) => (i, a.eval x)) (off := bD b i) (size := siz u) (by rw [hps i u hu, Nat.zero_add]) hone.1 (by rw [List.size_toArray, (sH hl).1]; exact hle)
          obtain ⟨vs', e1, e2, e3⟩ := D0 hr hps h1 hM hbb l c1 c' (vs.set i (a.eval x0)) (A2 hc (hr x0) hc1) g1 h
          refine ⟨vs', ?_, e2, e3⟩
          rw [← e1, g2]
          exact hf
        · cases h
      · cases h
    · cases h
theorem Kc (hD : DOk P D) (hM : MemOk P G w) {e : TypeId} {parts : Array (Nat × Operand)} (ho : o.op = .build e parts) {b : Ty} (ht : D.ty e = some (.st b)) {r : Operand → K} (hr : ∀ x, KV P G w tm (r x) (a.eval x)) {c : K} {bb : Nat → BS} (hbb : ∀ u k, e9 bb u k = true → e9 G.b u k = true) (hv : nZ bb r b (kZ b) parts.toList = some c) :
    ak P o a G w tm (.agg b c) [] := by
  have hfit := hD.fit ht
  obtain ⟨fs, hu, hfs, _⟩ := jd hfit.shape
  obtain ⟨ps, hps, hpl⟩ := zY (w := w) (fun id t e => hD.fit e) fs.toList b 0 hfs
  obtain ⟨vs, s1, s2, s3⟩ := (OI (P := P) (G := G) (w := w) (tm := tm) (T := D.ty) (fun id t h => hD.fit h) b).2 fs.toList 0 hfs
  obtain ⟨vs', hf, f2, f3⟩ := D0 hr hpl (E5 (fun id t e => hD.fit e) fs.toList b 0 hfs) hM hbb parts.toList (kZ b) c vs s1 s2 hv
  refine aC hM (v := .agg (vs'.flatMap fun u => u.cells.toList).toArray) ?_ ⟨vs', f2, f3, rfl⟩
  have hm : (fs.mapM fun f => (do pure (f.offset, ← sizeOf f.type) : Sem (Nat × Nat))).run P w = .ok ps.toArray w := by
    rw [Array.mapM_eq_mapM_toList]
    simp only [Sem.run_map, hps, Result.andThen_ok]
  have hzc : (az (.st b) (aQ (.st b))).cells = (vs.flatMap fun u => u.cells.toList).toArray := by rw [s3]; rfl
  simp only [execOp, ho, Instr.build, Sem.run_bind, hfit.zeroValue w, Result.andThen_ok, run_underlying hu, hm, hzc, Array.toList_map, List.getElem?_toArray, hf, Sem.run_pure]
theorem Lm (hD : DOk P D) (hM : MemOk P G w) {t : TypeId} {u : Ty} (ht : D.ty t = some u) {x : Operand} (ho : o.op = .load t x) {id : Nat} {base : Ty} {p : List Sel} (hk : KV P G w tm (.ptr id base p) (a.eval x))
    {k k' : K} (hb : ao G.b id = some (.obj base k)) (hta : dg base p = some u) (hn : Dq base k p = some k') : ak P o a G w tm k' [] := by
  obtain ⟨g', arr, eid, v, b1, b2, b3, b4, b5, b6, b7, b8, b9, b10, b11⟩ := hM.box id _ (aq hb)
  obtain ⟨_, hp, g, hg, hx⟩ := hk
  rw [hg] at b1
  cases b1
  have hone : iW base v := ⟨by rw [b6]; exact b7, by rw [b6]; exact b8, b9, b10⟩
  obtain ⟨v', f1, f2, f3, f4⟩ := Pz (b5.tm (tm' := tm) b4) hone hta hp (eW (hD.fit ht)) hn
  rw [b11, Nat.zero_add] at hx
  have hcl := tI (off := aJ base p) (n := siz u) (e := .unit) (.of b3)
  rw [← b6, f4] at hcl
  have := re hD ht (L := v'.cells.toList) (by rw [Array.length_toList]; exact f2.1) hcl ho hx
  rw [JB f2] at this
  exact aC hM this f1
theorem Ke (hD : DOk P D) (hM : MemOk P G w) {t : TypeId} {u : Ty} (ht : D.ty t = some u) {x v : Operand} (ho : o.op = .store t x v) {id : Nat} {base : Ty} {p : List Sel} (hk : KV P G w tm (.ptr id base p) (a.eval x))
    {kv : K} (hv : KV P G w tm kv (a.eval v)) (hfit : e9 G.b u kv = true) (hnv : nog kv = true) {k k' : K} (hb : ao G.b id = some (.obj base k)) (hta : dg base p = some u) (hn : mz G.b base k p kv = some k') : ak P o a G w tm .any [(id, .live (.obj base k'))] := by
  have hbl := aq hb
  obtain ⟨g, arr, eid, v0, b1, b2, b3, b4, b5, b6, b7, b8, b9, b10, b11⟩ := hM.box id _ hbl
  obtain ⟨_, hp, g', hg, hx⟩ := hk
  rw [hg] at b1
  cases b1
  have hone : iW base v0 := ⟨by rw [b6]; exact b7, by rw [b6]; exact b8, b9, b10⟩
  have hvo := CS hM hv hfit (eW (hD.fit ht))
  obtain ⟨v', f1, f2, f3, f4⟩ := Pc hM (hv.tm (tm' := fun _ => undef) hnv) hvo (eW (hD.fit ht)) b5 hone hta hp hn
  have hnog : nog k' = true := by
    have key : ∀ {p : List Sel} {t : Ty} {k k' : K}, nog k = true → mz G.b t k p kv = some k' → nog k' = true := by
      intro p
      induction p with
      | nil =>
        intro t k k' _ h
        have h : (if e9 G.b t kv then some kv else none) = some k' := by cases t <;> cases k <;> exact h
        split at h
        · cases h; exact hnv
        · cases h
      | cons s p ih =>
        intro t k k' hk h
        have hset : ∀ {c c' : K} {i : Nat} {q : K}, nog c = true → nog q = true → p9 c i q = some c' → nog c' = true := by
          intro c
          induction c with
          | kcons x y _ ihy =>
            intro c' i q hc hq h
            simp only [nog, Bool.and_eq_true] at hc
            cases i with
            | zero => cases h; simp only [nog, hq, hc.2, Bool.and_self]
            | succ i =>
              have h : (match p9 y i q with | some b' => some (.kcons x b') | none => none) = some c' := h
              split at h
              · rename_i b' hb'
                cases h
                simp only [nog, hc.1, ihy hc.2 hq hb', Bool.and_self]
              · cases h
          | _ => intro c' i q _ _ h; cases i <;> cases h
        have hget : ∀ {c : K} {i : Nat}, nog c = true → nog (sS c i) = true := by
          intro c
          induction c with
          | kcons x y _ ihy =>
            intro i hc
            simp only [nog, Bool.and_eq_true] at hc
            cases i with
            | zero => exact hc.1
            | succ i => exact ihy hc.2
          | _ => intro i _; cases i <;> rfl
        unfold mz at h
        split at h
        · rename_i hd; cases hd
        · rename_i hs
          injection hs with hs1 hs2
          subst hs1 hs2
          split at h
          · split at h
            · split at h
              · rename_i k1 hk1
                split at h
                · rename_i c' hc'
                  cases h
                  have hn1 : nog c' = true := hset (by exact hk) (ih (hget (by exact hk)) hk1) hc'
                  exact hn1
                · cases h
              · cases h
            · cases h
          · cases h
        · split at h
          · split at h
            · cases h; rfl
            · cases h
          · cases h
        · cases h
    exact key b4 hn
  have hlen : (a.eval v).cells.toList.length = siz u := by rw [Array.length_toList]; exact hvo.1
  have hA : arr.toList.length = arr.size := Array.length_toList
  rw [b11, Nat.zero_add] at hx
  have hle : aJ base p + siz u ≤ arr.size := by omega
  have hm := hM.turn hbl hg (x := .obj base k') (cs := (aw arr.toList (aJ base p) (a.eval v).cells.toList).toArray) (fun G' w' e1 hE e2 e3 => by
    have hcs : v'.cells = (aw arr.toList (aJ base p) (a.eval v).cells.toList).toArray := by
      apply Array.ext'
      rw [f4, b6]
    refine ⟨g, v'.cells, eid, v', e3, by unfold Gst.nb; rw [hE.w0, hE.own]; exact b2, ?_, hnog, f1.ext hE, rfl, f2.1, f2.2.1, f2.2.2.1, f2.2.2.2, by rw [e2]; exact b11⟩
    rw [e1, hcs]
    exact setRow_heap w g arr _ eid (0, 0) b3)
  have hst := run_storeCells_at P g (aJ base p) eid (a.eval v).cells.toList 0 arr w b3 (by rw [hlen]; simpa using hle) hvo.2.1
  simp only [Nat.add_zero] at hst
  have hrun : (execOp a.eval o).run P w = .ok .skip (w.setRow g (aw arr.toList (aJ base p) (a.eval v).cells.toList).toArray) := by
    simp only [execOp, ho, hx, Instr.storeAt, Instr.sureAddr, storeVar, Sem.run_bind, Sem.run_pure, Result.andThen_ok, (hD.fit ht).sizeOf w, hvo.1, ne_eq, not_true_eq_false, if_false, hst]
    rw [aw]
  intro next Q h
  unfold Oper.wp
  rw [hrun]
  exact h _ _ undef rfl hm.2 hm.1 trivial
theorem MemOk.turnO {w' : World} (hM : MemOk P G w) {id g : Nat} {x y : Bx} (hb : G.b id = .live y) (hk : G.bk id = some g)
    (hos : w'.os = w.os) (htape : Tp w w') (hout : w'.output = w.output) (hsize : w.heap.size ≤ w'.heap.size) (hsame : ∀ b, b ≠ g → w'.heap[b]? = w.heap[b]?)
    (hx : ∀ G', G.Ext w G' w' → G'.hd id = G.hd id → G'.bk id = some g → fE P G' w' id x) : MemOk P (G.turn id x) w' ∧ G.Ext w (G.turn id x) w' := by
  have hlt := fK hM hb hk
  have hav : G.av g := .inr ⟨id, y, hb, hk⟩
  have hl : Lat G.av w (G.turn id x).av w' := ⟨hsize, fun b _ hO => ⟨hsame b (fun e => hO (e ▸ hav)), fun h => hO ((Gst.turn_av hb b).1 h)⟩⟩
  have hkept : uV G.own G.w0 w' := ⟨hos.trans hM.kept.os, htape.trans hM.kept.tape, hout.trans hM.kept.output, Nat.le_trans hM.kept.size hsize, fun b hb' ho => by
    rw [hsame b (fun e => hlt.2.elim (fun h => by omega) (fun h => ho (by rw [e]; exact h)))]; exact hM.kept.block b hb' ho⟩
  have hE : G.Ext w (G.turn id x) w' := ⟨hl, fun i hi => ⟨rfl, rfl, by
    by_cases e : i = id
    · simp [Gst.turn, e]
    · simpa [Gst.turn, e] using hi⟩, ⟨fun _ h => h, fun _ h => .inl h⟩, rfl, rfl, fun b hO _ => hsame b (fun e => hM.boxO id y g hb hk (e ▸ hO))⟩
  refine ⟨⟨hkept, fun g h => Nat.lt_of_lt_of_le (hM.old g h) hsize, hM.dis, fun i z hi => ?_, fun i j y' z b hi hj ki kj => ?_, fun i z b hi ki => ?_⟩, hE⟩
  rotate_right
  · by_cases e : i = id
    · subst e; exact hM.boxO i y b hb ki
    · exact hM.boxO i z b (by simpa [Gst.turn, e] using hi) ki
  · by_cases e : i = id
    · subst e
      have : z = x := by simp [Gst.turn] at hi; exact hi.symm
      subst this
      exact hx _ hE rfl hk
    · have hi' : G.b i = .live z := by simpa [Gst.turn, e] using hi
      exact (hM.box i z hi').keep hE rfl rfl (fun b hb' => hsame b (fun e' => e (hM.sep i id z y g hi' hb (e' ▸ hb') hk)))
  · have h1 : ∃ y'', G.b i = .live y'' := by
      by_cases e : i = id
      · exact ⟨y, e ▸ hb⟩
      · exact ⟨y', by simpa [Gst.turn, e] using hi⟩
    have h2 : ∃ z'', G.b j = .live z'' := by
      by_cases e : j = id
      · exact ⟨y, e ▸ hb⟩
      · exact ⟨z, by simpa [Gst.turn, e] using hj⟩
    obtain ⟨y'', h1⟩ := h1
    obtain ⟨z'', h2⟩ := h2
    exact hM.sep i j y'' z'' b h1 h2 ki kj
theorem xM {T : Nat → Option Ty} {id : TypeId} {k v : Ty} (h : cq P T id (.mp k v) = true) : ∃ kt vt, P.underlying id = some (.map kt vt) ∧ T kt = some k ∧ T vt = some v := by
 rcases hd : P.underlying id with _ | d
 ·simp [cq, hd] at h
 ·cases d <;> simp [cq, hd] at h ⊢
  exact ⟨_, _, ⟨rfl, rfl⟩, h.1.1.1, h.1.1.2⟩
structure E2 (P : Program) (kid : TypeId) (k : Ty) : Prop where
 check : ∀ (em : Bool) (w : World) (O : Nat → Prop) (v : Value) (x : den k), aB P k O w v x → (Instr.checkKey em 10000 kid v).run P w = .ok () w
 find : ∀ (w : World) (O : Nat → Prop) (v : Value) (x : den k) (es : List MapEntry), aB P k O w v x → (∀ e ∈ es, ∃ y : den k, aB P k O w e.key y) →
  ((Instr.findKey kid v es).run P w = .ok none w ∧ ∀ e ∈ es, e.key ≠ v) ∨ ∃ j e, (Instr.findKey kid v es).run P w = .ok (some (j, e.val)) w ∧ es[j]? = some e ∧ e.key = v
 stays : ∀ (w : World) (O : Nat → Prop) (v : Value) (x : den k), aB P k O w v x → (Instr.keyThatStays v v).run P w = .ok v w
theorem qX {kid : TypeId} {k : Ty} {d : TypeDesc} (hd : P.underlying kid = some d) (hkey : ∀ (O : Nat → Prop) (w : World) v x, aB P k O w v x → IsKey d v) : E2 P kid k where
 check := fun em w O v x h => Go.MapKept.run_checkKey hd (hkey _ _ _ _ h) em 9999
 find := fun w O v x es h hes => by
  rcases Go.MapKept.findNow_spec (hkey _ _ _ _ h) es 0 (fun e he => let ⟨_, hy⟩ := hes e he; hkey _ _ _ _ hy) with ⟨h1, h2⟩ | ⟨j, e, h1, h2, h3⟩
  ·exact .inl ⟨Go.MapKept.run_findKey hd h1, h2⟩
  ·exact .inr ⟨j, e, by rw [Go.MapKept.run_findKey hd h1, Nat.zero_add], h2, h3⟩
 stays := fun w O v x h => Go.MapKept.run_keyThatStays (hkey _ _ _ _ h)
theorem oS {q : IntKind} {O : Nat → Prop} {w : World} : ∀ {cs : List Value} {xs : List Int}, RepAll (fun cs x => Rep P (.int q) .cells O w cs x) 1 cs xs → cs = xs.map (Value.int q) ∧ ∀ x ∈ xs, InK q x
 | cs, [], h => ⟨h, fun _ hx => by cases hx⟩
 | cs, x :: xs, ⟨⟨e, hk⟩, h2⟩ => by
  obtain ⟨i1, i2⟩ := oS h2
  refine ⟨?_, fun y hy => ?_⟩
  ·rw [← List.take_append_drop 1 cs, e, i1]; rfl
  ·rcases List.mem_cons.1 hy with rfl | hy
   ·exact hk
   ·exact i2 y hy
theorem BT {q : IntKind} : ∀ {x y : List Int}, x.map (Value.int q) = y.map (Value.int q) → x = y
 | [], [], _ => rfl
 | a :: x, b :: y, h => by
  rw [List.map_cons, List.map_cons] at h
  have h1 := List.cons.inj h
  have e : a = b := by injection h1.1
  rw [e, BT h1.2]
 | [], _ :: _, h => by cases h
 | _ :: _, [], h => by cases h
theorem AJ {α β : Type} {f : α → Option β} : ∀ {l : List α}, (∀ x ∈ l, ∃ y, f x = some y) → ∃ r, l.mapM f = some r
 | [], _ => ⟨[], rfl⟩
 | x :: l, h => by
  obtain ⟨y, hy⟩ := h x List.mem_cons_self
  obtain ⟨r, hr⟩ := AJ (l := l) fun z hz => h z (List.mem_cons_of_mem _ hz)
  exact ⟨y :: r, by simp [List.mapM_cons, hy, hr]⟩
theorem MV {T : Nat → Option Ty} (hT : ∀ id t, T id = some t → Fit P T id t) {kid : TypeId} {k : Ty} (hf : Fit P T kid k) (he : rn k = true) (hd : ht k ≤ 10000) {O : Nat → Prop} {w : World} {v : Value} {x : den k} (hx : aB P k O w v x)
    (inj : ∀ {a : Value} {y : den k}, aB P k O w a y → (a = v ↔ y = x)) : ∀ (es : List MapEntry) (i : Nat), (∀ e ∈ es, ∃ y : den k, aB P k O w e.key y) →
      ((Instr.findAsking kid v es i).run P w = .ok none w ∧ ∀ e ∈ es, e.key ≠ v) ∨ ∃ j e, (Instr.findAsking kid v es i).run P w = .ok (some (i + j, e.val)) w ∧ es[j]? = some e ∧ e.key = v
  | [], i, _ => .inl ⟨by simp [Instr.findAsking], fun _ h => by cases h⟩
  | e :: es, i, h => by
    obtain ⟨y, hy⟩ := h e List.mem_cons_self
    have hr := Aq hT hf he hd hx hy
    cases hc : eqb k x y with
    | true =>
      rw [hc] at hr
      have exy := (n8 he x y).1 hc
      exact .inr ⟨0, e, by simp [Instr.findAsking, hr], rfl, (inj hy).2 exy.symm⟩
    | false =>
      rw [hc] at hr
      have hne : e.key ≠ v := fun hk => by
        have := (n8 he x y).2 ((inj hy).1 hk).symm
        rw [hc] at this; cases this
      rcases MV hT hf he hd hx inj es (i + 1) (fun z hz => h z (List.mem_cons_of_mem _ hz)) with ⟨h1, h2⟩ | ⟨j, e', h1, h2, h3⟩
      · refine .inl ⟨by simp [Instr.findAsking, hr, h1], fun z hz => ?_⟩
        rcases List.mem_cons.1 hz with rfl | hz
        · exact hne
        · exact h2 z hz
      · exact .inr ⟨j + 1, e', by simp [Instr.findAsking, hr, h1, Nat.add_assoc, Nat.add_comm 1 j], by simpa using h2, h3⟩
theorem Bb {k : Ty} (hk : sV k = true) {O O' : Nat → Prop} {w w' : World} {a b : Value} {x y : den k} (hx : aB P k O w a x) (hy : aB P k O' w' b y) : a = b ↔ x = y := by
 cases k with
 | int q =>
  obtain ⟨cs, rfl, rfl, _⟩ := hx
  obtain ⟨cs', rfl, rfl, _⟩ := hy
  show Value.int q x = Value.int q y ↔ x = y
  simp
 | bool =>
  obtain ⟨cs, rfl, hc⟩ := hx
  obtain ⟨cs', rfl, hc'⟩ := hy
  have hc : cs = [.bool x] := hc
  have hc' : cs' = [.bool y] := hc'
  subst hc hc'
  show Value.bool x = Value.bool y ↔ x = y
  simp
 | str =>
  obtain ⟨cs, rfl, rfl, _⟩ := hx
  obtain ⟨cs', rfl, rfl, _⟩ := hy
  show Value.string x = Value.string y ↔ x = y
  simp
 | arr n e =>
  cases e with
  | int q =>
   obtain ⟨cs, rfl, _, h1⟩ := hx
   obtain ⟨cs', rfl, _, h2⟩ := hy
   obtain ⟨rfl, _⟩ := oS h1
   obtain ⟨rfl, _⟩ := oS h2
   show Value.agg (List.map (Value.int q) x).toArray = Value.agg (List.map (Value.int q) y).toArray ↔ x = y
   constructor
   ·intro h
    have h := List.toArray_inj (Value.agg.inj h)
    exact BT h
   ·intro h
    rw [h]
  | _ => cases hk
 | _ => cases hk
theorem Ns {k : Ty} (hk : sV k = true) : rn k = true := by
 cases k with
 | arr n e => cases e <;> first | rfl | cases hk
 | _ => first | rfl | cases hk
theorem E9 {k : Ty} (hk : sV k = true) (x y : den k) : eqb k x y = true ↔ x = y := n8 (Ns hk) x y
theorem JW {T : Nat → Option Ty} (hT : ∀ id t, T id = some t → Fit P T id t) {kid : TypeId} {n : Nat} {q : IntKind} (hf : Fit P T kid (.arr n (.int q))) : E2 P kid (.arr n (.int q)) := by
 obtain ⟨e, hu, he, _⟩ := ja hf.shape
 have hfe := hT _ _ he
 have hue := fD hfe.shape
 have hwide : (match P.underlying kid with | some (.array _ _) | some (.struct _) => true | _ => false) = true := by rw [hu]
 have hkt : P.keyTypeAt 2 kid = true := by
  unfold Program.keyTypeAt
  rw [hu]
  show P.keyTypeAt 1 e = true
  unfold Program.keyTypeAt
  rw [hue]
 have hce : P.cellsOf e = 1 := by
  obtain ⟨i, z, hi, hs, _⟩ := hfe.info
  unfold Program.cellsOf
  rw [hi]; exact hs
 have hck : P.cellsOf kid = n * 1 := by
  obtain ⟨i, z, hi, hs, _⟩ := hf.info
  unfold Program.cellsOf
  rw [hi]; exact hs
 have inj : ∀ {O : Nat → Prop} {w : World} {v : Value} {x : den (.arr n (.int q))}, aB P (.arr n (.int q)) O w v x → ∀ {a : Value} {y : den (.arr n (.int q))}, aB P (.arr n (.int q)) O w a y → (a = v ↔ y = x) := fun hx _ _ hy => Bb (k := .arr n (.int q)) rfl hy hx
 refine ⟨fun em w O v x h => ?_, fun w O v x es h hes => ?_, fun w O v x h => ?_⟩
 ·obtain ⟨cs, rfl, hl, hr⟩ := h
  obtain ⟨ec, hin⟩ := oS hr
  have hlen : cs.length = n := by rw [ec, List.length_map]; exact hl
  have hlits : ∃ la, P.keyLits 2 kid cs = some la := by
   have hm : ∃ r, (List.range n).mapM (fun i => P.keyLits 1 e ((cs.drop (i * P.cellsOf e)).take (P.cellsOf e))) = some r := by
    refine AJ fun i hi => ?_
    have hi : i < n := List.mem_range.1 hi
    rw [hce, Nat.mul_one]
    have hix : i < x.length := by rw [hl]; exact hi
    have e1 : (cs.drop i).take 1 = [Value.int q x[i]] := by
     rw [ec, ← List.map_drop, List.drop_eq_getElem_cons hix]
     rfl
    rw [e1]
    unfold Program.keyLits
    rw [hue]
    have hw : (Lit.int q x[i]).wf = true := by
     have := hin _ (List.getElem_mem hix)
     simpa [Lit.wf, InK] using this
    exact ⟨[.int q x[i]], by simp [hw]⟩
   obtain ⟨r, hr⟩ := hm
   unfold Program.keyLits
   rw [hu]
   simp only
   rw [if_pos (by rw [hck, hlen, Nat.mul_one]), hr]
   exact ⟨_, rfl⟩
  obtain ⟨la, hla⟩ := hlits
  have hform : (az (.arr n (.int q)) cs).formed P kid = true := by
   show Value.formed P kid (.agg cs.toArray) = true
   simp [Value.formed, hu, hck, hlen]
  have := run_checkKey_deep em 9998 2 kid hkt w 2 (az (.arr n (.int q)) cs) la hform (by
   show P.keyLits 2 kid cs.toArray.toList = some la
   simpa using hla)
  exact this
 ·rw [run_findKey_eq w hwide]
  have := MV hT hf (Ns (k := .arr n (.int q)) rfl) (by simp [ht]) h (inj h) es 0 hes
  rcases this with h1 | ⟨j, e0, h1, h2, h3⟩
  ·exact .inl h1
  ·exact .inr ⟨j, e0, by rw [h1, Nat.zero_add], h2, h3⟩
 ·obtain ⟨cs, rfl, hl, hr⟩ := h
  obtain ⟨ec, _⟩ := oS hr
  have hs : Instr.sameBits 10000 (az (.arr n (.int q)) cs) (az (.arr n (.int q)) cs) = true := by
   show Instr.sameBits (9999 + 1) (.agg cs.toArray) (.agg cs.toArray) = true
   simp only [Instr.sameBits, beq_self_eq_true, Bool.true_and, List.all_eq_true]
   intro p hp
   obtain ⟨i, hi, e⟩ := List.getElem_of_mem hp
   rw [List.getElem_zip] at e
   rw [← e]
   simp only [ec, List.getElem_map]
   simp [Instr.sameBits]
  simp [Instr.keyThatStays, hs]
theorem Hs {T : Nat → Option Ty} (hT : ∀ id t, T id = some t → Fit P T id t) {id : TypeId} {k : Ty} (hf : Fit P T id k) (hk : sV k = true) : E2 P id k := by
 cases k with
 | int q =>
  refine qX (fD hf.shape) fun O w v x h => ?_
  obtain ⟨cs, rfl, rfl, _⟩ := h
  exact rfl
 | bool =>
  refine qX (sq hf.shape) fun O w v x h => ?_
  obtain ⟨cs, rfl, hc⟩ := h
  have hc : cs = [.bool x] := hc
  subst hc
  exact trivial
 | str =>
  refine qX (gg hf.shape) fun O w v x h => ?_
  obtain ⟨cs, rfl, rfl, _⟩ := h
  exact trivial
 | arr n e =>
  cases e with
  | int q => exact JW hT hf
  | _ => cases hk
 | _ => cases hk
section
variable {k v : Ty} {O : Nat → Prop}
theorem Cg (hk : sV k = true) {kv : Value} {x : den k} (hx : aB P k O w kv x) : ∀ {ms : List MapEntry} {l : List (den k × den v)}, fp (aB P k O w) (aB P v O w) ms l → (∀ m ∈ ms, m.key ≠ kv) →
    s7 (k := k) (v := v) l x = none ∧ ∀ {e : MapEntry} {y : den v}, aB P k O w e.key x → aB P v O w e.val y → fp (aB P k O w) (aB P v O w) (ms ++ [e]) (nJ l x y)
  | [], [], _, _ => ⟨rfl, fun h1 h2 => ⟨h1, h2, trivial⟩⟩
  | m :: ms, q :: l, ⟨h1, h2, h3⟩, hne => by
    have hq : eqb k x q.1 = false := by
      cases hc : eqb k x q.1 with
      | false => rfl
      | true => exact absurd ((Bb hk h1 hx).2 ((E9 hk _ _).1 hc).symm) (hne m (by simp))
    obtain ⟨i1, i2⟩ := Cg hk hx h3 fun m hm => hne m (by simp [hm])
    refine ⟨?_, fun {e y} a1 a2 => ?_⟩
    · unfold s7 at i1 ⊢
      rw [List.find?_cons_of_neg (by simp [hq])]
      exact i1
    · rw [nJ, if_neg (by simp [hq])]
      exact ⟨h1, h2, i2 a1 a2⟩
  | [], _ :: _, h, _ => h.elim
  | _ :: _, [], h, _ => h.elim
theorem IC (hk : sV k = true) {kv : Value} {x : den k} (hx : aB P k O w kv x) : ∀ {ms : List MapEntry} {l : List (den k × den v)} {j : Nat} {e : MapEntry}, fp (aB P k O w) (aB P v O w) ms l → (ms.map (·.key)).Nodup → ms[j]? = some e → e.key = kv →
    ∃ y, s7 (k := k) (v := v) l x = some y ∧ aB P v O w e.val y ∧ ∀ {e' : MapEntry} {y' : den v}, aB P k O w e'.key x → aB P v O w e'.val y' → fp (aB P k O w) (aB P v O w) (ms.set j e') (nJ l x y')
  | [], _, j, e, _, _, hj, _ => by cases hj
  | m :: ms, [], j, e, h, _, _, _ => h.elim
  | m :: ms, q :: l, 0, e, ⟨h1, h2, h3⟩, hn, hj, he => by
    have e1 : m = e := Option.some.inj hj
    subst e1
    have hq : eqb k x q.1 = true := (E9 hk _ _).2 ((Bb hk h1 hx).1 he).symm
    refine ⟨q.2, ?_, h2, fun {e' y'} a1 a2 => ?_⟩
    · unfold s7; rw [List.find?_cons_of_pos (p := fun q : den k × den v => eqb k x q.1) hq]
    · rw [nJ, if_pos hq]; exact ⟨a1, a2, h3⟩
  | m :: ms, q :: l, j + 1, e, ⟨h1, h2, h3⟩, hn, hj, he => by
    rw [List.map_cons, List.nodup_cons] at hn
    have hj : ms[j]? = some e := hj
    have hq : eqb k x q.1 = false := by
      cases hc : eqb k x q.1 with
      | false => rfl
      | true =>
        have := (Bb hk h1 hx).2 ((E9 hk _ _).1 hc).symm
        exact absurd (List.mem_map.2 ⟨e, List.mem_of_getElem? hj, he.trans this.symm⟩) hn.1
    obtain ⟨y, i1, i2, i3⟩ := IC hk hx h3 hn.2 hj he
    refine ⟨y, ?_, i2, fun {e' y'} a1 a2 => ?_⟩
    · unfold s7 at i1 ⊢
      rw [List.find?_cons_of_neg (by simp [hq])]
      exact i1
    · rw [nJ, if_neg (by simp [hq])]
      exact ⟨h1, h2, i3 a1 a2⟩
end
theorem CX {k v : Ty} {O : Nat → Prop} : ∀ {ms : List MapEntry} {l : List (den k × den v)}, fp (aB P k O w) (aB P v O w) ms l → ∀ m ∈ ms, ∃ y : den k, aB P k O w m.key y
 | [], _, _, _, h => by cases h
 | m :: ms, [], h, _, _ => h.elim
 | m :: ms, q :: l, ⟨h1, _, h3⟩, m', hm' => by
  rcases List.mem_cons.1 hm' with rfl | hm'
  ·exact ⟨_, h1⟩
  ·exact CX h3 m' hm'
theorem qh {k v k' v' : Ty} {l : List (den k' × den v')} {l' : List (den k × den v)} (h : DR k v k' v' l = some l') : k' = k ∧ v' = v ∧ HEq l l' := by
 unfold DR at h
 split at h
 ·rename_i hh
  obtain ⟨rfl, rfl⟩ := hh
  have := Option.some.inj h
  subst this
  exact ⟨rfl, rfl, HEq.rfl⟩
 ·cases h
theorem Np (hM : MemOk P G w) {t : TypeId} (ho : o.op = .makeMap t none) {k v : Ty} {id : Nat} (hf : aX G.b id = true) : ak P o a G w tm (.pm id) [(id, .live (.mpd k v []))] := by
 have hkp := Kept.alloc w (.map #[] 0)
 have := hM.add (P := P) hkp (id := id) (g := w.heap.size) (h := .map (some w.heap.size)) (x := .mpd k v []) (bP hf) (Nat.le_refl _) (fun G' hE hh hb _ =>
  ⟨w.heap.size, #[], 0, hb, by unfold Gst.nb; rw [hE.w0]; exact .inl hM.kept.size, je w _, Go.MapKept.stamped_empty 0, trivial⟩)
 refine bp (v := .map (some w.heap.size)) ?_ rfl this.2 this.1 ⟨⟨.mpd k v [], .inl (by simp [Gst.add])⟩, w.heap.size, by simp [Gst.add], rfl⟩
 simp only [execOp, ho, Option.map_none, Instr.makeMap, Sem.run_bind, run_newObj, Result.andThen_ok, Sem.run_pure]
 rfl
theorem NX (hD : DOk P D) (hM : MemOk P G w) {t : TypeId} {x i : Operand} {ok : Bool} (ho : o.op = .lookup t x i ok) {k v : Ty} (ht : D.ty t = some (.mp k v)) (hkt : sV k = true) {km : K} (hm : KV P G w tm km (a.eval x)) {l : List (den k × den v)} (hl : pX G.b k v km = some l)
    {y : den k} (hy : aB P k G.av w (a.eval i) y) : ak P o a G w tm (if ok then .kcons (.val v (uJ l y)) (.kcons (.val .bool (sk l y)) .knil) else .val v (uJ l y)) [] := by
  obtain ⟨kid, vid, hu, hTk, hTv⟩ := xM (hD.fit ht).shape
  have hkg := Hs (fun _ _ h => hD.fit h) (hD.fit hTk) hkt
  have hfv := hD.fit hTv
  have hz : aB P v G.av w (az v (aQ v)) (zero v) := ⟨_, rfl, eN P _ _ v hfv.plain⟩
  have fin : ∀ (es : Array MapEntry) (r : Option Nat), (r = none ∧ es = #[] ∨ ∃ g, r = some g ∧ ∃ ck, w.heap[g]? = some (.map es ck)) → a.eval x = .map r → (es.toList.map (·.key)).Nodup → fp (aB P k G.av w) (aB P v G.av w) es.toList l →
      ∃ u, (Instr.lookup t (a.eval x) (a.eval i) ok).run P w = .ok (if ok then .tuple #[u, .bool (sk l y)] else u) w ∧ aB P v G.av w u (uJ l y) := by
    intro es r hr hx hn he
    have go : ∀ r' : Option (Nat × Value), (Instr.findKey kid (a.eval i) es.toList).run P w = .ok r' w → (Instr.lookup t (a.eval x) (a.eval i) ok).run P w =
        .ok (if ok then .tuple #[(match r' with | some q => q.2 | none => az v (aQ v)), .bool r'.isSome] else (match r' with | some q => q.2 | none => az v (aQ v))) w := by
      intro r' h1
      rw [hx]
      unfold Instr.lookup
      rcases hr with ⟨rfl, rfl⟩ | ⟨g, rfl, ck, hg⟩
      · simp only [Sem.run_bind, run_underlying hu, Result.andThen_ok, Sem.run_pure, hkg.check _ _ _ _ _ hy, h1]
        cases r' <;> cases ok <;> simp [hfv.zeroValue w, Result.andThen]
      · simp only [Sem.run_bind, run_underlying hu, Result.andThen_ok, Sem.run_pure, Go.MapKept.run_getObj_map hg, hkg.check _ _ _ _ _ hy, h1]
        cases r' <;> cases ok <;> simp [hfv.zeroValue w, Result.andThen]
    have hks := CX he
    rcases hkg.find w _ _ _ es.toList hy hks with ⟨h1, h2⟩ | ⟨j, e, h1, h2, h3⟩
    · have hnone := (Cg hkt hy he h2).1
      refine ⟨az v (aQ v), ?_, by unfold uJ; rw [hnone]; exact hz⟩
      rw [go _ h1]
      unfold sk
      rw [hnone]
      rfl
    · obtain ⟨u, g1, g2, _⟩ := IC hkt hy he hn h2 h3
      refine ⟨e.val, ?_, by unfold uJ; rw [g1]; exact g2⟩
      rw [go _ h1]
      unfold sk
      rw [g1]
      rfl
  have key : ∃ u, (Instr.lookup t (a.eval x) (a.eval i) ok).run P w = .ok (if ok then .tuple #[u, .bool (sk l y)] else u) w ∧ aB P v G.av w u (uJ l y) := by
    unfold pX at hl
    split at hl
    · have e := (Option.some.inj hl).symm
      subst e
      have hm : a.eval x = .map none := hm
      exact fin #[] none (.inl ⟨rfl, rfl⟩) hm List.nodup_nil trivial
    · rename_i j
      split at hl
      · rename_i k' v' l0 hlive
        obtain ⟨rfl, rfl, he⟩ := qh hl
        have he := eq_of_heq he
        subst he
        obtain ⟨g, es, ck, b1, b2, b3, b4, b5⟩ := hM.box j _ (aq hlive)
        obtain ⟨_, g', hg', hx⟩ := hm
        rw [b1] at hg'
        cases hg'
        exact fin es (some g) (.inr ⟨g, rfl, ck, b3⟩) hx b4.2.2 b5
      · cases hl
    · rename_i k' v' l0
      obtain ⟨rfl, rfl, he⟩ := qh hl
      have he := eq_of_heq he
      subst he
      obtain ⟨cs, ev, r, rfl, hr0, hr1⟩ := hm
      cases r with
      | none =>
        have hn : l0 = [] := hr0 rfl
        exact fin #[] none (.inl ⟨rfl, rfl⟩) ev List.nodup_nil (by rw [hn]; exact trivial)
      | some g =>
        obtain ⟨_, _, es, ck, h3, h4, h5⟩ := hr1 g rfl
        exact fin es (some g) (.inr ⟨g, rfl, ck, h3⟩) ev h4 h5
    · cases hl
  obtain ⟨u, hrun, hu'⟩ := key
  refine aC hM (v := if ok then .tuple #[u, .bool (sk l y)] else u) (by simp only [execOp, ho, Sem.run_bind, hrun, Result.andThen_ok, Sem.run_pure]) ?_
  cases ok
  · exact hu'
  · exact ⟨u, [.bool (sk l y)], rfl, hu', ⟨.bool (sk l y), [], rfl, bA.2 rfl, rfl⟩⟩
theorem B3 (hD : DOk P D) (hM : MemOk P G w) {t : TypeId} {x i z : Operand} (ho : o.op = .mapUpdate t x i z ∨ o.op = .insert t x i z) {k v : Ty} (ht : D.ty t = some (.mp k v)) (hkt : sV k = true) {j : Nat} (hm : KV P G w tm (.pm j) (a.eval x)) {l : List (den k × den v)} (hl : pX G.b k v (.pm j) = some l)
    {y : den k} (hy : aB P k G.av w (a.eval i) y) {u : den v} (hz : aB P v G.av w (a.eval z) u) : ak P o a G w tm .any [(j, .live (.mpd k v (nJ l y u)))] := by
  obtain ⟨kid, vid, hu, hTk, hTv⟩ := xM (hD.fit ht).shape
  have hkg := Hs (fun _ _ h => hD.fit h) (hD.fit hTk) hkt
  unfold pX at hl
  simp only at hl
  split at hl
  · rename_i k' v' l0 hlive
    obtain ⟨rfl, rfl, he⟩ := qh hl
    have he := eq_of_heq he
    subst he
    have hbl := aq hlive
    obtain ⟨g, es, ck, b1, b2, b3, b4, b5⟩ := hM.box j _ hbl
    obtain ⟨_, g', hg', hx⟩ := hm
    rw [b1] at hg'
    cases hg'
    have hks := CX b5
    have fin : ∀ (es' : Array MapEntry) (ck' : Nat), (Instr.mapUpdate t (.map (some g)) (a.eval i) (a.eval z)).run P w = .ok () { w with heap := w.heap.setIfInBounds g (.map es' ck') } → Stamped es' ck' → fp (aB P k' G.av w) (aB P v' G.av w) es'.toList (nJ l0 y u) →
        ak P o a G w tm .any [(j, .live (.mpd k' v' (nJ l0 y u)))] := by
      intro es' ck' hrun hst hent
      have hset := Go.MapKept.heap_set (o' := .map es' ck') b3
      have hmm := hM.turnO hbl b1 (x := .mpd k' v' (nJ l0 y u)) (w' := { w with heap := w.heap.setIfInBounds g (.map es' ck') }) rfl (.same rfl rfl) rfl (by simp) hset.2 (fun G' hE e2 e3 =>
        ⟨g, es', ck', e3, by unfold Gst.nb; rw [hE.w0, hE.own]; exact b2, hset.1, hst, hent.imp (fun _ _ r => aB.lat hE.lat r) (fun _ _ r => aB.lat hE.lat r)⟩)
      intro next Q h
      unfold Oper.wp
      have : (execOp a.eval o).run P w = .ok .skip { w with heap := w.heap.setIfInBounds g (.map es' ck') } := by
        rcases ho with ho | ho <;> simp only [execOp, ho, hx, Sem.run_bind, hrun, Result.andThen_ok, Sem.run_pure]
      rw [this]
      exact h _ _ undef rfl hmm.2 hmm.1 trivial
    rcases hkg.find w _ _ _ es.toList hy hks with ⟨h1, h2⟩ | ⟨i0, e, h1, h2, h3⟩
    · refine fin (es.push { key := a.eval i, val := a.eval z, born := ck }) (ck + 1) ?_ (Go.MapKept.stamped_push b4 h2) ?_
      · unfold Instr.mapUpdate
        simp only [Sem.run_bind, run_underlying hu, Result.andThen_ok, Go.MapKept.run_getObj_map b3, hkg.check _ _ _ _ _ hy, h1, Go.MapKept.run_setObj_map _ b3]
      · rw [Array.toList_push]
        exact (Cg hkt hy b5 h2).2 hy hz
    · obtain ⟨u0, g1, g2, g3⟩ := IC hkt hy b5 b4.2.2 h2 h3
      have hei : es[i0]? = some e := by simpa using h2
      refine fin (es.modify i0 fun e => { e with key := a.eval i, val := a.eval z }) ck ?_ (Go.MapKept.stamped_modify b4 i0 _ (fun _ _ => rfl) (fun e' _ he' => by rw [hei] at he'; cases he'; exact h3.symm)) ?_
      · unfold Instr.mapUpdate
        have hkt' : (Instr.keyThatStays e.key (a.eval i)).run P w = .ok (a.eval i) w := by rw [h3]; exact hkg.stays _ _ _ _ hy
        simp only [Sem.run_bind, run_underlying hu, Result.andThen_ok, Go.MapKept.run_getObj_map b3, hkg.check _ _ _ _ _ hy, h1, hei, Option.map_some, Option.getD_some, hkt', Go.MapKept.run_setObj_map _ b3]
      · have := g3 (e' := { e with key := a.eval i, val := a.eval z }) hy hz
        have hmod : (es.modify i0 fun e => { e with key := a.eval i, val := a.eval z }).toList = es.toList.set i0 { e with key := a.eval i, val := a.eval z } := by
          rw [Array.toList_modify]
          apply List.ext_getElem?
          intro n
          rw [List.getElem?_modify, List.getElem?_set]
          have hlt : i0 < es.toList.length := by
            have := (List.getElem?_eq_some_iff.1 h2).1
            exact this
          by_cases hn : i0 = n
          · subst hn
            rw [h2]; simp; exact hlt
          · rw [if_neg hn]
            simp [hn]
        rw [hmod]
        exact this
  · cases hl
theorem DS {k v : Ty} {O : Nat → Prop} : ∀ {ms : List MapEntry} {l : List (den k × den v)}, fp (aB P k O w) (aB P v O w) ms l → ms.length = l.length
 | [], [], _ => rfl
 | _ :: _, _ :: _, ⟨_, _, h⟩ => by rw [List.length_cons, List.length_cons, DS h]
 | [], _ :: _, h => h.elim
 | _ :: _, [], h => h.elim
theorem KJ {k v : Ty} {O : Nat → Prop} : ∀ {ms : List MapEntry} {l : List (den k × den v)} {i : Nat} {e : MapEntry}, fp (aB P k O w) (aB P v O w) ms l → ms[i]? = some e →
    ∃ q, l[i]? = some q ∧ aB P k O w e.key q.1 ∧ aB P v O w e.val q.2 ∧ fp (aB P k O w) (aB P v O w) (ms.eraseIdx i) (l.eraseIdx i)
  | m :: ms, q :: l, 0, e, ⟨h1, h2, h3⟩, hi => by cases hi; exact ⟨q, rfl, h1, h2, h3⟩
  | m :: ms, q :: l, i + 1, e, ⟨h1, h2, h3⟩, hi => by
    obtain ⟨q', e1, e2, e3, e4⟩ := KJ h3 (show ms[i]? = some e from hi)
    exact ⟨q', e1, e2, e3, h1, h2, e4⟩
  | [], [], _, _, _, hi => by cases hi
  | [], _ :: _, _, _, h, _ => h.elim
  | _ :: _, [], _, _, h, _ => h.elim
theorem C2 {α : Type} {f : α → Nat} : ∀ {l : List α} {i : Nat} {x : α}, (l.map f).Nodup → l[i]? = some x → l.filter (fun y => !(f y == f x)) = l.eraseIdx i
 | y :: l, 0, x, hn, hi => by
  cases hi
  rw [List.map_cons, List.nodup_cons] at hn
  rw [List.filter_cons_of_neg (by simp), List.eraseIdx_cons_zero, List.filter_eq_self]
  intro z hz
  simp
  exact fun e => hn.1 (List.mem_map.2 ⟨z, hz, e⟩)
 | y :: l, i + 1, x, hn, hi => by
  rw [List.map_cons, List.nodup_cons] at hn
  have hi : l[i]? = some x := hi
  have hne : ¬ f y = f x := fun e => hn.1 (List.mem_map.2 ⟨x, List.mem_of_getElem? hi, e.symm⟩)
  rw [List.filter_cons_of_pos (by simpa using hne), List.eraseIdx_cons_succ, C2 hn.2 hi]
theorem OX (hM : MemOk P G w) {t : TypeId} {x : Operand} (ho : o.op = .range t x) {k v : Ty} (ht : D.ty t = some (.mp k v)) (hD : DOk P D) {j : Nat} (hm : KV P G w tm (.pm j) (a.eval x)) {l : List (den k × den v)} (hl : pX G.b k v (.pm j) = some l) {id : Nat} (hf : aX G.b id = true) :
    ak P o a G w tm (.ptr id .unit []) [(j, .dead), (id, .live (.itr k v l none))] := by
  obtain ⟨kid, vid, hu, hTk, hTv⟩ := xM (hD.fit ht).shape
  unfold pX at hl
  simp only at hl
  split at hl
  · rename_i k' v' l0 hlive
    obtain ⟨rfl, rfl, he⟩ := qh hl
    have he := eq_of_heq he
    subst he
    have hbl := aq hlive
    obtain ⟨g, es, ck, b1, b2, b3, b4, b5⟩ := hM.box j _ hbl
    obtain ⟨_, g', hg', hx⟩ := hm
    rw [b1] at hg'
    cases hg'
    obtain ⟨hM1, hE1⟩ := hM.drop j
    have hnav := Gst.drop_not_av hM hbl b1
    have hlt := (fK hM hbl b1).1
    have hkp := Kept.alloc w (.mapIter (some g) ck #[] ck)
    have hf1 : (G.drop j).b id = .no := by
      have hne : id ≠ j := fun e => by rw [e] at hf; rw [bP hf] at hbl; cases hbl
      show (if id = j then BS.dead else G.b id) = .no
      rw [if_neg hne]; exact bP hf
    have := hM1.add (P := P) hkp (id := id) (g := w.heap.size) (h := .pointer (some ⟨w.heap.size, 0, none⟩)) (x := .itr k' v' l0 none) hf1 (Nat.le_refl _) (fun G' hE hh hb _ =>
      ⟨w.heap.size, g, ck, #[], es, hb, by unfold Gst.nb; rw [hE.w0]; exact .inl hM.kept.size, je w _, by rw [hh]; rfl, (hE.lat.keep g hlt hnav).2, Nat.lt_of_lt_of_le hlt hE.lat.size, by rw [(hE.lat.keep g hlt hnav).1]; exact b3, b4,
        by
          have : es.filter (fun e => !(#[] : Array Nat).contains e.born) = es := Array.filter_eq_self.2 fun x _ => by simp
          rw [this]
          exact b5.imp (fun _ _ r => aB.lat (hE1.lat.trans hE.lat) r) (fun _ _ r => aB.lat (hE1.lat.trans hE.lat) r), fun x h => by cases h⟩)
    refine bp (v := .pointer (some ⟨w.heap.size, 0, none⟩)) ?_ ?_ (hE1.trans this.2) this.1 ⟨⟨.itr k' v' l0 none, .inl (by simp [Gst.add])⟩, trivial, w.heap.size, by simp [Gst.add], by simp [Gst.add, i5, aJ]⟩
    · simp only [execOp, ho, hx, Instr.range, Sem.run_bind, run_underlying hu, Result.andThen_ok, Go.MapKept.run_getObj_map b3, run_newObj, Sem.run_pure]
      rfl
    · rfl
  · cases hl
theorem PX (hM : MemOk P G w) {x : Operand} (ho : o.op = .next x false) {j : Nat} (hm : KV P G w tm (.ptr j .unit []) (a.eval x)) {k v : Ty} {left : List (den k × den v)} {cur : Option (den k × den v)} (hb : ao G.b j = some (.itr k v left cur)) :
    ∃ i, (left = [] ∨ i < left.length) ∧ ak P o a G w tm (.kcons (.val .bool (decide (0 < left.length))) .any) [(j, .live (.itr k v (left.eraseIdx i) left[i]?))] := by
  have hbl := aq hb
  obtain ⟨g, gm, since, seen, es, b1, b2, b3, b0, b4, b5, b6, b7, b8, b9⟩ := hM.box j _ hbl
  obtain ⟨_, _, g', hg', hx⟩ := hm
  rw [b1] at hg'
  cases hg'
  have hx : a.eval x = .pointer (some ⟨g, 0, none⟩) := by rw [hx, b0]; rfl
  have hll := DS b8
  rcases run_next_at (P := P) w o.type g gm since since seen es since b3 b6 b7.1 (Nat.le_refl _) with ⟨h1, h2⟩ | ⟨e, he, w1, hw1, h2⟩
  · have hl0 : left = [] := by
      have : left.length = 0 := by rw [← hll]; simpa [leftOf] using h1
      exact List.eq_nil_of_length_eq_zero this
    subst hl0
    refine ⟨0, .inl rfl, ?_⟩
    have hmm := hM.turnO hbl b1 (x := .itr k v [] none) (w' := w) rfl (.refl w) rfl (Nat.le_refl _) (fun _ _ => rfl) (fun G' hE e2 e3 =>
      ⟨g, gm, since, seen, es, e3, by unfold Gst.nb; rw [hE.w0, hE.own]; exact b2, b3, by rw [e2]; exact b0, (hE.lat.keep gm b5 b4).2, b5, b6, b7,
        b8.imp (fun _ _ r => aB.lat hE.lat r) (fun _ _ r => aB.lat hE.lat r), fun x h => by cases h⟩)
    refine bp (v := .tuple #[.bool false]) (by simp only [execOp, ho, hx, Sem.run_bind, h2, Result.andThen_ok, Sem.run_pure]) rfl hmm.2 hmm.1 ?_
    exact ⟨.bool false, [], rfl, bA.2 rfl, trivial⟩
  · obtain ⟨i, hi, hie⟩ := List.getElem_of_mem he
    have hie' : (es.filter fun e => !seen.contains e.born).toList[i]? = some e := by rw [← hie]; exact List.getElem?_eq_getElem hi
    obtain ⟨q, q1, q2, q3, q4⟩ := KJ b8 hie'
    have hlt : i < left.length := (List.getElem?_eq_some_iff.1 q1).1
    refine ⟨i, .inr hlt, ?_⟩
    have hw1h : w1.heap = w.heap := by rcases hw1 with rfl | rfl <;> rfl
    have hr1 : w1.heap[g]? = some (.mapIter (some gm) since seen since) := by rw [hw1h]; exact b3
    have hset := Go.MapKept.heap_set (w := w1) (o' := .mapIter (some gm) since (seen.push e.born) since) hr1
    have hgm : gm ≠ g := fun e => b4 (e ▸ .inr ⟨j, _, hbl, b1⟩)
    have hmem : e ∈ es.toList := by
      have := List.mem_of_getElem? hie'
      simp at this ⊢
      exact this.1
    have hmm := hM.turnO hbl b1 (x := .itr k v (left.eraseIdx i) left[i]?) (w' := setBlock w1 g (.mapIter (some gm) since (seen.push e.born) since))
      (by rcases hw1 with rfl | rfl <;> rfl) (by rcases hw1 with rfl | rfl; exact .same rfl rfl; exact ⟨rfl, fun _ => Nat.le_succ _⟩) (by rcases hw1 with rfl | rfl <;> rfl)
      (by show w.heap.size ≤ (w1.heap.setIfInBounds g _).size; rw [Array.size_setIfInBounds, hw1h]; exact Nat.le_refl _)
      (fun b hb' => by show (w1.heap.setIfInBounds g _)[b]? = w.heap[b]?; rw [hset.2 b hb', hw1h])
      (fun G' hE e2 e3 => by
        have hkeep := hE.lat.keep gm b5 b4
        refine ⟨g, gm, since, seen.push e.born, es, e3, by unfold Gst.nb; rw [hE.w0, hE.own]; exact b2, hset.1, by rw [e2]; exact b0, hkeep.2, Nat.lt_of_lt_of_le b5 hE.lat.size, by rw [hkeep.1]; exact b6, b7, ?_, fun x hx' => ?_⟩
        · have hfil : (es.filter fun e' => !(seen.push e.born).contains e'.born).toList = (es.filter fun e => !seen.contains e.born).toList.eraseIdx i := by
            have hnd : (((es.filter fun e => !seen.contains e.born).toList).map (·.born)).Nodup := by
              rw [Array.toList_filter]
              exact b7.2.1.sublist ((List.filter_sublist).map _)
            rw [← C2 (f := fun e : MapEntry => e.born) hnd hie', Array.toList_filter, Array.toList_filter, List.filter_filter]
            refine List.filter_congr fun y _ => ?_
            simp only [Array.contains_push, Bool.not_or]
            rw [Bool.and_comm]
          rw [hfil]
          exact q4.imp (fun _ _ r => aB.lat hE.lat r) (fun _ _ r => aB.lat hE.lat r)
        · rw [q1] at hx'
          cases hx'
          exact ⟨e, hmem, by rw [Array.back?_push], q2.lat hE.lat, q3.lat hE.lat⟩)
    refine bp (v := .tuple #[.bool true, e.key, e.val]) (by simp only [execOp, ho, hx, Sem.run_bind, h2, Result.andThen_ok, Sem.run_pure]) rfl hmm.2 hmm.1 ?_
    refine ⟨.bool true, [e.key, e.val], rfl, bA.2 ?_, trivial⟩
    rw [decide_eq_true (show 0 < left.length by omega)]
theorem OR (hM : MemOk P G w) {x : Operand} (ho : o.op = .entry x) {j : Nat} (hm : KV P G w tm (.ptr j .unit []) (a.eval x)) {k v : Ty} {left : List (den k × den v)} {cur : Option (den k × den v)} (hb : ao G.b j = some (.itr k v left cur)) (hc : cur.isSome = true) :
    ak P o a G w tm (.kcons (.val k (G8 cur).1) (.kcons (.val v (G8 cur).2) .knil)) [] := by
  have hbl := aq hb
  obtain ⟨g, gm, since, seen, es, b1, b2, b3, b0, b4, b5, b6, b7, b8, b9⟩ := hM.box j _ hbl
  obtain ⟨_, _, g', hg', hx⟩ := hm
  rw [b1] at hg'
  cases hg'
  have hx : a.eval x = .pointer (some ⟨g, 0, none⟩) := by rw [hx, b0]; rfl
  obtain ⟨q, rfl⟩ := Option.isSome_iff_exists.1 hc
  obtain ⟨e, e1, e2, e3, e4⟩ := b9 q rfl
  have hseen : ∃ s0 : Array Nat, seen = s0.push e.born := by
    rw [Array.back?_eq_some_iff] at e2
    exact e2
  obtain ⟨s0, rfl⟩ := hseen
  have hrun := run_entry_at (P := P) w g gm since s0 es since e b3 b6 e1 b7.2.1
  refine aC hM (v := .tuple #[e.key, e.val]) (by simp only [execOp, ho, hx, Sem.run_bind, hrun, Result.andThen_ok, Sem.run_pure]) ?_
  exact ⟨e.key, [e.val], rfl, e3, ⟨e.val, [], rfl, e4, rfl⟩⟩
theorem JS (hD : DOk P D) (hM : MemOk P G w) {tx : TypeId} {x lo : Operand} (ho : o.op = .slice tx x (some lo) none none) {e : Ty} (ht : D.ty tx = some (.slc e)) {j : Nat} {e0 : Ty} (hk : KV P G w tm (.sl j e0) (a.eval x)) {xs : List (den e)} (hb : ao G.b j = some (.row e xs))
    {l : Int} {kk : IntKind} (hl : a.eval lo = .int kk l) (hc : bQ l (ln xs) (ln xs)) {id : Nat} (hf : aX G.b id = true) : ak P o a G w tm (.sl id e) [(j, .dead), (id, .live (.row e (xs.drop l.toNat)))] := by
  have hbl := aq hb
  obtain ⟨ei, hun, hte, hse⟩ := aY (hD.fit ht).shape
  have hsz := (hD.fit hte).sizeOf w
  obtain ⟨c1, c2, c3⟩ := hc
  have c2 : l ≤ (xs.length : Int) := c2
  obtain ⟨_, hx⟩ := hk
  have hne : id ≠ j := fun e => by rw [e] at hf; rw [bP hf] at hbl; cases hbl
  have fin : ∀ (aa : Option Addr) (cap : Nat) (g : Option Nat), G.hd j = .slice aa xs.length cap → xs.length ≤ cap → (g = none ∨ g = G.bk j) →
      (∀ G', G.Ext w G' w → G'.hd id = .slice (if cap = l.toNat then aa else aa.map (·.add (l.toNat * siz e))) (xs.length - l.toNat) (cap - l.toNat) → G'.bk id = g → fE P G' w id (.row e (xs.drop l.toNat))) →
      ak P o a G w tm (.sl id e) [(j, .dead), (id, .live (.row e (xs.drop l.toNat)))] := by
    intro aa cap g hh hcap hg hbx
    have hbd := iU (P := P) (w := w) (isS := true) (len := xs.length) (cap := cap) (lo := some (.int kk l)) (hi := none) (l := l) (h := (xs.length : Int)) (.inr ⟨kk, rfl⟩) (.inl ⟨rfl, rfl⟩) ⟨c1, c2, by simp; omega⟩
    have hsw := hM.swap (w' := w) (j := some j) (id := id) (h := .slice (if cap = l.toNat then aa else aa.map (·.add (l.toNat * siz e))) (xs.length - l.toNat) (cap - l.toNat)) (g := g) (x := .row e (xs.drop l.toNat)) (gj := G.bk j) (bP hf)
      (fun i hi => by cases hi; exact ⟨⟨_, hbl⟩, rfl⟩) (fun h => by cases h) rfl (.refl w) rfl (Nat.le_refl _) (fun _ _ _ => rfl) (hg.elim .inl (fun h => .inr (.inl h))) hbx
    refine bp (v := .slice (if cap = l.toNat then aa else aa.map (·.add (l.toNat * siz e))) (xs.length - l.toNat) (cap - l.toNat)) ?_ ?_ hsw.2 hsw.1 ⟨⟨.row e (xs.drop l.toNat), .inl (by simp [Gst.swap])⟩, by simp [Gst.swap]⟩
    · have hlen : ((xs.length : Nat) : Int).toNat = xs.length := by simp
      simp only [execOp, ho, hx, hh, Instr.sliceAt, Instr.slice, Sem.run_bind, run_underlying hun, Result.andThen_ok, Option.map_none, Option.map_some, hl, hbd, hsz, Sem.run_pure, hlen]
    · funext n
      simp only [Gst.swap, aG]
      by_cases e1 : n = id
      · subst e1; simp
      · by_cases e2 : n = j
        · subst e2; simp [e1]
        · have : ¬ some n = some j := fun h => e2 (Option.some.inj h)
          simp [e1, e2, this]
  have hbx := hM.box j _ hbl
  rcases hbx with ⟨rfl, b1, aa, b2⟩ | ⟨g, arr, eid, off, sp, b1, b2, b3, b4, b5, b6, b7⟩
  · have hl0 : l.toNat = 0 := by simp at c2; omega
    refine fin aa 0 none b2 (Nat.le_refl _) (.inl rfl) fun G' hE e1 e2 => .inl ⟨by simp, e2, aa, ?_⟩
    rw [e1, hl0]; rfl
  · have hle : xs.length ≤ (xs ++ sp).length := by simp
    by_cases hcap : (xs ++ sp).length = l.toNat
    · refine fin _ _ none b2 hle (.inl rfl) fun G' hE e1 e2 => .inl ⟨List.drop_of_length_le (by omega), e2, some ⟨g, off, none⟩, ?_⟩
      rw [e1, if_pos hcap, hcap, Nat.sub_self]
      congr 1
      omega
    · refine fin _ _ (some g) b2 hle (.inr b1.symm) fun G' hE e1 e2 => .inr ⟨g, arr, eid, off + l.toNat * siz e, sp, e2, ?_, by unfold Gst.nb; rw [hE.w0, hE.own]; exact b3, b4, ?_, ?_, ?_⟩
      · rw [e1, if_neg hcap]
        simp only [Option.map_some, cS, List.length_append, List.length_drop]
        congr 1
        omega
      · simp only [List.length_append, List.length_drop] at b5 ⊢; omega
      · have : (xs.drop l.toNat ++ sp).length * siz e + l.toNat * siz e = (xs ++ sp).length * siz e := by
          rw [← Nat.add_mul]; congr 1; simp only [List.length_append, List.length_drop]; omega
        omega
      · have hlenL : ((arr.toList.drop off).take ((xs ++ sp).length * siz e)).length = (xs ++ sp).length * siz e := by
          have hA : arr.toList.length = arr.size := Array.length_toList
          rw [List.length_take, List.length_drop, hA]; omega
        have r := RepAll.take_drop l.toNat (xs ++ sp).length (Nat.le_refl _) hlenL b7
        have t1 : (xs ++ sp).take (xs ++ sp).length = xs ++ sp := List.take_length
        have t2 : ((arr.toList.drop off).take ((xs ++ sp).length * siz e)).take ((xs ++ sp).length * siz e) = (arr.toList.drop off).take ((xs ++ sp).length * siz e) := by rw [List.take_take, Nat.min_self]
        rw [t1, t2, List.drop_append_of_le_length (by omega)] at r
        have hdt : ((arr.toList.drop off).take ((xs ++ sp).length * siz e)).drop (l.toNat * siz e) = (arr.toList.drop (off + l.toNat * siz e)).take ((xs.drop l.toNat ++ sp).length * siz e) := by
          rw [List.drop_take, List.drop_drop]
          congr 1
          rw [← Nat.sub_mul]; congr 1; simp only [List.length_append, List.length_drop]; omega
        rw [hdt] at r
        exact r.imp fun _ _ q => q.lat hE.lat
theorem IE {G : Gst} {e : Ty} {v : Vw e} {val : Value} {n0 : Nat} {sp : List (den e)} (hvo : ED P G w e v val n0 sp) (hok : v.ok) :
    (∃ a', v.part = [] ∧ val = .slice a' 0 0) ∨ ∃ g arr eid off sp', G.bk v.id = some g ∧ val = .slice (some ⟨g, off, none⟩) v.part.length (v.part ++ sp').length ∧ G.nb g ∧ RowObj e w.heap[g]? arr eid ∧
      (v.part ++ sp').length ≤ maxLen ∧ off + (v.part ++ sp').length * siz e ≤ arr.size ∧ RepAll (Rep P e .cells G.av w) (siz e) ((arr.toList.drop off).take ((v.part ++ sp').length * siz e)) (v.part ++ sp') := by
  obtain ⟨a', hval, hle, hnone, hsome⟩ := hvo.val
  unfold Vw.ok at hok
  have hplen : v.part.length = v.n := by unfold Vw.part; simp; omega
  by_cases hlt : v.lo < (v.kn ++ sp).length
  · rcases hvo.row.row with ⟨h1, _⟩ | ⟨g, arr, eid, off, hk, hh, hnb, hg, hn, hm, hs, hrp⟩
    · have := congrArg List.length h1; simp only [List.length_nil] at this; omega
    · right
      have hA : arr.toList.length = arr.size := Array.length_toList
      have hfull : ((arr.toList.drop off).take ((v.kn ++ sp).length * siz e)).length = (v.kn ++ sp).length * siz e := by rw [List.length_take, List.length_drop, hA]; omega
      have hx := hrp.take_drop v.lo (v.kn ++ sp).length (Nat.le_refl _) hfull
      rw [List.take_of_length_le (Nat.le_refl _), List.take_of_length_le (by rw [hfull]; exact Nat.le_refl _)] at hx
      have hdrop : (v.kn ++ sp).drop v.lo = v.part ++ (v.kn ++ sp).drop (v.lo + v.n) := by
        unfold Vw.part
        rw [← List.drop_drop]
        have e1 : ((v.kn.drop v.lo).take v.n) = ((v.kn ++ sp).drop v.lo).take v.n := by
          rw [List.drop_append_of_le_length (by omega), List.take_append_of_le_length (by simp; omega)]
        rw [e1, List.take_append_drop]
      have hlen2 : (v.part ++ (v.kn ++ sp).drop (v.lo + v.n)).length = (v.kn ++ sp).length - v.lo := by rw [← hdrop, List.length_drop]
      have hmul : v.lo * siz e + ((v.kn ++ sp).length - v.lo) * siz e = (v.kn ++ sp).length * siz e := by rw [← Nat.add_mul]; congr 1; omega
      refine ⟨g, arr, eid, off + v.lo * siz e, (v.kn ++ sp).drop (v.lo + v.n), hk, ?_, hnb, hg, ?_, ?_, ?_⟩
      · rw [hval, hsome g off hk hh hlt, hplen, hlen2]
      · rw [hlen2]; omega
      · rw [hlen2]; omega
      · rw [hlen2, ← hdrop]
        have e5 : (arr.toList.drop (off + v.lo * siz e)).take (((v.kn ++ sp).length - v.lo) * siz e) = ((arr.toList.drop off).take ((v.kn ++ sp).length * siz e)).drop (v.lo * siz e) := by
          rw [List.drop_take, List.drop_drop, Nat.sub_mul]
        rw [e5]
        exact hx
  · left
    have h1 : v.n = 0 := by omega
    refine ⟨a', List.eq_nil_of_length_eq_zero (by omega), ?_⟩
    rw [hval, h1, Nat.sub_eq_zero_of_le (by omega)]
theorem Nv {ch ch' : Chg} : ∀ {b : Nat → BS}, aG (aG b ch) ch' = aG b (ch ++ ch') := by
 induction ch with
 | nil => intro b; rfl
 | cons x l ih => intro b; exact ih
theorem Pm (hM : MemOk P G w) {k q : K} {v : Value} (hk : KV P G w tm k v) {id : Nat} {ch : Chg} {ps : List Prop} (h : ti G.b id k = some (q, ch, ps)) (hp : ∀ p ∈ ps, p) :
    ∃ G1, G1.b = aG G.b ch ∧ G.Ext w G1 w ∧ MemOk P G1 w ∧ KV P G1 w tm q v := by
  unfold ti at h
  split at h
  · rename_i j e lo n
    split at h
    · rename_i e' xs hl
      split at h
      · rename_i xs' hc
        split at h
        · rename_i hf
          obtain ⟨ee, rfl⟩ := CD hc
          injection ee with ee
          subst ee
          have h := Option.some.inj h
          injection h with h1 h2
          injection h2 with h2 h3
          subst h1; subst h2; subst h3
          have hok : lo + n ≤ xs.length := hp _ (List.mem_singleton.2 rfl)
          have hv : dK G.b e' (.vw j e' lo n) = some ⟨j, lo, n, xs⟩ := by
            unfold dK it
            simp only [if_true]
            rw [hl]
            simp [d5]
          obtain ⟨n0, sp, hvo⟩ := jJ hM hk hv
          have hpart : Vw.part ⟨j, lo, n, xs⟩ = (xs.drop lo).take n := rfl
          have hbl := aq hl
          have hne : id ≠ j := fun e => by rw [e] at hf; rw [bP hf] at hbl; cases hbl
          have fin : ∀ (g : Option Nat), (g = none ∨ g = G.bk j) → (∀ G', G.Ext w G' w → G'.hd id = v → G'.bk id = g → fE P G' w id (.row e' ((xs.drop lo).take n))) →
              ∃ G1, G1.b = aG G.b [(j, .dead), (id, .live (.row e' ((xs.drop lo).take n)))] ∧ G.Ext w G1 w ∧ MemOk P G1 w ∧ KV P G1 w tm (.sl id e') v := by
            intro g hg hbx
            have hsw := hM.swap (w' := w) (j := some j) (id := id) (h := v) (g := g) (x := .row e' ((xs.drop lo).take n)) (gj := G.bk j) (bP hf)
              (fun i hi => by cases hi; exact ⟨⟨_, hbl⟩, rfl⟩) (fun h => by cases h) rfl (.refl w) rfl (Nat.le_refl _) (fun _ _ _ => rfl) (hg.elim .inl (fun h => .inr (.inl h))) hbx
            refine ⟨_, ?_, hsw.2, hsw.1, ⟨⟨.row e' ((xs.drop lo).take n), .inl (by simp [Gst.swap])⟩, by simp [Gst.swap]⟩⟩
            funext m
            simp only [Gst.swap, aG]
            by_cases e1 : m = id
            · subst e1; simp
            · by_cases e2 : m = j
              · subst e2; simp [e1]
              · have : ¬ some m = some j := fun h => e2 (Option.some.inj h)
                simp [e1, e2, this]
          rcases IE hvo hok with ⟨a', e1, e2⟩ | ⟨g, arr, eid, off, sp', q1, q2, q3, q4, q5, q6, q7⟩
          · rw [hpart] at e1
            exact fin none (.inl rfl) fun G' hE h1 h2 => .inl ⟨e1, h2, a', by rw [h1]; exact e2⟩
          · rw [hpart] at q2 q5 q6 q7
            exact fin (some g) (.inr q1.symm) fun G' hE h1 h2 => .inr ⟨g, arr, eid, off, sp', h2, by rw [h1]; exact q2, by unfold Gst.nb; rw [hE.w0, hE.own]; exact q3, q4, q5, q6, q7.imp fun _ _ r => r.lat hE.lat⟩
        · cases h
      · cases h
    · cases h
  · cases h
theorem IU {G1 : Gst} {k : K} {ch ch1 : Chg} (hb : G1.b = aG G.b ch) (hE : G.Ext w G1 w) (h : ak P o a G1 w tm k ch1) : ak P o a G w tm k (ch ++ ch1) := by
 intro next Q hn
 refine h next Q fun G' w' v e1 e2 e3 e4 => hn G' w' v ?_ (hE.trans e2) e3 e4
 rw [e1, hb, Nv]
theorem La (hD : DOk P D) (hM : MemOk P G w) {tx : TypeId} {x hi : Operand} (ho : o.op = .slice tx x none (some hi) none) {e : Ty} (ht : D.ty tx = some (.slc e)) {j : Nat} {e0 : Ty} (hk : KV P G w tm (.sl j e0) (a.eval x)) {xs : List (den e)} (hb : ao G.b j = some (.row e xs))
    {h : Int} {kk : IntKind} (hh : a.eval hi = .int kk h) (hc : bQ 0 h (ln xs)) {id : Nat} (hf : aX G.b id = true) : ak P o a G w tm (.sl id e) [(j, .dead), (id, .live (.row e (xs.take h.toNat)))] := by
  have hbl := aq hb
  obtain ⟨ei, hun, hte, hse⟩ := aY (hD.fit ht).shape
  have hsz := (hD.fit hte).sizeOf w
  obtain ⟨_, c2, c3⟩ := hc
  have c3 : h ≤ (xs.length : Int) := c3
  obtain ⟨_, hx⟩ := hk
  have hne : id ≠ j := fun e => by rw [e] at hf; rw [bP hf] at hbl; cases hbl
  have fin : ∀ (aa : Option Addr) (cap : Nat) (g : Option Nat), G.hd j = .slice aa xs.length cap → xs.length ≤ cap → g = G.bk j →
      (∀ G', G.Ext w G' w → G'.hd id = .slice (if cap = 0 then aa else aa.map (·.add (0 * siz e))) h.toNat cap → G'.bk id = g → fE P G' w id (.row e (xs.take h.toNat))) →
      ak P o a G w tm (.sl id e) [(j, .dead), (id, .live (.row e (xs.take h.toNat)))] := by
    intro aa cap g hd hcap hg hbx
    have hbd := iU (P := P) (w := w) (isS := true) (len := xs.length) (cap := cap) (lo := none) (hi := some (.int kk h)) (l := 0) (h := h) (.inl ⟨rfl, rfl⟩) (.inr ⟨kk, rfl⟩) ⟨Int.le_refl _, c2, by omega⟩
    have hsw := hM.swap (w' := w) (j := some j) (id := id) (h := .slice (if cap = 0 then aa else aa.map (·.add (0 * siz e))) h.toNat cap) (g := g) (x := .row e (xs.take h.toNat)) (gj := G.bk j) (bP hf)
      (fun i hi => by cases hi; exact ⟨⟨_, hbl⟩, rfl⟩) (fun h => by cases h) rfl (.refl w) rfl (Nat.le_refl _) (fun _ _ _ => rfl) (.inr (.inl hg)) hbx
    refine bp (v := .slice (if cap = 0 then aa else aa.map (·.add (0 * siz e))) h.toNat cap) ?_ ?_ hsw.2 hsw.1 ⟨⟨.row e (xs.take h.toNat), .inl (by simp [Gst.swap])⟩, by simp [Gst.swap]⟩
    · have h0 : (0 : Int).toNat = 0 := rfl
      simp only [execOp, ho, hx, hd, Instr.sliceAt, Instr.slice, Sem.run_bind, run_underlying hun, Result.andThen_ok, Option.map_none, Option.map_some, hh, hbd, hsz, Sem.run_pure, h0, Nat.sub_zero]
    · funext n
      simp only [Gst.swap, aG]
      by_cases e1 : n = id
      · subst e1; simp
      · by_cases e2 : n = j
        · subst e2; simp [e1]
        · have : ¬ some n = some j := fun h => e2 (Option.some.inj h)
          simp [e1, e2, this]
  have hbx := hM.box j _ hbl
  have hh0 : h.toNat ≤ xs.length := by omega
  rcases hbx with ⟨rfl, b1, aa, b2⟩ | ⟨g, arr, eid, off, sp, b1, b2, b3, b4, b5, b6, b7⟩
  · have hl0 : h.toNat = 0 := by simpa using hh0
    refine fin aa 0 none b2 (Nat.le_refl _) b1.symm fun G' hE e1 e2 => .inl ⟨by simp, e2, aa, ?_⟩
    rw [e1, hl0]; rfl
  · have hle : xs.length ≤ (xs ++ sp).length := by simp
    have hts : xs.take h.toNat ++ (xs.drop h.toNat ++ sp) = xs ++ sp := by rw [← List.append_assoc, List.take_append_drop]
    refine fin _ _ (some g) b2 hle b1.symm fun G' hE e1 e2 => .inr ⟨g, arr, eid, off, xs.drop h.toNat ++ sp, e2, ?_, by unfold Gst.nb; rw [hE.w0, hE.own]; exact b3, b4, by rw [hts]; exact b5, by rw [hts]; exact b6, ?_⟩
    · rw [e1, hts, List.length_take, Nat.min_eq_left hh0]
      have : (⟨g, off, none⟩ : Addr).add (0 * siz e) = ⟨g, off, none⟩ := by rw [Nat.zero_mul]; rfl
      simp only [Option.map_some, this, ite_self]
    · rw [hts]
      exact b7.imp fun _ _ q => q.lat hE.lat
theorem MB (hD : DOk P D) (hM : MemOk P G w) {t : TypeId} {x : Operand} (ho : o.op = .sliceToArrayPointer t x) {n : Nat} {e : Ty} (ht : D.ty t = some (.arr n e)) {xs : List (den e)} (hk : KV P G w tm (.val (.slc e) xs) (a.eval x)) (h0 : 0 < n) (hn : n ≤ xs.length) :
    ak P o a G w tm (.ref (.arr n e) (xs.take n)) [] := by
  obtain ⟨ei, hun, hte, hse⟩ := ja (hD.fit ht).shape
  obtain ⟨cs, hv, aa, c, L, rfl, h2, h3, h4, h5, h6, h7⟩ := hk
  have hne : xs ≠ [] := fun e => by rw [e] at hn; exact absurd hn (by simp; omega)
  obtain ⟨ad, rfl, hO, hb, hc⟩ := h6 hne
  have hv : a.eval x = .slice (some ad) xs.length c := hv
  refine aC hM (v := .pointer (some ad)) ?_ ⟨ad, rfl, L.take (n * siz e), hO, hb, fun j u hj => ?_, ?_⟩
  · have hlt : ¬ xs.length < n := by omega
    have hn0 : n ≠ 0 := by omega
    simp [execOp, ho, hv, Instr.arrayAt, run_underlying hun, hlt, hn0]
  · rw [List.getElem?_take] at hj
    split at hj
    · exact hc j u hj
    · cases hj
  · refine ⟨by rw [List.length_take, Nat.min_eq_left hn], ?_⟩
    have := RepAll.take_drop 0 n hn h4 h5
    simpa using this
theorem LJ (hD : DOk P D) (hM : MemOk P G w) {tx : TypeId} {x hi : Operand} (ho : o.op = .slice tx x none (some hi) none) {e : Ty} (ht : D.ty tx = some (.slc e)) (hx : a.eval x = .slice none 0 0)
    {h : Int} {kk : IntKind} (hh : a.eval hi = .int kk h) (hc : bQ 0 h 0) : ak P o a G w tm .nilsl [] := by
  obtain ⟨ei, hun, hte, hse⟩ := aY (hD.fit ht).shape
  have hsz := (hD.fit hte).sizeOf w
  obtain ⟨_, c2, c3⟩ := hc
  have e : h = 0 := by omega
  subst e
  have hbd := iU (P := P) (w := w) (isS := true) (len := 0) (cap := 0) (lo := none) (hi := some (.int kk 0)) (l := 0) (h := 0) (.inl ⟨rfl, rfl⟩) (.inr ⟨kk, rfl⟩) ⟨Int.le_refl _, Int.le_refl _, Int.le_refl _⟩
  refine aC hM (v := .slice none 0 0) ?_ rfl
  have h0 : (0 : Int).toNat = 0 := rfl
  simp only [execOp, ho, hx, Instr.sliceAt, Instr.slice, Sem.run_bind, run_underlying hun, Result.andThen_ok, Option.map_none, Option.map_some, hh, hbd, hsz, Sem.run_pure, h0, Nat.sub_zero, ite_self]
theorem MS (hD : DOk P D) (hM : MemOk P G w) {c : Call} (ho : o.op = .call c) (hc : c.callee = .builtin .cap) {x : Operand} (hx : c.args.toList = [x]) {at0 : TypeId} (h0 : c.argTypes[0]? = some at0) {e : Ty} (ht : D.ty at0 = some (.slc e)) (hk : a.eval x = .slice none 0 0) :
    ak P o a G w tm (.val ae 0) [] := by
  obtain ⟨ei, hun, _⟩ := aY (hD.fit ht).shape
  have hargs : c.args.map a.eval = #[a.eval x] := by
    apply Array.ext'
    rw [Array.toList_map, hx]
    rfl
  refine aC hM (v := .int .i64 0) ?_ (bj.2 ⟨rfl, ⟨by decide, by decide⟩⟩)
  rw [dR ho hc, hargs, hk]
  simp [builtin, Builtin.cap_, h0, run_underlying hun, goInt]
theorem AU (hD : DOk P D) (hM : MemOk P G w) {c : Call} (ho : o.op = .call c) (hc : c.callee = .builtin .append) {x y : Operand} (hx : c.args.toList = [x, y]) {t t' : TypeId} (h0 : c.argTypes = #[t, t']) {e : Ty} (ht : D.ty t = some (.slc e)) {ki : IntKind} (ht' : D.ty t' = some (.int ki)) (ev : a.eval x = .slice none 0 0)
    {n : Int} {kq : IntKind} (hy : a.eval y = .int kq n) (hpos : 0 < n) (hb : n.toNat ≤ bV) {id : Nat} (hf : aX G.b id = true) :
    ak P o a G w tm (.sl id e) [(id, .live (.row e (List.replicate n.toNat (zero e))))] := by
  obtain ⟨ei, hu, hte, hse⟩ := aY (hD.fit ht).shape
  have hfe := hD.fit hte
  obtain ⟨i, z, hi, hs, hby, hz, ez⟩ := hfe.info
  have hpl : plain e = true := (hD.fit ht).plain
  have hzc : z.cells = (aQ e).toArray := by rw [ez]; exact bK (bz e) (eW hfe) (eN P (fun _ => False) w e hpl).oneCell
  obtain ⟨k, rfl⟩ : ∃ k : Nat, n = (k : Int) := ⟨n.toNat, by omega⟩
  simp only [Int.toNat_natCast] at hb ⊢
  have hg : 0 < 0 + k := by omega
  have hb' : 0 + k ≤ bV := by omega
  have hbytes : (0 + k) * i.bytes ≤ 140737488355328 := Nat.le_trans (Nat.mul_le_mul hb' hby) (by decide)
  have hkb : k * i.bytes ≤ 281474976710656 := Nat.le_trans (Nat.mul_le_mul_right _ (Nat.le_add_left k 0)) (by omega)
  have h63 : ((0 + k : Nat) : Int) ≤ 9223372036854775807 := by unfold bV at hb; omega
  have hml : 0 + k ≤ maxLen := by unfold maxLen; unfold bV at hb; omega
  have hold : (Builtin.firstCells i.size 0 (.slice none 0 0)).run P w.drew = .ok #[] w.drew := by
    simp [Builtin.firstCells, loadCells, loadCellsFrom]
  have hr := Lib.run_append_grow_zeros (P := P) w t t' o.type ei i z kq ki hu (fD (hD.fit ht').shape) hi hz none 0 0 [] hold k (by omega) (by rw [hs]; omega) hg h63 hkb (growslice_fits hg hbytes)
  have hzk : Builtin.zeroCells z.cells k = ((List.replicate k (aQ e)).flatten).toArray := by
    apply Array.ext'
    rw [hzc, j9]
  rw [hzk, hzc] at hr
  have hnew := wd (eid := ei) (e := e) (n := 0) (m := k) (cap := grownCap w (0 + k) 0 ei) (L0 := []) (L1 := (List.replicate k (aQ e)).flatten) (Z := Builtin.zeroCells (aQ e).toArray (grownCap w (0 + k) 0 ei - (0 + k))) (xs := []) (ys := List.replicate k (zero e)) (id := id) hM (by simp) (by simp [bz]) rfl (by simp) rfl (RepAll.replicate (bz e) (eN P _ _ e hpl) _) hpl (grownCap_ge w (0 + k) 0 ei) (grownCap_le_maxLen w (0 + k) 0 ei hml) (j9 _)
  have hadd := hM.add (P := P) (w' := w.drew.alloc (.cells (#[] ++ ((List.replicate k (aQ e)).flatten).toArray ++ Builtin.zeroCells (aQ e).toArray (grownCap w (0 + k) 0 ei - (0 + k))) ei)) ((Kept.drew w).trans (Kept.alloc w.drew _)) (id := id) (g := w.heap.size) (h := .slice (some ⟨w.heap.size, 0, none⟩) (0 + k) (grownCap w (0 + k) 0 ei)) (x := .row e (List.replicate k (zero e))) (bP hf) (Nat.le_refl _) (fun G' hE hh hb _ => hnew G' hE hh hb)
  refine bp (v := .slice (some ⟨w.heap.size, 0, none⟩) (0 + k) (grownCap w (0 + k) 0 ei)) ?_ rfl hadd.2 hadd.1 ⟨⟨.row e _, .inl (by simp [Gst.add]; rfl)⟩, by simp [Gst.add]⟩
  have hrun := dR (P := P) (w := w) (a := a) ho hc
  have hargs : c.args.map a.eval = #[a.eval x, a.eval y] := by
    apply Array.ext'
    rw [Array.toList_map, hx]
    rfl
  rw [hrun, hargs, h0, ev, hy]
  simp only [builtin, Sem.run_bind, hr, Result.andThen_ok, Sem.run_pure]
theorem uG (hD : DOk P D) (hM : MemOk P G w) {tx ty : TypeId} {x y : Operand} {neq : Bool} (ho : o.op = .binOp (if neq then .neq else .eql) tx x y ty) {k v : Ty} (ht : D.ty tx = some (.mp k v)) {r : Option Nat} (hx : a.eval x = .map r) (hy : a.eval y = .map none) :
    ak P o a G w tm (.val .bool (if neq then !r.isNone else r.isNone)) [] := by
  obtain ⟨kid, vid, hu, _, _⟩ := xM (hD.fit ht).shape
  refine aC hM (v := .bool (if neq then !r.isNone else r.isNone)) ?_ (bA.2 rfl)
  have hg := fy (P := P) (w := w) (if neq then .neq else .eql) tx x y (vx := .map r) (vy := .map none) (fun _ _ e => by cases e) (by simp)
  have h9 : ∀ d : Nat, (Op.equalIn (d + 1) tx (.map r) (.map none)).run P w = .ok r.isNone w := fun d => by
    cases r <;> simp [Op.equalIn, run_underlying hu]
  have he : (Op.equal tx (.map r) (.map none)).run P w = .ok r.isNone w := by
    simp [Op.equal, Op.maxDepth, h9 9999]
  have h1 : (binOp .eql tx (.map r) (.map none)).run P w = .ok (.bool r.isNone) w := by simp [binOp, he]
  have h2 : (binOp .neq tx (.map r) (.map none)).run P w = .ok (.bool (!r.isNone)) w := by simp [binOp, he]
  cases neq
  · simp only [Bool.false_eq_true, if_false] at *
    simp only [execOp, ho, hx, hy, Sem.run_bind, hg, Result.andThen_ok, h1, Sem.run_pure]
  · simp only [if_true] at *
    simp only [execOp, ho, hx, hy, Sem.run_bind, hg, Result.andThen_ok, h2, Sem.run_pure]
theorem qk (hX : cQ P D) (hM : MemOk P G w) {r : Operand → K} (hr : ∀ x, KV P G w tm (r x) (a.eval x)) {id : Nat} {q : Eff} (h : dT D o r G.b id = some q) : OF P o a G w tm q := by
 have hD := hX.toDOk
 unfold dT at h
 split at h
 ·
  rename_i e ho
  split at h
  ·rename_i bd ht
   split at h
   ·rename_i hf
    cases h
    exact fun _ => Jr hD hM ho ht hf
   ·cases h
  ·rename_i el ht
   split at h
   ·rename_i hf
    rw [Bool.and_eq_true] at hf
    cases h
    exact fun _ => Kg hD hM ho ht hf.2
   ·cases h
  ·cases h
 ·
  rename_i e x ho
  split at h
  ·rename_i bd bd' c ht hx
   split at h
   ·rename_i eb
    subst eb
    split at h
    ·rename_i hf
     rw [Bool.and_eq_true] at hf
     cases h
     have hkx := hr x
     rw [hx] at hkx
     exact fun _ => Mi hD hM ho ht hf.1 hf.2 hkx
    ·cases h
   ·cases h
  ·rename_i el ht
   split at h
   ·rename_i hf
    simp only [Bool.and_eq_true] at hf
    cases h
    exact fun _ => Ng hM ho hf.1.1.2 hf.1.2 hf.2 (hr x)
   ·cases h
  ·cases h
 ·
  rename_i e parts ho
  split at h
  ·rename_i bd ht
   split at h
   ·rename_i c hc
    cases h
    exact fun _ => Kc hD hM ho ht hr (NB (oB D o)) hc
   ·cases h
  ·cases h
 ·
  rename_i t x ho
  split at h
  ·rename_i u i base p ht hx
   split at h
   ·rename_i t0 k hl
    split at h
    ·rename_i e0
     subst e0
     split at h
     ·rename_i hta
      split at h
      ·rename_i k' hn
       cases h
       have hkx := hr x
       rw [hx] at hkx
       exact fun _ => Lm hD hM ht ho hkx hl hta hn
      ·cases h
     ·cases h
    ·cases h
   ·cases h
  ·cases h
 ·
  rename_i t x v ho
  have st : ∀ {G1 : Gst} {q : K} {c : Nat × BS}, MemOk P G1 w → (∀ y, KV P G w tm (r y) (a.eval y) → KV P G1 w tm (r y) (a.eval y)) → KV P G1 w tm q (a.eval v) → j7 D t (r x) q G1.b = some c → ak P o a G1 w tm .any [c] := by
   intro G1 q c hM1 hk1 hq hc
   unfold j7 at hc
   split at hc
   ·rename_i u i base p ht hx
    split at hc
    ·rename_i t0 k hl
     split at hc
     ·rename_i e0
      subst e0
      split at hc
      ·rename_i hta
       split at hc
       ·rename_i hfit
        rw [Bool.and_eq_true] at hfit
        split at hc
        ·rename_i k' hn
         cases hc
         have hkx := hk1 x (hr x)
         rw [hx] at hkx
         exact Ke hD hM1 ht ho hkx hq hfit.1 hfit.2 hl hta hn
        ·cases hc
       ·cases hc
      ·cases hc
     ·cases hc
    ·cases hc
   ·cases hc
  split at h
  ·rename_i q ch ps hu
   split at h
   ·rename_i c hc
    cases h
    intro hp
    obtain ⟨G1, e1, e2, e3, e4⟩ := Pm hM (hr v) hu hp
    exact IU e1 e2 (st e3 (fun y hy => hy.ext e2) e4 (by rw [e1]; exact hc))
   ·cases h
  ·split at h
   ·rename_i c hc
    cases h
    exact fun _ => st hM (fun y hy => hy) (hr v) hc
   ·cases h
 ·
  rename_i t ho
  split at h
  ·split at h
   ·rename_i hf
    cases h
    exact fun _ => Np hM ho hf
   ·cases h
  ·cases h
 ·
  rename_i t x i ok ho
  split at h
  ·rename_i k v ht
   split at h
   ·rename_i hkt
    split at h
    ·rename_i l y hl hy
     cases h
     exact fun _ => NX hD hM ho ht hkt (hr x) hl (cu (hr i) hy)
    ·cases h
   ·cases h
  ·cases h
 ·
  rename_i t x i v ho
  split at h
  ·rename_i kt vt ht
   split at h
   ·rename_i hkt
    split at h
    ·rename_i j hx
     split at h
     ·rename_i l y z hl hy hz
      cases h
      have hkx := hr x
      rw [hx] at hkx
      exact fun _ => B3 hD hM (.inl ho) ht hkt hkx hl (cu (hr i) hy) (cu (hr v) hz)
     ·cases h
    ·cases h
   ·cases h
  ·cases h
 ·
  rename_i t x i v ho
  split at h
  ·rename_i kt vt ht
   split at h
   ·rename_i hkt
    split at h
    ·rename_i j hx
     split at h
     ·rename_i l y z hl hy hz
      cases h
      have hkx := hr x
      rw [hx] at hkx
      exact fun _ => B3 hD hM (.inr ho) ht hkt hkx hl (cu (hr i) hy) (cu (hr v) hz)
     ·cases h
    ·cases h
   ·cases h
  ·cases h
 ·
  rename_i op tx x y ty ho
  split at h
  ·rename_i k v ht hy
   have hky := hr y
   rw [hy] at hky
   have hky : a.eval y = .map none := hky
   have hkx := hr x
   split at h
   ·rename_i hx
    cases h
    rw [hx] at hkx
    exact fun _ => uG hD hM (neq := false) ho ht (r := none) hkx hky
   ·rename_i j hx
    cases h
    rw [hx] at hkx
    obtain ⟨_, g, _, e⟩ := hkx
    exact fun _ => uG hD hM (neq := false) ho ht (r := some g) e hky
   ·rename_i hx
    cases h
    rw [hx] at hkx
    exact fun _ => uG hD hM (neq := true) ho ht (r := none) hkx hky
   ·rename_i j hx
    cases h
    rw [hx] at hkx
    obtain ⟨_, g, _, e⟩ := hkx
    exact fun _ => uG hD hM (neq := true) ho ht (r := some g) e hky
   ·cases h
  ·cases h
 ·
  rename_i tx x lo ho
  split at h
  ·rename_i e j e0 l ht hx hl
   split at h
   ·rename_i e' xs hlive
    split at h
    ·rename_i xs' hc
     split at h
     ·rename_i hf
      cases h
      obtain ⟨ee, rfl⟩ := CD hc
      injection ee with ee
      subst ee
      have hkx := hr x
      rw [hx] at hkx
      obtain ⟨kk, hlo⟩ := jA (hr lo) hl
      exact fun hp => JS hD hM ho ht hkx hlive hlo (hp _ (by simp)) hf
     ·cases h
    ·cases h
   ·cases h
  ·cases h
 ·
  rename_i tx x hi ho
  split at h
  ·rename_i e n ht hn
   obtain ⟨kk, hhi⟩ := jA (hr hi) hn
   have hkx := hr x
   split at h
   ·rename_i hx
    cases h
    rw [hx] at hkx
    exact fun hp => LJ hD hM ho ht hkx hhi (hp _ (by simp))
   ·rename_i j e0 hx
    rw [hx] at hkx
    split at h
    ·rename_i e' xs hlive
     split at h
     ·rename_i xs' hc
      split at h
      ·rename_i hf
       cases h
       obtain ⟨ee, rfl⟩ := CD hc
       injection ee with ee
       subst ee
       exact fun hp => La hD hM ho ht hkx hlive hhi (hp _ (by simp)) hf
      ·cases h
     ·cases h
    ·cases h
   ·cases h
  ·cases h
 ·
  rename_i t x ho
  split at h
  ·rename_i k v j ht hx
   split at h
   ·rename_i l hl
    split at h
    ·rename_i hf
     cases h
     have hkx := hr x
     rw [hx] at hkx
     exact fun _ => OX hM ho ht hD hkx hl hf
    ·cases h
   ·cases h
  ·cases h
 ·
  rename_i x ho
  split at h
  ·rename_i j hx
   split at h
   ·rename_i k v left cur hl
    cases h
    have hkx := hr x
    rw [hx] at hkx
    exact PX hM ho hkx hl
   ·cases h
  ·cases h
 ·
  rename_i x ho
  split at h
  ·rename_i j hx
   split at h
   ·rename_i k v left cur hl
    cases h
    have hkx := hr x
    rw [hx] at hkx
    exact fun hp => OR hM ho hkx hl (hp _ (by simp))
   ·cases h
  ·cases h
 ·
  rename_i t l c ho
  split at h
  ·rename_i e kl n kc m ht hl hc
   obtain ⟨k1, e1⟩ := jA (hr l) (show iq (r l) = some n by rw [hl]; rfl)
   obtain ⟨k2, e2⟩ := jA (hr c) (show iq (r c) = some m by rw [hc]; rfl)
   split at h
   ·split at h
    ·split at h
     ·rename_i hf
      cases h
      intro hp
      have em : (m : Int) = n := hp _ (by simp)
      subst em
      exact KO hD hM ho ht e1 e2 (hp ((0 : Int) ≤ m) (by simp)) (hp (Int.toNat m * siz e ≤ 16777216) (by simp)) hf
     ·cases h
    ·cases h
     intro hp
     have em : (m : Int) = n := hp _ (by simp)
     subst em
     exact K9 hD hM ho ht e1 e2 (hp ((0 : Int) ≤ m) (by simp)) (hp (Int.toNat m * siz e ≤ 16777216) (by simp))
   ·cases h
  ·cases h
 ·
  rename_i src dst x ho
  split at h
  ·rename_i s hs ht hx
   have hkx := hr x
   rw [hx] at hkx
   split at h
   ·split at h
    ·split at h
     ·rename_i hf
      cases h
      exact fun hp => Jt hD hM ho hs ht hkx (hp _ (by simp)) hf
     ·cases h
    ·cases h
     exact fun hp => Jf hD hM ho hs ht hkx (hp _ (by simp))
   ·cases h
  ·rename_i j e' hs ht hx
   have hkx := hr x
   rw [hx] at hkx
   split at h
   ·rename_i xs hl
    cases h
    exact fun _ => M6 hD hM ho hs ht hkx hl
   ·cases h
  ·cases h
 ·
  rename_i t x ho
  split at h
  ·rename_i n e e' xs ht hx
   split at h
   ·rename_i hc
    obtain ⟨rfl, h0⟩ := hc
    cases h
    have hkx := hr x
    rw [hx] at hkx
    exact fun hp => MB hD hM ho ht hkx h0 (hp _ (by simp))
   ·cases h
  ·cases h
 ·
  rename_i c ho
  split at h
  ·rename_i hc
   split at h
   ·rename_i x e hx ht
    have hkx := hr x
    split at h
    ·rename_i hn
     cases h
     rw [hn] at hkx
     obtain ⟨at0, h0, ht⟩ := Option.bind_eq_some_iff.1 ht
     exact fun _ => MS hD hM ho hc hx h0 ht hkx
    ·cases h
   ·cases h
  ·rename_i hc
   split at h
   ·rename_i x y t t' hx h0
    have hkx := hr x
    split at h
    ·rename_i e ki n ht ht' hn hy
     split at h
     ·rename_i hf
      cases h
      rw [hn] at hkx
      obtain ⟨kk, hyy⟩ := jA (hr y) hy
      exact fun hp => AU hD hM ho hc hx (by apply Array.ext'; simpa using h0) ht ht' hkx hyy (hp _ (by simp)) (hp (Int.toNat n ≤ bV) (by simp)) hf
     ·cases h
    ·cases h
   ·cases h
  ·cases h
 ·cases h
theorem ma {q : Option Eff} {k : K} {ch : Chg} {ps : List Prop} (h : Fr q = some (k, ch, ps)) : q = some (.one k ch ps) := by
 unfold Fr at h
 split at h
 ·simp only [Option.some.injEq, Prod.mk.injEq] at h
  obtain ⟨rfl, rfl, rfl⟩ := h
  rfl
 ·cases h
theorem BR (hX : cQ P D) (hh : dX D = true) (hM : MemOk P G w) (hgl : GlobOk P D.G G.av w) {r : Operand → K} (hr : ∀ x, KV P G w tm (r x) (a.eval x)) {id : Nat} {k : K} {ch : Chg} {ps : List Prop} (h : gw D o r G.b id = some (k, ch, ps)) (hp : ∀ p ∈ ps, p) : ak P o a G w tm k ch := by
 unfold gw at h
 split at h
 ·exact qk hX hM hr (ma h) hp
 ·split at h
  ·rename_i q hv
   have e := Option.some.inj h
   subst e
   exact J1 hX hh hM hgl hr hv hp
  ·split at h
   ·exact qk hX hM hr (ma h) hp
   ·cases h
end
end Go.Proofs.Ytimdnodkabnbfaa
namespace Go.Proofs.Ytimdnodkabnbfaa
open Go Go.RowKit
def tmF (a : Act) (n : Nat) : Value := a.tmps.getD n undef
def flat : K → Bool
 | .grd _ _ _ k => nog k
 | .opt _ k => nog k
 | k => nog k
theorem dJ (k : K) : nog (strip k) = true := by
 unfold strip; split
 ·assumption
 ·rfl
theorem jm {k : K} (h : nog k = true) : Go.Proofs.Ytimdnodkabnbfaa.flat k = true := by
 cases k with
 | grd s c cs k => cases h
 | opt cs k => cases h
 | _ => exact h
theorem N5 {k : K} (h : nog k = true) (d : Nat) : fF d k = k := by
 cases k with
 | grd s c cs k => cases h
 | _ => rfl
structure Cx where
 O : Nat → Prop
 own : Nat → Prop
 w0 : World
 J : Gst → World → Prop
 jx : ∀ G w G' w', G.Ext w G' w' → J G w → J G' w'
 df : List Deferred := []
def Cx.base (O : Nat → Prop) (w0 : World) : Cx := ⟨O, fun _ => False, w0, fun _ _ => True, fun _ _ _ _ _ _ => trivial, []⟩
structure Lg (c : Cx) (G : Gst) (w : World) : Prop where
 O : (∀ g, c.O g → G.O g) ∧ ∀ g, G.O g → c.O g ∨ G.w0.heap.size ≤ g
 w0 : G.w0 = c.w0
 own : G.own = c.own
 J : c.J G w
theorem Lg.ext {c : Cx} {G G' : Gst} {w w' : World} (h : Lg c G w) (e : G.Ext w G' w') : Lg c G' w' := ⟨⟨fun g hg => e.O.1 g (h.O.1 g hg), fun g hg => by
    rw [e.w0]
    exact (e.O.2 g hg).elim (h.O.2 g) .inr⟩, e.w0.trans h.w0, e.own.trans h.own, c.jx _ _ _ _ e h.J⟩
structure Sim (P : Program) (D : aK) (c : Cx) (env : Env) (a : Act) (w : World) : Prop where
 ex : ∃ G : Gst, G.b = env.b ∧ Lg c G w ∧ MemOk P G w ∧ GlobOk P D.G G.av w ∧ ∀ n, KV P G w (tmF a) (env.s n) (tmF a n)
 flat : ∀ n, flat (env.s n) = true
 size : a.tmps.size = D.n
 defers : a.defers = c.df
section
variable {P : Program} {D : aK} {c0 : Cx} {ops : Array Oper} {G : Gst} {w : World}
theorem KV.strip {tm : Nat → Value} {k : K} {v : Value} (hk : KV P G w tm k v) : KV P G w tm (strip k) v := by
 unfold Go.Proofs.Ytimdnodkabnbfaa.strip; split
 ·exact hk
 ·trivial
theorem EO (a : Act) (d : Nat) (v : Value) (h : d < a.tmps.size) (n : Nat) : tmF (a.put (some d) v) n = if n = d then v else tmF a n := by
 unfold tmF Act.put
 simp only
 by_cases e : n = d
 ·subst e
  simp [Array.getD_eq_getD_getElem?, h]
 ·rw [if_neg e]
  simp [Array.getD_eq_getD_getElem?, Ne.symm e]
theorem KV.put_ne {tm tm' : Nat → Value} {d : Nat} (ht : ∀ n, n ≠ d → tm' n = tm n) {k : K} {v : Value} (hf : flat k = true) (hk : KV P G w tm k v) :
    KV P G w tm' (fF d k) v := by
  cases k with
  | grd s c cs k' =>
    have hf : nog k' = true := hf
    show KV P G w tm' (if s = d then .opt cs k' else .grd s c cs k') v
    split
    · by_cases hs : tm s = .bool c
      · exact .inr ⟨(hk.1 hs).1, (hk.1 hs).2.tm hf⟩
      · exact .inl (hk.2 hs)
    · rename_i hne
      refine ⟨fun hs => ?_, fun hs => ?_⟩
      · rw [ht s hne] at hs
        exact ⟨(hk.1 hs).1, (hk.1 hs).2.tm hf⟩
      · rw [ht s hne] at hs
        exact hk.2 hs
  | opt cs k' => exact hk.imp id fun h => ⟨h.1, h.2.tm hf⟩
  | kcons a b => exact KV.tm (k := .kcons a b) hf hk
  | agg b c => exact KV.tm (k := .agg b c) hf hk
  | clo f c => exact KV.tm (k := .clo f c) hf hk
  | sel c a b => exact KV.tm (k := .sel c a b) hf hk
  | ifc t k => exact KV.tm (k := .ifc t k) hf hk
  | _ => exact hk
theorem gz {s : Nat → K} (hs : ∀ n, flat (s n) = true) {d : Option Nat} {k : K} (hk : flat k = true) (n : Nat) : flat (put s d k n) = true := by
 cases d with
 | none => exact hs n
 | some d =>
  show flat (if n = d then k else fF d (s n)) = true
  split
  ·exact hk
  ·have := hs n
   generalize s n = q at this
   cases q with
   | grd g w cs k' =>
    show flat (if g = d then .opt cs k' else .grd g w cs k') = true
    split <;> exact this
   | _ => exact this
theorem lP {tm : Nat → Value} {s : Nat → K} {a : Act} (htm : tm = tmF a) (hfl : ∀ n, flat (s n) = true) (hs : ∀ n, KV P G w tm (s n) (tm n)) {o : Oper} {N : Nat} (hN : a.tmps.size = N) (hd : fm N o = true) {k : K} {v : Value}
    (hk : ∀ d, o.dst = some d → KV P G w (tmF (a.put o.dst v)) k v) : ∀ n, KV P G w (tmF (a.put o.dst v)) (put s o.dst k n) (tmF (a.put o.dst v) n) := by
  intro n
  subst htm
  cases ho : o.dst with
  | none => exact hs n
  | some d =>
    have hd : d < a.tmps.size := by
      unfold fm at hd
      rw [ho] at hd
      rw [hN]; exact of_decide_eq_true hd
    rw [ho] at hk
    have ht := EO a d v hd
    show KV P G w _ (if n = d then k else fF d (s n)) _
    by_cases e : n = d
    · rw [if_pos e, ht n, if_pos e]
      exact hk d rfl
    · rw [if_neg e, ht n, if_neg e]
      exact (hs n).put_ne (d := d) (fun m hm => (ht m).trans (if_neg hm)) (hfl n)
theorem pf (hD : cQ P D) {a : Act} {looks : List Nat} {s : Nat → K} (hgl : GlobOk P D.G G.av w) {g : Option (Nat × Bool)} (hg : ∀ n c, g = some (n, c) → tmF a n = .bool c) (hs : ∀ n, KV P G w (tmF a) (s n) (tmF a n)) (x : Operand) :
    KV P G w (tmF a) (rdl D looks s g x) (a.eval x) := by
  have h := lw (D := D) (g := g) (s := s) (a := a) (tm := tmF a) hD.toDOk hgl hg hs (fun _ => rfl) x
  cases x with
  | tmp t =>
    show KV P G w _ (if looks.contains t then oG g (s t) else .any) _
    split
    · exact h
    · trivial
  | const v => exact h
  | global x => exact h
  | func f => exact h
theorem Hi {a : Act} {c x y : Operand} {kc kx ky k : K} (hc : KV P G w (tmF a) kc (a.eval c)) (hx : ∀ t, a.eval c = .bool t → t = true → KV P G w (tmF a) kx (a.eval x)) (hy : ∀ t, a.eval c = .bool t → t = false → KV P G w (tmF a) ky (a.eval y)) (h : A7 kc kx ky = some k) :
    ∃ t, a.eval c = .bool t ∧ nog k = true ∧ KV P G w (tmF a) k (if t then a.eval x else a.eval y) := by
  unfold A7 at h
  split at h
  · rename_i t u p ht
    split at h
    · rename_i q hq
      have e := (Option.some.inj h).symm
      subst e
      have hc' : a.eval c = .bool t := by
        cases kc with
        | val u' z =>
          cases u' with
          | bool =>
            have e : z = t := Option.some.inj ht
            subst e
            exact bA.1 hc
          | _ => cases ht
        | _ => cases ht
      refine ⟨t, hc', rfl, ?_⟩
      cases t with
      | true => exact hx true hc' rfl
      | false => exact cu (hy false hc' rfl) hq
    · cases h
  · cases h
theorem xC {a : Act} {o : Oper} {c x y : Operand} (ho : o.op = .pick c x y) {t : Bool} (hc : a.eval c = .bool t) : (execOp a.eval o).run P w = .ok (.value (if t then a.eval x else a.eval y)) w := by
 simp only [execOp, ho, hc, asBool, Sem.run_bind, Sem.run_pure, Result.andThen_ok]
theorem Oy {tm : Nat → Value} {k : K} {v : Value} {cs : List (Bool × Bool)} {c d : Bool} (hk : KV P G w tm k v) (h : gK k = some (cs, c)) (hv : v = .bool d) : (∀ q ∈ sc cs c d, q.1 = q.2) := by
 have fin : (∀ q ∈ cs, q.1 = q.2) → c = d → ∀ q ∈ sc cs c d, q.1 = q.2 := by
  intro h1 h2 q hq
  simp only [sc, List.mem_append, List.mem_singleton] at hq
  rcases hq with hq | rfl
  ·exact h1 q hq
  ·exact h2
 unfold gK at h
 split at h
 ·simp only [Option.some.injEq, Prod.mk.injEq] at h
  obtain ⟨rfl, rfl⟩ := h
  have e := bA.1 hk
  rw [hv] at e
  exact fin (by simp) (by injection e with e; exact e.symm)
 ·simp only [Option.some.injEq, Prod.mk.injEq] at h
  obtain ⟨rfl, rfl⟩ := h
  rename_i s c' cs' x
  by_cases hs : tm s = .bool c'
  ·have e := bA.1 (hk.1 hs).2
   rw [hv] at e
   exact fin (hk.1 hs).1 (by injection e with e; exact e.symm)
  ·have e := hk.2 hs
   rw [hv] at e
   cases e
 ·simp only [Option.some.injEq, Prod.mk.injEq] at h
  obtain ⟨rfl, rfl⟩ := h
  rcases hk with hk | hk
  ·rw [hv] at hk; cases hk
  ·have e := bA.1 hk.2
   rw [hv] at e
   exact fin hk.1 (by injection e with e; exact e.symm)
 ·cases h
theorem Pq {cs : List (Bool × Bool)} (h : ∀ q ∈ cs, q.1 = q.2) {p : Prop} (hp : dV cs p) : p := by
 induction cs with
 | nil => exact hp
 | cons q cs ih =>
  obtain ⟨c, d⟩ := q
  exact ih (fun q hq => h q (List.mem_cons_of_mem _ hq)) (hp (h _ (List.mem_cons_self ..)))
theorem Iu {o : Oper} (h : kT ops o = some none) : o.guard = none := by
 unfold kT at h
 split at h
 ·assumption
 ·split at h <;> cases h
theorem Ab {o : Oper} {d : Nat} {c : Bool} (h : kT ops o = some (some (d, c))) (a : Act) : (Region.wanted o (yielded ops a.tmps) = true ↔ tmF a d = .bool c) := by
 unfold kT at h
 split at h
 ·cases h
 ·rename_i j c' hg
  split at h
  ·rename_i d' hd
   simp only [Option.some.injEq, Prod.mk.injEq] at h
   obtain ⟨rfl, rfl⟩ := h
   unfold Region.wanted yielded
   rw [hg]
   simp only [hd, Option.bind_some, beq_iff_eq]
   unfold tmF
   rw [Array.getD_eq_getD_getElem?]
   cases hq : a.tmps[d']? with
   | none => simp [undef]
   | some v => cases v <;> simp
  ·cases h
theorem qA (hD : cQ P D) (hh : dX D = true) {o : Oper} {env env' : Env} {ps : List Prop} (h : vop D ops o env = some (env', ps)) (hp : ∀ p ∈ ps, p) {a : Act} (hS : Sim P D c0 env a w) {i : Nat} (hi : ops[i]? = some o) (Q : Exit → Act → World → Prop) :
    wpOp P ops Q i (fun a' w' => Sim P D c0 env' a' w') a w := by
  unfold vop at h
  split at h
  · rename_i k ch ps' hc
    simp only [Option.some.injEq, Prod.mk.injEq] at h
    obtain ⟨rfl, rfl⟩ := h
    obtain ⟨⟨G, hb, hC, hM, hgl, hs⟩, hfl, hsz, hdf⟩ := hS
    unfold db at hc
    split at hc
    · rename_i hdst
      have fin : ∀ {k' : K} {ch' : Chg} {tmk : K}, ak P o a G w (tmF a) k' ch' → (∀ G' w' v, KV P G' w' (tmF a) k' v → ∀ d, o.dst = some d → KV P G' w' (tmF (a.put o.dst v)) tmk v) → flat tmk = true → ∀ b', b' = aG env.b ch' →
          o.wp P a w (fun a' w' => Sim P D c0 { s := put env.s o.dst tmk, b := b', lim := env.lim } a' w') Q := by
        intro k' ch' tmk hy hk hf b' eb
        refine hy _ _ ?_
        intro G' w' v e1 e2 e3 e4
        refine ⟨⟨G', by rw [e1, hb, eb], hC.ext e2, e3, hgl.lat e2.lat, ?_⟩, gz hfl hf, ?_, ?_⟩
        · exact lP rfl hfl (fun n => (hs n).ext e2) hsz hdst (hk G' w' v e4)
        · cases hd : o.dst <;> simp [Act.put, hsz]
        · cases hd : o.dst <;> simp [Act.put, hdf]
      split at hc
      · cases hc
      ·
        rename_i hg
        have hgd := Iu hg
        have hw : Region.wanted o (yielded ops a.tmps) = true := by unfold Region.wanted; rw [hgd]
        unfold wpOp
        rw [hi]
        simp only [hw, if_true]
        left
        have hr := pf hD (D := D) (a := a) (looks := o.looksAt ops) (s := env.s) hgl (g := none) (fun _ _ h => by cases h) hs
        split at hc
        · rename_i ct x y ho
          split at hc
          · rename_i k1 hk1
            simp only [Option.some.injEq, Prod.mk.injEq] at hc
            obtain ⟨rfl, rfl, rfl⟩ := hc
            obtain ⟨t, ht, hn, hkv⟩ := Hi (hr (.tmp ct))
              (fun t ht e => pf hD hgl (g := some (ct, true)) (fun n c h => by cases h; subst e; exact ht) hs x)
              (fun t ht e => pf hD hgl (g := some (ct, false)) (fun n c h => by cases h; subst e; exact ht) hs y) hk1
            exact fin (k' := k1) (ch' := []) (tmk := k1) (aC hM (xC ho ht) hkv) (fun G' w' v h d hd => h.tm hn) (jm hn) _ rfl
          · cases hc
        · cases hc
        · split at hc
          · rename_i k1 ch1 ps1 hv
            simp only [Option.some.injEq, Prod.mk.injEq] at hc
            obtain ⟨rfl, rfl, rfl⟩ := hc
            rw [← hb] at hv
            refine fin (BR hD hh hM hgl hr hv hp) (fun G' w' v h d hd => h.strip.tm (dJ _)) (jm (dJ k1)) _ rfl
          · cases hc
      ·
        rename_i d c hg
        split at hc
        · cases hc
        · rename_i hne
          split at hc
          · cases hc
          · rename_i cs cc hgk
            have hwd := Ab hg a
            have skip : ∀ k', flat (.grd d c (sc cs cc c) k') = true → ¬ Region.wanted o (yielded ops a.tmps) = true → Sim P D c0 { s := put env.s o.dst (.grd d c (sc cs cc c) k'), b := env.b, lim := env.lim } (a.put o.dst undef) w := by
              intro k' hf hn
              refine ⟨⟨G, hb, hC, hM, hgl, ?_⟩, gz hfl hf, ?_, ?_⟩
              · refine lP rfl hfl hs hsz hdst (fun d' hd' => ⟨fun hs' => ?_, fun _ => rfl⟩)
                exfalso
                have hdl : d' < a.tmps.size := by unfold fm at hdst; rw [hd'] at hdst; rw [hsz]; exact of_decide_eq_true hdst
                rw [hd', EO a d' undef hdl d, if_neg (fun e => hne (by rw [hd', e]))] at hs'
                exact hn (hwd.2 hs')
              · cases hd : o.dst <;> simp [Act.put, hsz]
              · cases hd : o.dst <;> simp [Act.put, hdf]
            have into : ∀ {k' : K}, nog k' = true → tmF a d = .bool c → ∀ G' w' v, KV P G' w' (tmF a) k' v → ∀ d', o.dst = some d' → KV P G' w' (tmF (a.put o.dst v)) (.grd d c (sc cs cc c) k') v := by
              intro k' hn htd G' w' v hv d' hd'
              have hdl : d' < a.tmps.size := by unfold fm at hdst; rw [hd'] at hdst; rw [hsz]; exact of_decide_eq_true hdst
              have hsame : tmF (a.put o.dst v) d = tmF a d := by rw [hd', EO a d' v hdl d, if_neg (fun e => hne (by rw [hd', e]))]
              refine ⟨fun _ => ⟨Oy (hs d) hgk htd, hv.tm hn⟩, fun h => ?_⟩
              rw [hsame] at h
              exact absurd htd h
            unfold wpOp
            rw [hi]
            simp only
            split at hc
            · rename_i ct x y ho
              split at hc
              · rename_i k1 hk1
                simp only [Option.some.injEq, Prod.mk.injEq] at hc
                obtain ⟨rfl, rfl, rfl⟩ := hc
                split
                · rename_i hw
                  have htd := hwd.1 hw
                  left
                  have hgg : ∀ n c', some (d, c) = some (n, c') → tmF a n = .bool c' := fun n c' h => by cases h; exact htd
                  have oe : ∀ {p q : K} {v : Value}, KV P G w (tmF a) p v → KV P G w (tmF a) q v → KV P G w (tmF a) (Ic p q) v := by
                    intro p q v h1 h2
                    cases p <;> first | exact h1 | exact h2
                  obtain ⟨t, ht, hn, hkv⟩ := Hi (pf hD hgl (g := some (d, c)) hgg hs (.tmp ct))
                    (fun t ht e => oe (pf hD hgl (g := some (ct, true)) (fun n c h => by cases h; subst e; exact ht) hs x) (pf hD hgl hgg hs x))
                    (fun t ht e => oe (pf hD hgl (g := some (ct, false)) (fun n c h => by cases h; subst e; exact ht) hs y) (pf hD hgl hgg hs y)) hk1
                  exact fin (k' := k1) (ch' := []) (aC hM (xC ho ht) hkv) (into hn htd) hn _ rfl
                · rename_i hw
                  refine skip k1 ?_ hw
                  have : nog k1 = true := by
                    unfold A7 at hk1
                    split at hk1
                    · split at hk1
                      · have e := (Option.some.inj hk1).symm; subst e; rfl
                      · cases hk1
                    · cases hk1
                  exact this
              · cases hc
            · cases hc
            · split at hc
              · rename_i k1 ps1 hv
                simp only [Option.some.injEq, Prod.mk.injEq] at hc
                obtain ⟨rfl, rfl, rfl⟩ := hc
                split
                · rename_i hw
                  have htd := hwd.1 hw
                  left
                  have hgg : ∀ n c', some (d, c) = some (n, c') → tmF a n = .bool c' := fun n c' h => by cases h; exact htd
                  rw [← hb] at hv
                  have hps : ∀ p ∈ ps1, p := fun p hp' => Pq (Oy (hs d) hgk htd) (hp _ (List.mem_map_of_mem hp'))
                  refine fin (BR hD hh hM hgl (pf hD hgl hgg hs) hv hps) (fun G' w' v h d' hd' => into (dJ _) htd G' w' v h.strip d' hd') (dJ _) _ rfl
                · rename_i hw
                  exact skip _ (dJ _) hw
              · cases hc
    · cases hc
  · cases h
theorem Ez (hD : cQ P D) (hh : dX D = true) (Q : Exit → Act → World → Prop) : ∀ (l : List Oper) (i : Nat) (env env' : Env) (ps : List Prop) (a : Act) (w : World), (∀ j, l[j]? = ops[i + j]?) → Fw D ops l env = some (env', ps) → (∀ p ∈ ps, p) → Sim P D c0 env a w →
    (∀ a' w', Sim P D c0 env' a' w' → Q .normal a' w') → wpOps P ops Q (List.range' i l.length) a w
  | [], i, env, env', ps, a, w, hl, h, hp, hS, hQ => by
    simp only [Fw, Option.some.injEq, Prod.mk.injEq] at h
    obtain ⟨rfl, rfl⟩ := h
    exact hQ a w hS
  | o :: l, i, env, env', ps, a, w, hl, h, hp, hS, hQ => by
    simp only [Fw] at h
    split at h
    · cases h
    · rename_i env1 ps1 h1
      split at h
      · cases h
      · rename_i env2 ps2 h2
        simp only [Option.some.injEq, Prod.mk.injEq] at h
        obtain ⟨rfl, rfl⟩ := h
        have hi : ops[i]? = some o := by have := hl 0; simpa using this.symm
        rw [List.length_cons, List.range'_succ, wpOps_cons]
        refine wpOp_mono (fun a1 w1 hS1 => ?_) (qA hD hh h1 (fun p hp' => hp p (List.mem_append_left _ hp')) hS hi Q)
        exact Ez hD hh Q l (i + 1) env1 env2 ps2 a1 w1 (fun j => by have := hl (j + 1); simpa [Nat.add_assoc, Nat.add_comm 1 j] using this) h2 (fun p hp' => hp p (List.mem_append_right _ hp')) hS1 hQ
end
end Go.Proofs.Ytimdnodkabnbfaa
