/- Part 7 of 8 of what this claim's proof stands on: a theory of programs on data, and the contracts of the functions that the law reaches. It holds no condition of its own. -/
import Derived.Test.YtiaplhcifflibaaCA6
import Derived.Test.YtiaplhcifflibaaProg
import Derived.Shelf.SlSortCmp.WholeK
import Derived.Shelf.SlSortCmp.NoneTotal
import Derived.Ground.SlsfProg
namespace Go.Proofs.Ytiaplhcifflibaa
open Go
noncomputable section
noncomputable abbrev prog : Program := Try.prog
abbrev tId : Ty := (.arr 32 (.int .u8))
abbrev ab : Ty := (.st (.pair (.int .i64) (.pair tId .unit)))
def bR : List (Nat × Ty) := [
 (1, (.fn .unit .unit)),
 (2, (.int .i64)),
 (3, (.int .i64)),
 (4, .bool),
 (5, (.int .u8)),
 (9, .str),
 (12, (.int .u64)),
 (21, (.int .i32)),
 (22, (.slc ab)),
 (23, tId),
 (24, tId),
 (25, (.fn (.pair (.slc ab) .unit) (.pair (.slc ab) .unit))),
 (26, (.int .i64)),
 (28, (.fn (.pair (.slc ab) .unit) (.pair (.slc ab) (.pair (.int .i64) .unit)))),
 (29, ab),
 (30, ab),
 (32, (.fn (.pair (.slc ab) (.pair tId .unit)) (.pair ab (.pair (.int .i64) .unit)))),
 (33, (.fn (.pair (.slc ab) .unit) (.pair .bool .unit))),
 (34, (.fn .unit (.pair .bool .unit))),
 (35, (.fn (.pair (.slc ab) (.pair (.slc ab) .unit)) (.pair .bool .unit))),
 (36, (.fn (.pair (.slc ab) (.pair tId .unit)) (.pair ab .unit))),
 (37, (.fn (.pair (.slc ab) (.pair tId .unit)) (.pair .bool .unit))),
 (38, (.fn (.pair (.slc ab) (.pair (.int .i64) (.pair (.int .i64) .unit))) (.pair (.slc ab) (.pair (.int .i64) .unit)))),
 (39, (.fn (.pair (.slc ab) (.pair ab (.pair tId .unit))) (.pair .bool .unit))),
 (40, (.mp (.int .i64) .bool)),
 (41, (.fn (.pair (.slc ab) (.pair (.int .i64) (.pair tId .unit))) (.pair .bool .unit))),
 (42, (.fn (.pair (.slc ab) (.pair (.int .i64) .unit)) (.pair ab (.pair (.int .i64) .unit)))),
 (43, (.fn (.pair (.slc ab) (.pair (.int .i64) .unit)) (.pair ab .unit))),
 (44, (.fn (.pair (.slc ab) (.pair ab .unit)) (.pair ab .unit))),
 (45, (.fn (.pair (.slc ab) (.pair ab (.pair (.int .i64) .unit))) (.pair (.slc ab) .unit))),
 (46, (.fn (.pair (.slc ab) (.pair (.int .i64) (.pair (.int .i64) .unit))) (.pair .bool .unit))),
 (47, (.fn (.pair tId (.pair tId (.pair tId .unit))) (.pair .bool .unit))),
 (48, (.fn (.pair (.fn (.pair (.fn (.pair ab .unit) (.pair .bool .unit)) .unit) .unit) (.pair (.fn (.pair ab (.pair ab .unit)) (.pair (.int .i64) .unit)) .unit)) (.pair (.slc ab) .unit))),
 (49, (.fn (.pair (.fn (.pair ab .unit) (.pair .bool .unit)) .unit) .unit)),
 (50, (.fn (.pair (.fn (.pair ab .unit) (.pair .bool .unit)) .unit) .unit)),
 (51, (.fn (.pair (.slc ab) .unit) (.pair (.fn (.pair (.fn (.pair ab .unit) (.pair .bool .unit)) .unit) .unit) .unit))),
 (52, (.fn (.pair ab (.pair ab .unit)) (.pair (.int .i64) .unit))),
 (53, (.fn (.pair tId .unit) (.pair (.fn (.pair ab (.pair ab .unit)) (.pair (.int .i64) .unit)) .unit))),
 (54, (.fn (.pair (.slc ab) (.pair (.fn (.pair ab (.pair ab .unit)) (.pair (.int .i64) .unit)) .unit)) (.pair ab .unit))),
 (55, (.fn (.pair (.slc ab) (.pair (.fn (.pair ab .unit) (.pair .bool .unit)) .unit)) (.pair .bool .unit))),
 (56, (.fn (.pair ab .unit) (.pair .bool .unit))),
 (57, (.fn (.pair tId (.pair tId .unit)) (.pair (.int .i64) .unit))),
 (58, (.fn (.pair tId (.pair tId .unit)) (.pair tId .unit))),
 (59, (.fn (.pair (.slc ab) (.pair (.int .i64) .unit)) (.pair (.slc ab) (.pair (.int .i64) .unit)))),
 (60, (.fn (.pair (.fn (.pair (.fn (.pair ab .unit) (.pair .bool .unit)) .unit) .unit) .unit) (.pair (.slc ab) .unit))),
 (61, (.fn (.pair (.slc ab) (.pair (.fn (.pair ab (.pair ab .unit)) (.pair (.int .i64) .unit)) .unit)) .unit)),
 (62, (.fn (.pair (.slc ab) (.pair (.fn (.pair ab .unit) (.pair .bool .unit)) .unit)) (.pair (.int .i64) .unit))),
 (63, (.fn (.pair tId (.pair (.int .i64) .unit)) (.pair (.int .i64) .unit))),
 (64, (.fn (.pair tId .unit) (.pair tId .unit))),
 (65, (.fn (.pair (.int .i64) .unit) (.pair tId .unit))),
 (66, (.fn (.pair (.slc (.int .u8)) (.pair (.slc (.int .u8)) .unit)) (.pair (.int .i64) .unit))),
 (67, (.slc (.int .u8))),
 (68, (.fn (.pair (.slc ab) (.pair (.fn (.pair (.fn (.pair ab .unit) (.pair .bool .unit)) .unit) .unit) .unit)) (.pair (.slc ab) .unit))),
 (69, (.fn (.pair (.slc ab) (.pair (.int .i64) (.pair (.int .i64) (.pair (.int .i64) (.pair (.fn (.pair ab (.pair ab .unit)) (.pair (.int .i64) .unit)) .unit))))) .unit)),
 (70, (.fn (.pair (.int .u64) .unit) (.pair (.int .i64) .unit))),
 (71, (.int .u64)),
 (72, (.fn (.pair (.int .u8) (.pair (.int .u8) .unit)) (.pair (.int .i64) .unit))),
 (73, (.fn (.pair (.slc ab) (.pair (.int .i64) (.pair (.int .i64) (.pair (.fn (.pair ab (.pair ab .unit)) (.pair (.int .i64) .unit)) .unit)))) .unit)),
 (74, (.int .i64)),
 (76, (.fn (.pair (.slc ab) (.pair (.int .i64) (.pair (.int .i64) (.pair (.fn (.pair ab (.pair ab .unit)) (.pair (.int .i64) .unit)) .unit)))) (.pair (.int .i64) (.pair (.int .i64) .unit)))),
 (77, (.fn (.pair (.slc ab) (.pair (.int .i64) (.pair (.int .i64) (.pair (.fn (.pair ab (.pair ab .unit)) (.pair (.int .i64) .unit)) .unit)))) (.pair .bool .unit))),
 (78, (.fn (.pair (.slc ab) (.pair (.int .i64) (.pair (.int .i64) (.pair (.int .i64) (.pair (.fn (.pair ab (.pair ab .unit)) (.pair (.int .i64) .unit)) .unit))))) (.pair (.int .i64) .unit))),
 (80, (.fn (.pair (.slc ab) (.pair (.int .i64) (.pair (.int .i64) (.pair (.int .i64) (.pair (.fn (.pair ab (.pair ab .unit)) (.pair (.int .i64) .unit)) .unit))))) (.pair (.int .i64) (.pair .bool .unit)))),
 (81, (.fn (.pair (.int .u32) .unit) (.pair (.int .i64) .unit))),
 (82, (.int .u32)),
 (83, (.fn (.pair (.int .u64) .unit) (.pair (.int .i64) .unit))),
 (84, (.int .u64)),
 (85, (.fn (.pair (.int .u8) .unit) (.pair .bool .unit))),
 (86, (.int .u64)),
 (87, (.fn (.pair (.int .i64) .unit) (.pair (.int .u64) .unit))),
 (88, (.fn .unit (.pair (.int .u64) .unit))),
 (95, (.fn .unit (.pair .str .unit))),
 (101, (.fn .unit (.pair (.int .i64) .unit)))]
theorem bA : o8 prog bR = true := by kernel_rfl
theorem bc : prog.follows .mixedOrders = true := by kernel_rfl
abbrev lR : Nat := 7
noncomputable abbrev co : Func := Try.f7
abbrev c7 : Ty := (.pair (.slc ab) (.pair tId .unit))
abbrev lm : Ty := (.pair .bool .unit)
theorem qp : Try.prog.funcs[lR]? = some co := Try.func7
abbrev lW : Nat := 8
noncomputable abbrev o0 : Func := Try.f8
abbrev rl : Ty := (.pair (.slc ab) .unit)
abbrev sw : Ty := (.pair (.slc ab) .unit)
theorem yp : Try.prog.funcs[lW]? = some o0 := Try.func8
abbrev fd : Nat := 10
noncomputable abbrev lg : Func := Try.f10
abbrev n5 : Ty := (.pair (.slc ab) (.pair tId .unit))
abbrev jL : Ty := (.pair ab (.pair (.int .i64) .unit))
theorem ul : Try.prog.funcs[fd]? = some lg := Try.func10
abbrev cq : Nat := 11
noncomputable abbrev dO : Func := Try.f11
abbrev ob : Ty := (.pair (.slc ab) .unit)
abbrev jY : Ty := (.pair .bool .unit)
theorem uh : Try.prog.funcs[cq]? = some dO := Try.func11
abbrev jr : Nat := 13
noncomputable abbrev mv : Func := Try.f13
abbrev pe : Ty := .unit
abbrev oD : Ty := (.pair .bool .unit)
theorem vq : Try.prog.funcs[jr]? = some mv := Try.func13
abbrev iP : Nat := 17
noncomputable abbrev dI : Func := Try.f17
abbrev nY : Ty := (.pair (.slc ab) (.pair (.int .i64) (.pair (.int .i64) .unit)))
abbrev fA : Ty := (.pair (.slc ab) (.pair (.int .i64) .unit))
theorem t7 : Try.prog.funcs[iP]? = some dI := Try.func17
abbrev g7 : Nat := 18
noncomputable abbrev jX : Func := Try.f18
abbrev nm : Ty := (.pair (.slc ab) (.pair (.int .i64) .unit))
abbrev ji : Ty := (.pair ab (.pair (.int .i64) .unit))
theorem sC : Try.prog.funcs[g7]? = some jX := Try.func18
abbrev kw : Nat := 22
noncomputable abbrev iD : Func := Try.f22
abbrev qn : Ty := (.pair tId (.pair tId (.pair tId .unit)))
abbrev mC : Ty := (.pair .bool .unit)
theorem wP : Try.prog.funcs[kw]? = some iD := Try.func22
abbrev cv : Nat := 23
noncomputable abbrev aQ : Func := Try.f23
abbrev dh : Ty := (.pair (.slc ab) .unit)
theorem jC : Try.prog.funcs[cv]? = some aQ := Try.func23
abbrev c8 : Nat := 24
noncomputable abbrev eH : Func := Try.f24
abbrev gQ : Ty := (.pair (.slc ab) .unit)
theorem lG : Try.prog.funcs[c8]? = some eH := Try.func24
abbrev fM : Nat := 25
noncomputable abbrev mD : Func := Try.f25
abbrev oy : Ty := (.pair tId .unit)
abbrev px : Ty := (.pair (.fn (.pair ab (.pair ab .unit)) (.pair (.int .i64) .unit)) .unit)
theorem vS : Try.prog.funcs[fM]? = some mD := Try.func25
abbrev cX : Nat := 26
noncomputable abbrev aX : Func := Try.f26
abbrev gk : Ty := (.pair (.slc ab) (.pair (.fn (.pair ab (.pair ab .unit)) (.pair (.int .i64) .unit)) .unit))
abbrev dR : Ty := (.pair ab .unit)
theorem lc : Try.prog.funcs[cX]? = some aX := Try.func26
abbrev ci : Nat := 27
noncomputable abbrev c5 : Func := Try.f27
abbrev eQ : Ty := (.pair (.slc ab) (.pair (.fn (.pair ab .unit) (.pair .bool .unit)) .unit))
abbrev eN : Ty := (.pair .bool .unit)
theorem iR : Try.prog.funcs[ci]? = some c5 := Try.func27
abbrev gH : Nat := 28
noncomputable abbrev jh : Func := Try.f28
abbrev l8 : Ty := (.pair ab (.pair (.ref ab) .unit))
abbrev lP : Ty := (.pair .bool .unit)
theorem rY : Try.prog.funcs[gH]? = some jh := Try.func28
abbrev d4 : Nat := 31
noncomputable abbrev jJ : Func := Try.f31
abbrev nd : Ty := (.pair (.slc ab) (.pair (.int .i64) .unit))
abbrev iW : Ty := (.pair (.slc ab) (.pair (.int .i64) .unit))
theorem sF : Try.prog.funcs[d4]? = some jJ := Try.func31
abbrev fR : Nat := 33
noncomputable abbrev bL : Func := Try.f33
abbrev pd : Ty := (.pair tId (.pair tId .unit))
abbrev gz : Ty := (.pair tId .unit)
theorem vW : Try.prog.funcs[fR]? = some bL := Try.func33
abbrev dn : Nat := 34
noncomputable abbrev ge : Func := Try.f34
abbrev lF : Ty := (.pair tId (.pair tId .unit))
abbrev kL : Ty := (.pair (.int .i64) .unit)
theorem qW : Try.prog.funcs[dn]? = some ge := Try.func34
abbrev gM : Nat := 35
noncomputable abbrev bf : Func := Try.f35
theorem kM : Try.prog.funcs[gM]? = some bf := Try.func35
abbrev cK : Nat := 36
noncomputable abbrev lf : Func := Try.f36
theorem kz : Try.prog.funcs[cK]? = some lf := Try.func36
abbrev dH : Nat := 37
noncomputable abbrev aV : Func := Try.f37
theorem ka : Try.prog.funcs[dH]? = some aV := Try.func37
abbrev hK : Nat := 38
noncomputable abbrev jR : Func := Try.f38
abbrev m9 : Ty := (.pair ab (.pair ab (.pair (.ref tId) .unit)))
abbrev m7 : Ty := (.pair (.int .i64) .unit)
theorem sA : Try.prog.funcs[hK]? = some jR := Try.func38
abbrev bm : Nat := 39
noncomputable abbrev aZ : Func := Try.f39
abbrev fF : Ty := (.pair (.slc ab) (.pair (.fn (.pair ab .unit) (.pair .bool .unit)) .unit))
abbrev du : Ty := (.pair (.int .i64) .unit)
theorem jN : Try.prog.funcs[bm]? = some aZ := Try.func39
abbrev gc : Nat := 44
noncomputable abbrev iC : Func := Try.f44
abbrev lk : Ty := (.pair ab (.pair (.ref (.int .i64)) .unit))
abbrev kN : Ty := (.pair .bool .unit)
theorem qV : Try.prog.funcs[gc]? = some iC := Try.func44
abbrev dq : Nat := 45
noncomputable abbrev aR : Func := Try.f45
abbrev gX : Ty := (.pair (.slc (.int .u8)) (.pair (.slc (.int .u8)) .unit))
abbrev da : Ty := (.pair (.int .i64) .unit)
theorem mt : Try.prog.funcs[dq]? = some aR := Try.func45
abbrev f9 : Nat := 46
noncomputable abbrev ai : Func := Try.f46
theorem jU : Try.prog.funcs[f9]? = some ai := Try.func46
abbrev d6 : Nat := 49
noncomputable abbrev eB : Func := Try.f49
abbrev iT : Ty := (.pair (.int .u8) (.pair (.int .u8) .unit))
abbrev iU : Ty := (.pair (.int .i64) .unit)
theorem oo : Try.prog.funcs[d6]? = some eB := Try.func49
abbrev fl : Nat := 60
noncomputable abbrev fp : Func := Try.f60
abbrev j3 : Ty := (.pair (.int .u8) .unit)
abbrev j1 : Ty := (.pair .bool .unit)
theorem pT : Try.prog.funcs[fl]? = some fp := Try.func60
end
end Go.Proofs.Ytiaplhcifflibaa
namespace Go.Proofs.Ytiaplhcifflibaa
open Go Go.RowKit
theorem iu {σ : Type} (n : Nat) (Inv : Nat → σ → Prop) (Q : Nat → σ → Prop) (step : ∀ i s, i < n → Inv i s → (∀ s', Inv (i + 1) s' → Q (i + 1) s') → Q i s) (last : ∀ s, Inv n s → Q n s) : ∀ (i : Nat) (s : σ), i ≤ n → Inv i s → Q i s := by
 intro i s hi
 obtain ⟨k, hk⟩ : ∃ k, k + i = n := ⟨n - i, by omega⟩
 induction k generalizing i s with
 | zero =>
  have e : i = n := by omega
  subst e
  exact last s
 | succ k ih =>
  intro hI
  exact step i s (by omega) hI fun s' h' => ih (i + 1) s' (by omega) (by omega) h'
theorem m8 {e : Ty} (t : List (den e)) {i : Nat} : (decide ((i : Int) < lnx e t)) = decide (i < t.length) := by
 rw [Bool.eq_iff_iff, decide_eq_true_eq, decide_eq_true_eq]
 exact ⟨fun h => by have h : (i : Int) < (t.length : Int) := h; omega, fun h => by show (i : Int) < (t.length : Int); omega⟩
theorem d8 {n : Int} (h : -1000000000000000 ≤ n ∧ n ≤ 1000000000000000) : IntKind.wrap .i64 n = n := yT (by omega) (by omega)
theorem fB {P : af → Prop} {A : Type} {e : A} {f : A → af} (h : P (f e)) : ∀ q, q = e → P (f q) := fun q hq => by cases hq; exact h
theorem BQ {e : Ty} (l : List (den e)) (n : Nat) : g6 e l 0 (mz (lnx e l) (n : Int)) = l.take n ∧ bK 0 (mz (lnx e l) (n : Int)) (lnx e l) := by
 have h : lnx e l = (l.length : Int) := rfl
 unfold g6 eX mz bK
 rw [h]
 have h0 : Int.toNat 0 = 0 := rfl
 rw [h0, List.drop_zero]
 split
 ·rw [Int.toNat_natCast]
  exact ⟨rfl, by omega, by omega, by omega⟩
 ·rw [Int.toNat_natCast, List.take_length, List.take_of_length_le (by omega)]
  exact ⟨rfl, by omega, by omega, by omega⟩
theorem vP {n : Int} (h : 0 ≤ n ∧ n ≤ 255) : IntKind.wrap .u8 n = n := by
 unfold IntKind.wrap
 simp only [IntKind.signed, IntKind.bits]
 simp
 omega
end Go.Proofs.Ytiaplhcifflibaa
namespace Go.Proofs.Ytiaplhcifflibaa
open Go Go.RowKit
def cI : (t : Ty) → den t → List Value
 | .int k, x => [.int k x]
 | .bool, x => [.bool x]
 | .str, x => [.string x]
 | .unit, _ => []
 | .pair a b, x => cI a x.1 ++ cI b x.2
 | .st b, x => cI b x
 | .arr _ e, x => x.flatMap (cI e)
 | .slc _, _ => []
 | .fn _ _, _ => []
 | .ref _, _ => []
 | .mp _ _, _ => []
 | .clo _ _, _ => []
theorem jm {α β : Type} {f : α → List β} {k : Nat} : ∀ {xs : List α}, (∀ x ∈ xs, (f x).length = k) → (xs.flatMap f).length = xs.length * k
 | [], _ => by simp
 | x :: xs, h => by
  rw [List.flatMap_cons, List.length_append, h x List.mem_cons_self, jm fun y hy => h y (List.mem_cons_of_mem _ hy), List.length_cons, Nat.add_mul, Nat.one_mul, Nat.add_comm]
theorem nU {P : Program} {O : Nat → Prop} {w : World} {e : Ty} {ok : den e → Prop} (h : ∀ cs x, Rep P e .cells O w cs x → cs = cI e x ∧ ok x) : ∀ {xs : List (den e)} {L : List Value}, RepAll (fun cs x => Rep P e .cells O w cs x) (siz e) L xs → L = xs.flatMap (cI e) ∧ ∀ x ∈ xs, ok x
 | [], L, hh => ⟨by rw [show L = [] from hh]; rfl, fun x hx => by cases hx⟩
 | x :: xs, L, hh => by
  obtain ⟨h1, h2⟩ := hh
  obtain ⟨e1, o1⟩ := h _ _ h1
  obtain ⟨e2, o2⟩ := nU h h2
  refine ⟨?_, fun y hy => ?_⟩
  ·rw [List.flatMap_cons, ← e1, ← e2, List.take_append_drop]
  ·rcases List.mem_cons.1 hy with rfl | hy
   ·exact o1
   ·exact o2 y hy
theorem nS {P : Program} {O : Nat → Prop} {w : World} {e : Ty} {ok : den e → Prop} (h : ∀ x, ok x → Rep P e .cells O w (cI e x) x) (hl : ∀ x, ok x → (cI e x).length = siz e) : ∀ {xs : List (den e)}, (∀ x ∈ xs, ok x) → RepAll (fun cs x => Rep P e .cells O w cs x) (siz e) (xs.flatMap (cI e)) xs
 | [], _ => rfl
 | x :: xs, hh => by
  have hx := hh x List.mem_cons_self
  refine ⟨?_, ?_⟩
  ·rw [List.flatMap_cons, List.take_append_of_le_length (by rw [hl x hx]; exact Nat.le_refl _), List.take_of_length_le (by rw [hl x hx]; exact Nat.le_refl _)]
   exact h x hx
  ·rw [List.flatMap_cons, List.drop_append_of_le_length (by rw [hl x hx]; exact Nat.le_refl _), List.drop_of_length_le (by rw [hl x hx]; exact Nat.le_refl _), List.nil_append]
   exact nS h hl fun y hy => hh y (List.mem_cons_of_mem _ hy)
theorem AO {P : Program} {O : Nat → Prop} {w : World} : ∀ {t : Ty}, cU t = true → ∀ cs x, Rep P t .cells O w cs x → cs = cI t x ∧ okT t x := by
 intro t
 induction t with
 | int k => intro _ cs x h; exact ⟨h.1, h.2⟩
 | bool => intro _ cs x h; exact ⟨h, trivial⟩
 | str => intro _ cs x h; exact ⟨h.1, h.2⟩
 | unit => intro _ cs x h; exact ⟨h, trivial⟩
 | pair a b iha ihb =>
  intro hf cs x h
  simp only [cU, Bool.and_eq_true] at hf
  obtain ⟨e1, o1⟩ := iha hf.1 _ _ h.1
  obtain ⟨e2, o2⟩ := ihb hf.2 _ _ h.2
  refine ⟨?_, o1, o2⟩
  show cs = cI a x.1 ++ cI b x.2
  rw [← e1, ← e2, List.take_append_drop]
 | st b ih => intro hf cs x h; exact ih hf cs x h
 | arr n e ih =>
  intro hf cs x h
  obtain ⟨e1, o1⟩ := nU (ok := okT e) (ih hf) h.2
  exact ⟨e1, h.1, o1⟩
 | _ => intro hf; cases hf
theorem k7 : ∀ {t : Ty}, cU t = true → ∀ x, okT t x → (cI t x).length = siz t := by
 intro t
 induction t with
 | int k => intro _ x _; rfl
 | bool => intro _ x _; rfl
 | str => intro _ x _; rfl
 | unit => intro _ x _; rfl
 | pair a b iha ihb =>
  intro hf x h
  simp only [cU, Bool.and_eq_true] at hf
  show (cI a x.1 ++ cI b x.2).length = siz a + siz b
  rw [List.length_append, iha hf.1 _ h.1, ihb hf.2 _ h.2]
 | st b ih => intro hf x h; exact ih hf x h
 | arr n e ih =>
  intro hf x h
  show (List.flatMap (cI e) x).length = n * siz e
  rw [jm fun y hy => ih hf y (h.2 y hy), h.1]
 | _ => intro hf; cases hf
theorem ti {P : Program} {O : Nat → Prop} {w : World} : ∀ {t : Ty}, cU t = true → ∀ x, okT t x → Rep P t .cells O w (cI t x) x := by
 intro t
 induction t with
 | int k => intro _ x h; exact ⟨rfl, h⟩
 | bool => intro _ x _; rfl
 | str => intro _ x h; exact ⟨rfl, h⟩
 | unit => intro _ x _; rfl
 | pair a b iha ihb =>
  intro hf x h
  simp only [cU, Bool.and_eq_true] at hf
  have hl := k7 hf.1 _ h.1
  refine ⟨?_, ?_⟩
  ·show Rep P a .cells O w ((cI a x.1 ++ cI b x.2).take (siz a)) x.1
   rw [List.take_append_of_le_length (by rw [hl]; exact Nat.le_refl _), List.take_of_length_le (by rw [hl]; exact Nat.le_refl _)]
   exact iha hf.1 _ h.1
  ·show Rep P b .cells O w ((cI a x.1 ++ cI b x.2).drop (siz a)) x.2
   rw [List.drop_append_of_le_length (by rw [hl]; exact Nat.le_refl _), List.drop_of_length_le (by rw [hl]; exact Nat.le_refl _), List.nil_append]
   exact ihb hf.2 _ h.2
 | st b ih => intro hf x h; exact ih hf x h
 | arr n e ih => intro hf x h; exact ⟨h.1, nS (ok := okT e) (ih hf) (k7 hf) h.2⟩
 | _ => intro hf; cases hf
theorem At : ∀ {t : Ty}, cU t = true → ∀ x, ∀ v ∈ cI t x, v.oneCell' = true := by
 intro t
 induction t with
 | int k => intro _ x v hv; rw [List.mem_singleton.1 hv]; rfl
 | bool => intro _ x v hv; rw [List.mem_singleton.1 hv]; rfl
 | str => intro _ x v hv; rw [List.mem_singleton.1 hv]; rfl
 | unit => intro _ x v hv; cases hv
 | pair a b iha ihb =>
  intro hf x v hv
  simp only [cU, Bool.and_eq_true] at hf
  rcases List.mem_append.1 hv with hv | hv
  ·exact iha hf.1 _ v hv
  ·exact ihb hf.2 _ v hv
 | st b ih => intro hf x; exact ih hf x
 | arr n e ih =>
  intro hf x v hv
  obtain ⟨y, _, hy⟩ := List.mem_flatMap.1 hv
  exact ih hf y v hy
 | _ => intro hf; cases hf
theorem rG {α : Type} [Inhabited α] {f : α → List Value} {k : Nat} (hk : ∀ x, (f x).length = k) : ∀ (xs : List α) (t : Nat), t < xs.length * k → (xs.flatMap f)[t]? = (f (xs[t / k]?.getD default))[t % k]?
  | [], t, h => by simp at h
  | x :: xs, t, h => by
    rw [List.flatMap_cons, List.getElem?_append, hk]
    have k0 : 0 < k := by rcases Nat.eq_zero_or_pos k with e | e
                          · subst e; simp at h
                          · exact e
    split
    · rename_i hlt
      rw [Nat.div_eq_of_lt hlt, Nat.mod_eq_of_lt hlt]
      rfl
    · rename_i hge
      have hge : k ≤ t := by omega
      rw [List.length_cons, Nat.add_mul, Nat.one_mul] at h
      rw [rG hk xs (t - k) (by omega)]
      have e1 : t / k = (t - k) / k + 1 := by
        rw [Nat.div_eq_sub_div k0 hge]
      have e2 : t % k = (t - k) % k := Nat.mod_eq_sub_mod hge
      rw [e1, e2]
      rfl
theorem pu {α : Type} [Inhabited α] (enc : α → List Value) (k : Nat) (hk : ∀ x, (enc x).length = k) (d : Array α) : (Sort.flatK enc k d).toList = d.toList.flatMap enc := by
 apply List.ext_getElem?
 intro t
 by_cases h : t < d.size * k
 ·have hl : t < (Sort.flatK enc k d).size := by rw [Sort.size_flatK]; exact h
  have h1 : (Sort.flatK enc k d)[t]? = some ((Sort.flatK enc k d)[t]!) := by rw [getElem!_pos (Sort.flatK enc k d) t hl, Array.getElem?_eq_getElem hl]
  rw [Array.getElem?_toList, h1, Sort.get_flatK enc k d t h, rG hk d.toList t (by rw [Array.length_toList]; exact h)]
  have e : d.toList[t / k]?.getD default = d[t / k]! := by rw [Array.getElem?_toList, getElem!_def]; cases d[t / k]? <;> rfl
  rw [e]
  have hm : t % k < (enc d[t / k]!).length := by
   rw [hk]
   refine Nat.mod_lt _ ?_
   rcases Nat.eq_zero_or_pos k with e | e
   ·subst e; simp at h
   ·exact e
  rw [List.getElem?_eq_getElem hm, getElem!_pos (enc d[t / k]!) (t % k) hm]
 ·rw [List.getElem?_eq_none (by rw [Array.length_toList, Sort.size_flatK]; omega), List.getElem?_eq_none (by rw [jm (k := k) (fun x _ => hk x), Array.length_toList]; omega)]
theorem yx {α : Type} [Inhabited α] {enc : α → List Value} {k : Nat} (hk : ∀ x, (enc x).length = k) {w : World} {g off : Nat} {d : Array α} {arr : Array Value} {eid : TypeId} (hg : w.heap[g]? = some (.cells arr eid (0, 0))) (hL : (arr.toList.drop off).take (d.size * k) = d.toList.flatMap enc) (hb : off + d.size * k ≤ arr.size) :
    Sort.HoldsK enc k w g off d := by
  intro j hj
  have hj' : j < d.size * k := by rw [Sort.size_flatK] at hj; exact hj
  have e1 : (Sort.flatK enc k d).toList[j]? = some ((Sort.flatK enc k d)[j]!) := by rw [Array.getElem?_toList, getElem!_pos (Sort.flatK enc k d) j hj, Array.getElem?_eq_getElem hj]
  rw [pu enc k hk, ← hL, List.getElem?_take, if_pos hj', List.getElem?_drop, Array.getElem?_toList] at e1
  refine ⟨?_, ?_⟩
  · show (match w.heap[g]? with | some (.cells c _ _) => if (none : Option _).isSome then none else c[off + j]? | _ => none) = _
    rw [hg]
    exact e1
  · show (match w.heap[g]? with | some (.cells _ _ (lo, hi)) => decide (lo ≤ off + j) && decide (off + j < hi) | _ => false) = false
    rw [hg]
    simp
theorem sc {F arr : Array Value} {off : Nat} (h : off + F.size ≤ arr.size) : Sort.putCells id off F arr = (ah arr.toList off F.toList).toArray := by
 apply Array.ext_getElem?
 intro i
 unfold Sort.putCells ah
 simp only [List.append_assoc]
 refine Eq.trans ?_ (List.getElem?_toArray ..).symm
 rw [Array.getElem?_mapIdx, List.getElem?_append, List.length_take, Array.length_toList, Nat.min_eq_left (by omega), List.getElem?_append, Array.length_toList, List.getElem?_take, List.getElem?_drop, Array.getElem?_toList, Array.getElem?_toList, Array.getElem?_toList]
 by_cases h1 : i < off
 ·rw [if_pos h1, if_pos h1]
  have : arr[i]? = some arr[i] := Array.getElem?_eq_getElem (by omega)
  rw [this, Option.map_some, if_neg (by omega)]
 ·rw [if_neg h1]
  by_cases h2 : i - off < F.size
  ·have : arr[i]? = some arr[i] := Array.getElem?_eq_getElem (by omega)
   rw [if_pos h2, this, Option.map_some, if_pos ⟨by omega, by omega⟩, Array.getElem?_eq_getElem h2]
   congr 1
   exact getElem!_pos F (i - off) h2
  ·rw [if_neg h2, show off + F.size + (i - off - F.size) = i by omega]
   cases e : arr[i]? with
   | none => rfl
   | some z => rw [Option.map_some, if_neg (by omega)]
theorem zz {α : Type} [Inhabited α] {enc : α → List Value} {k : Nat} (hk : ∀ x, (enc x).length = k) {w : World} {g off n : Nat} {d : Array α} {os : Array Obj} {arr : Array Value} {eid : TypeId} (hg : w.heap[g]? = some (.cells arr eid (0, 0))) (hb : off + d.size * k ≤ arr.size) :
    Kept (w.setRow g (ah arr.toList off (d.toList.flatMap enc)).toArray) (Go.Proofs.sortWorldK enc k w g off n d os) := by
  have hF : (Sort.flatK enc k d).size = d.size * k := Sort.size_flatK ..
  have e0 : Sort.putCells id off (Sort.flatK enc k d) arr = (ah arr.toList off (d.toList.flatMap enc)).toArray := by
    rw [sc (by rw [hF]; exact hb), pu enc k hk]
  have hlt : g < w.heap.size := (Array.getElem?_eq_some_iff.1 hg).1
  have hheap : (Sort.putRowK enc k (Sort.ahead w n) g off d).heap = (w.setRow g (ah arr.toList off (d.toList.flatMap enc)).toArray).heap := by
    apply Array.ext_getElem?
    intro b
    show (w.heap.modify g (Sort.onCells (Sort.putCells id off (Sort.flatK enc k d))))[b]? = _
    by_cases hbg : b = g
    · subst hbg
      rw [setRow_heap w b arr _ eid (0, 0) hg, Array.getElem?_modify, if_pos rfl, hg, Option.map_some]
      show some (Obj.cells (Sort.putCells id off (Sort.flatK enc k d) arr) eid (0, 0)) = _
      rw [e0]
    · rw [setRow_other w g b _ hbg, Array.getElem?_modify, if_neg (Ne.symm hbg)]
  refine ⟨rfl, ⟨rfl, fun _ => Nat.le_add_right _ _⟩, rfl, ?_, fun b hb' => ?_⟩
  · show _ ≤ ((Sort.putRowK enc k (Sort.ahead w n) g off d).heap ++ os).size
    rw [hheap, Array.size_append]
    exact Nat.le_add_right _ _
  · show ((Sort.putRowK enc k (Sort.ahead w n) g off d).heap ++ os)[b]? = _
    rw [hheap, Array.getElem?_append, if_pos hb']
theorem vU {w w' : World} (h : Kept w w') : ∃ q os, w' = Sort.grow (w.drewN q) os := by
 obtain ⟨h1, h2, h3, h4, h5⟩ := h
 refine ⟨w'.drawn - w.drawn, w'.heap.extract w.heap.size w'.heap.size, ?_⟩
 have hd := h2.le trivial
 have hh : w'.heap = w.heap ++ w'.heap.extract w.heap.size w'.heap.size := by
  apply Array.ext_getElem?
  intro b
  rw [Array.getElem?_append]
  split
  ·rename_i hb; exact h5 b hb
  ·rename_i hb
   rw [Array.getElem?_extract, Nat.add_sub_cancel' (by omega)]
   split
   ·rfl
   ·rename_i hb'
    exact Array.getElem?_eq_none (by omega)
 have ht := h2.eq
 cases w
 cases w'
 simp only at h1 h3 hh hd ht
 unfold Sort.grow World.drewN
 simp only [World.mk.injEq]
 exact ⟨hh, ht, by omega, h1, h3⟩
abbrev InT (e : Ty) (xs : List (den e)) := {x : den e // okT e x ∧ x ∈ xs}
abbrev lO (e : Ty) : Ty := .fn (.pair e (.pair e .unit)) (.pair ae .unit)
def cfD (e : Ty) (f : den (lO e)) (x y : den e) : Int := (uu (a := .pair e (.pair e .unit)) (r := .pair ae .unit) f (x, y, ())).1
def ltD (e : Ty) (f : den (lO e)) (x y : den e) : Bool := decide (cfD e f x y < 0)
def jM (e : Ty) (xs : List (den e)) (x : InT e xs) : List Value := cI e x.1
theorem zN {P : Program} {e : Ty} (hfl : cU e = true) (hag : isAgg e = true) {xs : List (den e)} [Inhabited (InT e xs)] {O : Nat → Prop} {w : World} {g : Nat} (hO : ∀ b, O b → b < w.heap.size) (hg : O g) {q : den (.pair e (.pair e .unit)) → den (.pair ae .unit)} {f : FuncId} {cb : Array Value}
    (hf : ∀ O' w', Lat O w O' w' → (∀ g, O' g → g < w'.heap.size) → ∀ vs x, Rep P (.pair e (.pair e .unit)) .chain O' w' vs x → Calls P f (vs.toArray ++ cb) w' fun e' w'' => ∃ v, e' = .returned v ∧ Kept w' w'' ∧ Rep P (.pair ae .unit) .result O' w'' [v] (q x))
    {off size : Nat} : Go.Proofs.CmpLays P f cb (jM e xs) (siz e) (fun x y => cfD e (some q) x.1 y.1) g off size w := by
  intro m os dk hs x y
  have hlat : Lat O w O (Go.Proofs.sortWorldK (jM e xs) (siz e) w g off m dk os) := by
    refine ⟨?_, fun b hb hnb => ⟨?_, hnb⟩⟩
    · show _ ≤ ((w.heap.modify g _) ++ os).size
      rw [Array.size_append, Array.size_modify]
      exact Nat.le_add_right _ _
    · have hbg : ¬ g = b := fun h => hnb (h ▸ hg)
      show ((w.heap.modify g _) ++ os)[b]? = _
      rw [Array.getElem?_append, if_pos (by rw [Array.size_modify]; exact hb), Array.getElem?_modify, if_neg hbg]
  have hx : Rep P (.pair e (.pair e .unit)) .chain O (Go.Proofs.sortWorldK (jM e xs) (siz e) w g off m dk os) [.agg (jM e xs x).toArray, .agg (jM e xs y).toArray] (x.1, y.1, ()) := by
    have e1 : ∀ z : InT e xs, Value.agg (jM e xs z).toArray = al e (cI e z.1) := fun z => by unfold al; rw [hag]; rfl
    rw [e1 x, e1 y]
    exact ⟨[al e (cI e y.1)], cI e x.1, rfl, ti hfl _ x.2.1, [], cI e y.1, rfl, ti hfl _ y.2.1, rfl⟩
  have := hf O _ hlat (fun b hb => Nat.lt_of_lt_of_le (hO b hb) hlat.size) _ _ hx
  refine Calls.mono this ?_
  rintro e' w'' ⟨v, rfl, hk, rest, cs, hv, hi, hr⟩
  refine ⟨?_, ?_⟩
  · have hi : cs = [.int .i64 (q (x.1, y.1, ())).1] := hi.1
    subst hi
    have hv : [v] = [Value.int .i64 (q (x.1, y.1, ())).1] := hv
    have : v = Value.int .i64 (q (x.1, y.1, ())).1 := by simpa using hv
    rw [this]
    rfl
  · exact vU hk
def dc (e : Ty) (f : den (lO e)) (xs : List (den e)) : List (den e) := xs.mergeSort fun x y => !ltD e f y x
structure eY (e : Ty) (f : den (lO e)) (xs : List (den e)) : Prop where
 fn : xG (a := .pair e (.pair e .unit)) (r := .pair ae .unit) f
 swo : Sort.SWO (ltD e f)
 tot : ∀ x ∈ xs, ∀ y ∈ xs, ltD e f x y = false → ltD e f y x = false → x = y
 len : xs.length ≤ 1000000
@[reducible] def AA (e : Ty) : d9 := ⟨e, true, .pair (lO e) .unit, false, fun xs y => eY e y.1 xs, fun xs y => dc e y.1 xs⟩
theorem Ac {P : Program} {Gl : eU} {e : Ty} (hfl : cU e = true) (hag : isAgg e = true) {fid : FuncId} (can : dM P fid)
    (none : ∀ (p : Option Addr) (cap : Nat) (fv : Value) (w : World), Calls P fid #[.slice p 0 cap, fv] w fun e' w' => e' = .returned (.tuple #[]) ∧ w' = w)
    (tot : ∀ {α : Type} [Inhabited α] (enc : α → List Value) (_ : ∀ x, (enc x).length = siz e) (_ : ∀ x, ∀ v ∈ enc x, v.oneCell' = true) (cf : α → α → Int) (_ : Sort.SWO (Go.Proofs.ltOf cf)) (g : Nat) (cb : Array Value) (blk off cap : Nat) (d : Array α) (w : World)
      (_ : ∀ args w, (callFunc g args).run P w = .ok (.enter g args) w) (_ : Go.Proofs.CmpLays P g cb enc (siz e) cf blk off d.size w) (_ : Sort.HoldsK enc (siz e) w blk off d) (_ : blk < w.heap.size) (_ : d.size < 4611686018427387904) (_ : ∀ x y, (Go.Proofs.ltOf cf) x y = false → (Go.Proofs.ltOf cf) y x = false → x = y),
      Calls P fid #[.slice (some ⟨blk, off, Option.none⟩) d.size cap, .func (.func g) #[] cb] w fun e' w' => e' = .returned (.tuple #[]) ∧ ∃ n os, w' = Go.Proofs.sortWorldK enc (siz e) w blk off n (d.toList.mergeSort fun x y => !(Go.Proofs.ltOf cf) y x).toArray os) :
    kg P Gl fid (AA e) := by
  refine ⟨can, rfl, fun xs y _ => List.length_mergeSort .., fun O w a0 c vs y hO hgl hv hp => ?_, fun O w g off c arr eid xs vs y hO hg hgl hne hrow hb hc hm hrep hv hp => ?_⟩
  · obtain ⟨rest, cs, rfl, hf, hr⟩ := hv
    have hr : rest = [] := hr
    subst hr
    refine Calls.mono (none a0 c _ w) fun e' w' he => ⟨he.1, by rw [he.2]; exact Kept.refl w⟩
  · obtain ⟨f, ⟨⟩⟩ := y
    obtain ⟨rest, cs, rfl, hf, hr⟩ := hv
    have hr : rest = [] := hr
    subst hr
    obtain ⟨q, hq⟩ := hp.fn
    have hq : f = some q := hq
    subst hq
    obtain ⟨fi, captured, rfl, hcan, hdo⟩ := hf
    obtain ⟨hL, hok⟩ := nU (ok := okT e) (AO hfl) hrep
    have hlx : xs.length ≤ 1000000 := hp.len
    let ys : List (InT e xs) := xs.attach.map fun x => ⟨x.1, hok x.1 x.2, x.2⟩
    have hys : ys.map (·.1) = xs := by
      show (xs.attach.map _).map _ = xs
      rw [List.map_map]
      exact List.attach_map_subtype_val xs
    have hyl : ys.length = xs.length := by simpa using congrArg List.length hys
    obtain ⟨y0, hy0⟩ : ∃ y0, y0 ∈ ys := by
      cases hc0 : ys with
      | nil => rw [hc0] at hys; exact absurd hys.symm hne
      | cons z zs => exact ⟨z, List.mem_cons_self⟩
    haveI : Inhabited (InT e xs) := ⟨y0⟩
    have hflat : ∀ zs : List (InT e xs), zs.flatMap (jM e xs) = (zs.map (·.1)).flatMap (cI e) := fun zs => by
      rw [List.flatMap_map]
      rfl
    have hk : ∀ x, (jM e xs x).length = siz e := fun x => k7 hfl _ x.2.1
    have hnb : ¬ e = .int .u8 := fun h => by rw [h] at hag; cases hag
    obtain ⟨fz, hgr, hfz⟩ := hrow
    have hfz : fz = (0, 0) := hfz.resolve_right fun h => hnb h.1
    subst hfz
    have hlt : g < w.heap.size := (Array.getElem?_eq_some_iff.1 hgr).1
    have hsz : ys.toArray.size = xs.length := by rw [List.size_toArray, hyl]
    have hH : Sort.HoldsK (jM e xs) (siz e) w g off ys.toArray := yx hk hgr (by rw [hsz, hL]; show _ = ys.flatMap (jM e xs); rw [hflat, hys]) (by rw [hsz]; exact hb)
    have := tot (jM e xs) hk (fun x => At hfl x.1) (fun x y => cfD e (some q) x.1 y.1) ⟨fun x => hp.swo.irrefl x.1, fun x y z => hp.swo.trans x.1 y.1 z.1, fun x y z => hp.swo.ntrans x.1 y.1 z.1⟩ fi captured g off c ys.toArray w hcan (zN hfl hag hO hg hdo) hH hlt (by rw [hsz]; omega)
      (fun x y h1 h2 => Subtype.ext (hp.tot x.1 x.2.2 y.1 y.2.2 h1 h2))
    rw [hsz] at this
    refine Calls.mono this ?_
    rintro e' w' ⟨rfl, n, os, rfl⟩
    refine ⟨rfl, (dc e (some q) xs).flatMap (cI e), ?_, ?_, ?_⟩
    · have hmem : ∀ x ∈ dc e (some q) xs, x ∈ xs := fun x hx => (List.mem_mergeSort).1 hx
      have hlen : (dc e (some q) xs).length = xs.length := List.length_mergeSort ..
      rw [jm (k := siz e) fun x hx => k7 hfl x (hok x (hmem x hx)), hlen]
    · have hmem : ∀ x ∈ dc e (some q) xs, x ∈ xs := fun x hx => (List.mem_mergeSort).1 hx
      exact nS (ok := okT e) (ti hfl) (k7 hfl) fun x hx => hok x (hmem x hx)
    · have hs : ((ys.mergeSort fun x y => !(Go.Proofs.ltOf fun (x y : InT e xs) => cfD e (some q) x.1 y.1) y x).map (·.1)) = dc e (some q) xs := by
        have := List.map_mergeSort (r := fun x y => !(Go.Proofs.ltOf fun (x y : InT e xs) => cfD e (some q) x.1 y.1) y x) (s := fun x y => !ltD e (some q) y x) (f := fun x : InT e xs => x.1) (l := ys) (fun a _ b _ => rfl)
        rw [hys] at this
        exact this
      have hk2 := zz (enc := jM e xs) hk (n := n) (os := os) (d := (ys.mergeSort fun x y => !(Go.Proofs.ltOf fun (x y : InT e xs) => cfD e (some q) x.1 y.1) y x).toArray) hgr (off := off) (by rw [List.size_toArray, List.length_mergeSort, hyl]; exact hb)
      rw [hflat, hs] at hk2
      exact hk2
end Go.Proofs.Ytiaplhcifflibaa
namespace Go.Proofs.Ytiaplhcifflibaa
open Go Go.RowKit
noncomputable abbrev ij : au := { T := bR, F := [], n := (fp).ntmps }
noncomputable abbrev lE : Ann := { }
theorem qX : bO prog ij := tc ((bt bA bc))
theorem pU : cT ij = true := by kernel_rfl
noncomputable def kY (x : den (Ty.int IntKind.u8)) : aF := aF.ret (K.val (Ty.pair Ty.bool Ty.unit) (!decide (x = x), PUnit.unit))
theorem om (x : den (Ty.int IntKind.u8)) : dC ij lE j1 fp 1000 (aI fp) (Env.of (a6 j3 (x, ()) 0) []) = kY x := by kernel_rfl
end Go.Proofs.Ytiaplhcifflibaa
namespace Go.Proofs.Ytiaplhcifflibaa
open Go Go.RowKit
noncomputable abbrev ik : bN := ⟨j3, j1, fun _ => (false, ()), fun _ => True, true⟩
theorem qM : aM prog [] fl ik :=
 sU qX pU pT (by kernel_rfl) (fun _ _ => trivial) (A := lE) (T := fun x => kY x.1) (fun x => om x.1) fun O w0 x _ _ => by
  refine ⟨_, rfl, ?_⟩
  simp
theorem xr (x y : den tId) : eqb tId x y = decide (x = y) := by
 have := kF (t := tId) rfl x y
 cases h : eqb tId x y
 ·have : ¬ x = y := fun e => by rw [this.2 e] at h; cases h
  simp [this]
 ·simp [this.1 h]
end Go.Proofs.Ytiaplhcifflibaa
namespace Go.Proofs.Ytiaplhcifflibaa
open Go Go.RowKit
noncomputable abbrev gl : au := { T := bR, F := [(fl, ik)], n := (eB).ntmps }
noncomputable abbrev jy : Ann := { }
theorem ou (h_cmp_isNaN_byte : aM prog [] fl ik) : bO prog gl := tc (aS (bt bA bc) h_cmp_isNaN_byte)
theorem oq : cT gl = true := by kernel_rfl
noncomputable def jt (x : den (Ty.int IntKind.u8)) (y : den (Ty.int IntKind.u8)) : aF := aF.req True (aF.req True (aF.ite false (aF.ite false (aF.ret (K.val (Ty.pair ae Ty.unit) (0, PUnit.unit))) (aF.ret (K.val (Ty.pair ae Ty.unit) (-1, PUnit.unit)))) (aF.ite false (aF.ret (K.val (Ty.pair ae Ty.unit) (1, PUnit.unit))) (aF.ite (decide (x < y)) (aF.ret (K.val (Ty.pair ae Ty.unit) (-1, PUnit.unit))) (aF.ite (decide (y < x)) (aF.ret (K.val (Ty.pair ae Ty.unit) (1, PUnit.unit))) (aF.ret (K.val (Ty.pair ae Ty.unit) (0, PUnit.unit))))))))
theorem na (x : den (Ty.int IntKind.u8)) (y : den (Ty.int IntKind.u8)) : dC gl jy iU eB 1000 (aI eB) (Env.of (a6 iT (x, y, ()) 0) []) = jt x y := by kernel_rfl
noncomputable abbrev fN : au := { T := bR, F := [], n := (bL).ntmps }
noncomputable abbrev mu : Ann := { loops := [(4, { keep := [2, 3, 4, 5, 6, 7] })] }
theorem mE : bO prog fN := tc ((bt bA bc))
theorem lC : cT fN = true := by kernel_rfl
noncomputable def pY (a : den tId) (b : den tId) : aF := aF.loop (lp bL 4) [(2, K.ptr 2 tId []), (3, K.ptr 3 tId []), (4, K.ptr 4 tId []), (5, K.ptr 5 tId []), (6, K.val ae 0), (7, K.val ae 31)] [(2, Bx.cell tId a), (3, Bx.cell tId b), (4, Bx.cell tId (zero tId)), (5, Bx.cell tId (zero tId))]
theorem sM (a : den tId) (b : den tId) : dC fN mu gz bL 1000 (aI bL) (Env.of (a6 pd (a, b, ()) 0) []) = pY a b := by kernel_rfl
noncomputable def jF (v6 : den ae) (v7 : den ae) (b2 : den tId) (b3 : den tId) (b4 : den tId) (b5 : den tId) : Env := Env.of [(2, K.ptr 2 tId []), (3, K.ptr 3 tId []), (4, K.ptr 4 tId []), (5, K.ptr 5 tId []), (6, K.val ae v6), (7, K.val ae v7)] [(2, Bx.cell tId b2), (3, Bx.cell tId b3), (4, Bx.cell tId b4), (5, Bx.cell tId b5)]
noncomputable def sB (v6 : den ae) (v7 : den ae) (b2 : den tId) (b3 : den tId) (b4 : den tId) (b5 : den tId) : aF := aF.ite (decide (0 ≤ v7)) (aF.req (inB v7 ↑32) (aF.req (inB v7 ↑32) (aF.ite (decide (IntKind.wrap IntKind.i64 (IntKind.wrap IntKind.i64 (IntKind.wrap IntKind.i64 (el (Ty.int IntKind.u8) b3 v7) - IntKind.wrap IntKind.i64 (el (Ty.int IntKind.u8) b2 v7)) - v6) < 0)) (aF.req (inB v7 ↑32) (aF.loop (lp bL 4) [(2, K.ptr 2 tId []), (3, K.ptr 3 tId []), (4, K.ptr 4 tId []), (5, K.ptr 5 tId []), (6, K.val ae 1), (7, K.val ae (IntKind.wrap IntKind.i64 (v7 - 1)))] [(2, Bx.cell tId b2), (3, Bx.cell tId b3), (4, Bx.cell tId b4), (5, Bx.cell tId (uB (Ty.int IntKind.u8) b5 v7 (IntKind.wrap IntKind.u8 (IntKind.wrap IntKind.i64 (IntKind.wrap IntKind.i64 (IntKind.wrap IntKind.i64 (IntKind.wrap IntKind.i64 (el (Ty.int IntKind.u8) b3 v7) - IntKind.wrap IntKind.i64 (el (Ty.int IntKind.u8) b2 v7)) - v6) + 256)))))])) (aF.req (inB v7 ↑32) (aF.loop (lp bL 4) [(2, K.ptr 2 tId []), (3, K.ptr 3 tId []), (4, K.ptr 4 tId []), (5, K.ptr 5 tId []), (6, K.val ae 0), (7, K.val ae (IntKind.wrap IntKind.i64 (v7 - 1)))] [(2, Bx.cell tId b2), (3, Bx.cell tId b3), (4, Bx.cell tId b4), (5, Bx.cell tId (uB (Ty.int IntKind.u8) b5 v7 (IntKind.wrap IntKind.u8 (IntKind.wrap IntKind.i64 (IntKind.wrap IntKind.i64 (IntKind.wrap IntKind.i64 (el (Ty.int IntKind.u8) b3 v7) - IntKind.wrap IntKind.i64 (el (Ty.int IntKind.u8) b2 v7)) - v6)))))]))))) (aF.ret (K.val (Ty.pair tId Ty.unit) (b5, PUnit.unit)))
theorem j4 (v6 : den ae) (v7 : den ae) (b2 : den tId) (b3 : den tId) (b4 : den tId) (b5 : den tId) : dC fN mu gz bL 1000 (lp bL 4) (jF v6 v7 b2 b3 b4 b5) = sB v6 v7 b2 b3 b4 b5 := by kernel_rfl
end Go.Proofs.Ytiaplhcifflibaa
namespace Go.Proofs.Ytiaplhcifflibaa
open Go Go.RowKit
def fb (x y : Int) : Int := if x < y then -1 else if y < x then 1 else 0
noncomputable abbrev gp : bN := ⟨iT, iU, fun x => (fb x.1 x.2.1, ()), fun _ => True, true⟩
theorem gv : aM prog [] d6 gp :=
 sU (ou qM) oq oo (by kernel_rfl) (fun _ _ => trivial) (A := jy) (T := fun x => jt x.1 x.2.1) (fun x => na x.1 x.2.1) fun O w0 x _ _ => by
  refine ⟨trivial, trivial, fun h => (by cases h), fun _ => ⟨fun h => (by cases h), fun _ => ⟨fun h => ⟨_, rfl, ?_⟩, fun h => ⟨fun h' => ⟨_, rfl, ?_⟩, fun h' => ⟨_, rfl, ?_⟩⟩⟩⟩⟩
  ·simp [fb, of_decide_eq_true h]
  ·simp [fb, of_decide_eq_false h, of_decide_eq_true h']
  ·simp [fb, of_decide_eq_false h, of_decide_eq_false h']
end Go.Proofs.Ytiaplhcifflibaa
namespace Go.Proofs.Ytiaplhcifflibaa
open Go
def byt (l : List Int) : Prop := ∀ x ∈ l, 0 ≤ x ∧ x ≤ 255
theorem jb {x : Int} {l : List Int} : byt (x :: l) ↔ (0 ≤ x ∧ x ≤ 255) ∧ byt l := by
 simp [byt]
theorem jB {x : den tId} (h : okT tId x) : x.length = 32 ∧ byt x :=
 ⟨h.1, fun y hy => by
  have : InK .u8 y := h.2 y hy
  have h1 : IntKind.min .u8 = 0 := by decide
  have h2 : IntKind.max .u8 = 255 := by decide
  unfold InK at this
  rw [h1, h2] at this
  exact this⟩
def vB : List Int → Int
 | [] => 0
 | x :: l => x * 256 ^ l.length + vB l
theorem nW (n : Nat) : (0 : Int) < 256 ^ n := Int.pow_pos (by decide)
theorem i6 : ∀ {l : List Int}, byt l → 0 ≤ vB l ∧ vB l < 256 ^ l.length
 | [], _ => by simp [vB]
 | x :: l, h => by
  obtain ⟨hx, hl⟩ := jb.1 h
  obtain ⟨h1, h2⟩ := i6 hl
  have hp := nW l.length
  have h3 : 0 ≤ x * 256 ^ l.length := Int.mul_nonneg hx.1 (Int.le_of_lt hp)
  have h4 : x * 256 ^ l.length ≤ 255 * 256 ^ l.length := Int.mul_le_mul_of_nonneg_right hx.2 (Int.le_of_lt hp)
  rw [List.length_cons, Int.pow_succ]
  simp only [vB]
  omega
def toB : Nat → Int → List Int
 | 0, _ => []
 | n + 1, v => v / 256 ^ n :: toB n (v % 256 ^ n)
theorem kb : ∀ (n : Nat) (v : Int), (toB n v).length = n
 | 0, _ => rfl
 | n + 1, v => by simp [toB, kb n]
theorem rn : ∀ {l : List Int}, byt l → toB l.length (vB l) = l
 | [], _ => rfl
 | x :: l, h => by
  obtain ⟨hx, hl⟩ := jb.1 h
  obtain ⟨h1, h2⟩ := i6 hl
  have hp := nW l.length
  have e1 : (x * 256 ^ l.length + vB l) / 256 ^ l.length = x := by
   rw [Int.add_comm, Int.add_mul_ediv_right _ _ (by omega), Int.ediv_eq_zero_of_lt h1 h2]; omega
  have e2 : (x * 256 ^ l.length + vB l) % 256 ^ l.length = vB l := by
   rw [Int.add_comm, Int.add_mul_emod_self_right, Int.emod_eq_of_lt h1 h2]
  show (x * 256 ^ l.length + vB l) / 256 ^ l.length :: toB l.length ((x * 256 ^ l.length + vB l) % 256 ^ l.length) = x :: l
  rw [e1, e2, rn hl]
theorem nq : ∀ (n : Nat) {v : Int}, 0 ≤ v → v < 256 ^ n → byt (toB n v) ∧ vB (toB n v) = v
 | 0, v, h0, h1 => ⟨by simp [toB, byt], by simp at h1; simp [toB, vB]; omega⟩
 | n + 1, v, h0, h1 => by
  have hp := nW n
  obtain ⟨i1, i2⟩ := nq n (Int.emod_nonneg v (by omega)) (Int.emod_lt_of_pos v hp)
  rw [Int.pow_succ] at h1
  have hd : v / 256 ^ n ≤ 255 := by
   have : v / 256 ^ n < 256 := Int.ediv_lt_of_lt_mul hp (by rw [Int.mul_comm]; exact h1)
   omega
  refine ⟨jb.2 ⟨⟨Int.ediv_nonneg h0 (Int.le_of_lt hp), hd⟩, i1⟩, ?_⟩
  show v / 256 ^ n * 256 ^ (toB n _).length + vB (toB n _) = v
  rw [i2, kb]
  have := Int.mul_ediv_add_emod v (256 ^ n)
  rw [Int.mul_comm]
  exact this
theorem uV {a b : List Int} (hl : a.length = b.length) (ha : byt a) (hb : byt b) (h : vB a = vB b) : a = b := by
 rw [← rn ha, ← rn hb, h, hl]
def lj : List Int → List Int → Int
 | [], [] => 0
 | [], _ :: _ => -1
 | _ :: _, [] => 1
 | x :: xs, y :: ys => if fb x y = 0 then lj xs ys else fb x y
theorem tK {x y : Int} : fb x y = 0 ↔ x = y := by
 unfold fb; split
 ·omega
 ·split <;> omega
theorem w7 : ∀ {a b : List Int}, a.length = b.length → byt a → byt b → lj a b = fb (vB a) (vB b)
 | [], [], _, _, _ => by simp [lj, vB, fb]
 | [], _ :: _, h, _, _ => by simp at h
 | _ :: _, [], h, _, _ => by simp at h
 | x :: xs, y :: ys, h, ha, hb => by
  obtain ⟨hx, ha⟩ := jb.1 ha
  obtain ⟨hy, hb⟩ := jb.1 hb
  have hl : xs.length = ys.length := by simpa using h
  have ih := w7 hl ha hb
  obtain ⟨a1, a2⟩ := i6 ha
  obtain ⟨b1, b2⟩ := i6 hb
  rw [hl] at a2
  simp only [lj, vB]
  rw [hl]
  have hp := nW ys.length
  generalize (256 : Int) ^ ys.length = p at *
  split
  ·rename_i e
   rw [ih, tK.1 e]
   unfold fb
   split
   ·rw [if_pos (by omega)]
   ·split
    ·rw [if_neg (by omega), if_pos (by omega)]
    ·rw [if_neg (by omega), if_neg (by omega)]
  ·rename_i e
   have e : ¬ x = y := fun h => e (tK.2 h)
   rcases Int.lt_or_gt_of_ne e with hlt | hgt
   ·have : (x + 1) * p ≤ y * p := Int.mul_le_mul_of_nonneg_right hlt (Int.le_of_lt hp)
    rw [Int.add_mul, Int.one_mul] at this
    unfold fb
    rw [if_pos hlt, if_pos (by omega)]
   ·have : (y + 1) * p ≤ x * p := Int.mul_le_mul_of_nonneg_right hgt (Int.le_of_lt hp)
    rw [Int.add_mul, Int.one_mul] at this
    unfold fb
    rw [if_neg (by omega), if_pos hgt, if_neg (by omega), if_pos (by omega)]
def bq : Int := 256 ^ 32
def aD (a b : List Int) : List Int := toB 32 ((vB b - vB a) % bq)
theorem xl {l : List Int} {i : Nat} (h : i < l.length) : vB (l.drop i) = l[i] * 256 ^ (l.length - (i + 1)) + vB (l.drop (i + 1)) := by
 rw [List.drop_eq_getElem_cons h]
 simp [vB]
theorem qf {l : List Int} {i : Nat} (h : i < l.length) (y : Int) : (l.set i y).drop i = y :: l.drop (i + 1) := by
 rw [List.drop_eq_getElem_cons (by simpa using h), List.getElem_set_self, List.drop_set_of_lt (by omega)]
end Go.Proofs.Ytiaplhcifflibaa
namespace Go.Proofs.Ytiaplhcifflibaa
open Go Go.RowKit
noncomputable abbrev gT : bN := ⟨pd, gz, fun x => (aD x.1 x.2.1, ()), fun _ => True, true⟩
theorem oW (O : Nat → Prop) (w0 : World) (a b z : List Int) (ha : a.length = 32) (hb : b.length = 32) (ba : byt a) (bb : byt b) : ∀ (i : Nat) (less : Int) (out : List Int), i ≤ 32 → out.length = 32 → (less = 0 ∨ less = 1) → byt (out.drop i) →
    vB (out.drop i) = vB (b.drop i) - vB (a.drop i) + less * 256 ^ (32 - i) →
    dZ prog fN O w0 bL (c6 prog O w0 gz fun y => y = (aD a b, ())) (lp bL 4) (jF less ((i : Int) - 1) a b z out)
  | 0, less, out, _, ho, hless, hby, hv => rT mE lC (j4 less _ a b z out) ⟨fun h => by
      have h : (0 : Int) ≤ ((0 : Nat) : Int) - 1 := of_decide_eq_true h
      omega, fun _ => ⟨_, rfl, by
        simp only [List.drop_zero] at hby hv
        have r := i6 hby
        rw [ho] at r
        have e : (vB b - vB a) % bq = vB out := by
          have : vB b - vB a = vB out + (-less) * bq := by
            unfold bq
            rw [hv, Int.neg_mul]; omega
          rw [this, Int.add_mul_emod_self_right]
          exact Int.emod_eq_of_lt r.1 r.2
        have : aD a b = out := by
          unfold aD
          rw [e, ← ho, rn hby]
        rw [this]⟩⟩
  | i + 1, less, out, hi, ho, hless, hby, hv => rT mE lC (j4 less _ a b z out) ⟨fun _ => by
      have ei : (((i + 1 : Nat) : Int) - 1) = ((i : Nat) : Int) := by omega
      rw [ei]
      have h1 : i < a.length := by omega
      have h2 : i < b.length := by omega
      have h3 : i < out.length := by omega
      rw [fm (e := .int .u8) h1, fm (e := .int .u8) h2]
      obtain ⟨a0, a1⟩ := ba _ (List.getElem_mem h1)
      obtain ⟨b0, b1⟩ := bb _ (List.getElem_mem h2)
      rw [d8 (n := a[i]) (by omega), d8 (n := b[i]) (by omega), d8 (n := b[i] - a[i]) (by omega), d8 (n := b[i] - a[i] - less) (by omega)]
      have hs : ∀ y : Int, uB (.int .u8) out (i : Nat) y = out.set i y := fun y => rfl
      have hp : (256 : Int) ^ (32 - i) = 256 * 256 ^ (31 - i) := by
        rw [show 32 - i = (31 - i) + 1 by omega, Int.pow_succ, Int.mul_comm]
      have hq : 32 - (i + 1) = 31 - i := by omega
      rw [hq] at hv
      have va := xl h1
      have vb := xl h2
      rw [ha, hq] at va
      rw [hb, hq] at vb
      have step : ∀ y less' : Int, 0 ≤ y ∧ y ≤ 255 → (less' = 0 ∨ less' = 1) → y = b[i] - a[i] - less + 256 * less' →
          dZ prog fN O w0 bL (c6 prog O w0 gz fun y => y = (aD a b, ())) (lp bL 4) (jF less' ((i : Int) - 1) a b z (out.set i y)) := by
        intro y less' hy hl' e
        refine oW O w0 a b z ha hb ba bb i less' (out.set i y) (by omega) (by simpa using ho) hl' ?_ ?_
        · rw [qf h3]; exact jb.2 ⟨hy, hby⟩
        · rw [qf h3, va, vb, hp]
          simp only [vB, List.length_drop, ho, hq]
          rw [hv, e]
          generalize (256 : Int) ^ (31 - i) = p
          simp only [Int.sub_mul, Int.add_mul]
          have : 256 * less' * p = less' * (256 * p) := by rw [Int.mul_comm 256 less', Int.mul_assoc]
          omega
      refine ⟨dK (n := 32) (by omega), dK (n := 32) (by omega), fun h => ⟨dK (n := 32) (by omega), ?_⟩, fun h => ⟨dK (n := 32) (by omega), ?_⟩⟩
      · have h : b[i] - a[i] - less < 0 := of_decide_eq_true h
        rw [hs, d8 (n := b[i] - a[i] - less + 256) (by omega), vP (by omega), d8 (by omega)]
        exact step _ 1 (by omega) (.inr rfl) (by omega)
      · have h : ¬ b[i] - a[i] - less < 0 := of_decide_eq_false h
        rw [hs, vP (by omega), d8 (by omega)]
        exact step _ 0 (by omega) (.inl rfl) (by omega), fun h => by
      have h : ¬ (0 : Int) ≤ ((i + 1 : Nat) : Int) - 1 := of_decide_eq_false h
      omega⟩
theorem p9 : aM prog [] fR gT :=
 sU mE lC vW (by kernel_rfl) (fun _ _ => trivial) (A := mu) (T := fun x => pY x.1 x.2.1) (fun x => sM x.1 x.2.1) fun O w0 x hk _ => by
  obtain ⟨la, ba⟩ := jB hk.1
  obtain ⟨lb, bb⟩ := jB hk.2.1
  have hz : (zero tId : List Int).length = 32 := by simp [zero]
  exact oW O w0 x.1 x.2.1 (zero tId) la lb ba bb 32 0 (zero tId) (Nat.le_refl _) hz (.inl rfl) (by rw [List.drop_eq_nil_of_le (by omega)]; simp [byt])
   (by rw [List.drop_eq_nil_of_le (by omega), List.drop_eq_nil_of_le (by omega), List.drop_eq_nil_of_le (by omega)]; simp [vB])
end Go.Proofs.Ytiaplhcifflibaa
namespace Go.Proofs.Ytiaplhcifflibaa
open Go Go.RowKit
end Go.Proofs.Ytiaplhcifflibaa
namespace Go.Proofs.Ytiaplhcifflibaa
open Go Go.RowKit
noncomputable abbrev cG : au := { T := bR, F := [(d6, gp)], n := (aR).ntmps }
noncomputable abbrev eZ : Ann := { loops := [(2, { keep := [0, 1, 9, 10, 11] })] }
theorem fa (h_cmp_Compare_byte : aM prog [] d6 gp) : bO prog cG := tc (aS (bt bA bc) h_cmp_Compare_byte)
theorem eI : cT cG = true := by kernel_rfl
noncomputable def iv (s1 : den (Ty.slc (Ty.int IntKind.u8))) (s2 : den (Ty.slc (Ty.int IntKind.u8))) : aF := aF.loop (lp aR 2) [(0, K.val (Ty.slc (Ty.int IntKind.u8)) s1), (1, K.val (Ty.slc (Ty.int IntKind.u8)) s2), (9, K.val (Ty.slc (Ty.int IntKind.u8)) s1), (10, K.val ae (lnx (Ty.int IntKind.u8) s1)), (11, K.val ae 0)] []
theorem kS (s1 : den (Ty.slc (Ty.int IntKind.u8))) (s2 : den (Ty.slc (Ty.int IntKind.u8))) : dC cG eZ da aR 1000 (aI aR) (Env.of (a6 gX (s1, s2, ()) 0) []) = iv s1 s2 := by kernel_rfl
noncomputable def gN (v0 : den (Ty.slc (Ty.int IntKind.u8))) (v1 : den (Ty.slc (Ty.int IntKind.u8))) (v9 : den (Ty.slc (Ty.int IntKind.u8))) (v10 : den ae) (v11 : den ae) : Env := Env.of [(0, K.val (Ty.slc (Ty.int IntKind.u8)) v0), (1, K.val (Ty.slc (Ty.int IntKind.u8)) v1), (9, K.val (Ty.slc (Ty.int IntKind.u8)) v9), (10, K.val ae v10), (11, K.val ae v11)] []
noncomputable def k4 (v0 : den (Ty.slc (Ty.int IntKind.u8))) (v1 : den (Ty.slc (Ty.int IntKind.u8))) (v9 : den (Ty.slc (Ty.int IntKind.u8))) (v10 : den ae) (v11 : den ae) : aF := aF.ite (decide (v11 < v10)) (aF.req (inB v11 (lnx (Ty.int IntKind.u8) v9)) (aF.ite (decide (lnx (Ty.int IntKind.u8) v1 ≤ v11)) (aF.ret (K.val (Ty.pair ae Ty.unit) (1, PUnit.unit))) (aF.req (inB v11 (lnx (Ty.int IntKind.u8) v1)) (aF.req True (aF.ite (!decide (fb (el (Ty.int IntKind.u8) v9 v11) (el (Ty.int IntKind.u8) v1 v11) = 0)) (aF.ret (K.val (Ty.pair ae Ty.unit) (fb (el (Ty.int IntKind.u8) v9 v11) (el (Ty.int IntKind.u8) v1 v11), PUnit.unit))) (aF.loop (lp aR 2) [(0, K.val (Ty.slc (Ty.int IntKind.u8)) v0), (1, K.val (Ty.slc (Ty.int IntKind.u8)) v1), (9, K.val (Ty.slc (Ty.int IntKind.u8)) v9), (10, K.val ae v10), (11, K.val ae (IntKind.wrap IntKind.i64 (v11 + 1)))] [])))))) (aF.ite (decide (lnx (Ty.int IntKind.u8) v0 < lnx (Ty.int IntKind.u8) v1)) (aF.ret (K.val (Ty.pair ae Ty.unit) (-1, PUnit.unit))) (aF.ret (K.val (Ty.pair ae Ty.unit) (0, PUnit.unit))))
theorem fg (v0 : den (Ty.slc (Ty.int IntKind.u8))) (v1 : den (Ty.slc (Ty.int IntKind.u8))) (v9 : den (Ty.slc (Ty.int IntKind.u8))) (v10 : den ae) (v11 : den ae) : dC cG eZ da aR 1000 (lp aR 2) (gN v0 v1 v9 v10 v11) = k4 v0 v1 v9 v10 v11 := by kernel_rfl
end Go.Proofs.Ytiaplhcifflibaa
namespace Go.Proofs.Ytiaplhcifflibaa
open Go Go.RowKit
noncomputable abbrev fe : bN := ⟨gX, da, fun x => (lj x.1 x.2.1, ()), fun _ => True, true⟩
theorem sI (a : List Int) : lj a [] = if a = [] then 0 else 1 := by
 cases a <;> rfl
def mJ (O : Nat → Prop) (w0 : World) (a b : List Int) (hm : a.length ≤ maxLen) :=
 PLift.up <| yc (P := prog) (D := cG) (fn := aR) (rs := da) (O := O) (w0 := w0) (todo := lp aR 2) (σ := Unit) a.length
  (fun i _ => gN a b a (lnx (.int .u8) a) i) (fun i _ => i ≤ b.length) (fun i _ y => y = (lj (a.drop i) (b.drop i), ()))
  (fun i _ hi hb ih => rT (fa gv) eI (fg a b a _ _) ⟨fun _ => by
   refine ⟨dK hi, fun h => ⟨_, rfl, ?_⟩, fun h => ?_⟩
   ·have h : (b.length : Int) ≤ (i : Int) := of_decide_eq_true h
    rw [List.drop_eq_nil_of_le (show b.length ≤ i by omega), sI, if_neg (fun e => by have := congrArg List.length e; simp at this; omega)]
   ·have h : ¬ (b.length : Int) ≤ (i : Int) := of_decide_eq_false h
    have hi' : i < b.length := by omega
    rw [fm (e := .int .u8) hi, fm (e := .int .u8) hi', lz hi hm]
    refine ⟨dK hi', trivial, fun h => ⟨_, rfl, ?_⟩, fun h => dZ.mono (fun y hy => ?_) (ih () (by omega))⟩
    ·have h : ¬ fb a[i] b[i] = 0 := by simpa using h
     rw [List.drop_eq_getElem_cons hi, List.drop_eq_getElem_cons hi']
     simp only [lj, if_neg h]
    ·have h : fb a[i] b[i] = 0 := by simpa using h
     rw [hy, List.drop_eq_getElem_cons hi, List.drop_eq_getElem_cons hi']
     simp only [lj, if_pos h], fun h => by
   have h : ¬ (i : Int) < (a.length : Int) := of_decide_eq_false h
   omega⟩)
  (fun s hb => rT (fa gv) eI (fg a b a _ _) ⟨fun h => by
   have h : (a.length : Int) < (a.length : Int) := of_decide_eq_true h
   omega, fun _ => ⟨fun h => ⟨_, rfl, by
    have h : (a.length : Int) < (b.length : Int) := of_decide_eq_true h
    rw [List.drop_eq_nil_of_le (Nat.le_refl _), List.drop_eq_getElem_cons (show a.length < b.length by omega)]
    rfl⟩, fun h => ⟨_, rfl, by
    have h : ¬ (a.length : Int) < (b.length : Int) := of_decide_eq_false h
    rw [List.drop_eq_nil_of_le (Nat.le_refl _), List.drop_eq_nil_of_le (show b.length ≤ a.length by omega)]
    rfl⟩⟩⟩)
theorem mY : aM prog [] dq fe :=
 sU (fa gv) eI mt (by kernel_rfl) (fun _ _ => trivial) (A := eZ) (T := fun x => iv x.1 x.2.1) (fun x => kS x.1 x.2.1) fun O w0 x hk _ =>
  (mJ O w0 x.1 x.2.1 hk.1.1).down 0 () (Nat.zero_le _) (Nat.zero_le _)
end Go.Proofs.Ytiaplhcifflibaa
namespace Go.Proofs.Ytiaplhcifflibaa
open Go Go.RowKit
def fY (a b : List Int) : Int := fb (vB a) (vB b)
end Go.Proofs.Ytiaplhcifflibaa
namespace Go.Proofs.Ytiaplhcifflibaa
open Go Go.RowKit
noncomputable abbrev iI : au := { T := bR, F := [(dq, fe)], n := (ge).ntmps }
noncomputable abbrev mh : Ann := { frz := [(1, [2, 3])] }
theorem sm (h_slices_Compare_byte : aM prog [] dq fe) : bO prog iI := tc (aS (bt bA bc) h_slices_Compare_byte)
theorem qI : cT iI = true := by kernel_rfl
noncomputable def lZ (a : den tId) (b : den tId) : aF := aF.req (bK 0 ↑32 ↑32) (aF.req (bK 0 ↑32 ↑32) (aF.req True (aF.ret (K.val (Ty.pair ae Ty.unit) (lj (g6 (Ty.int IntKind.u8) a 0 ↑32) (g6 (Ty.int IntKind.u8) b 0 ↑32), PUnit.unit)))))
theorem oB (a : den tId) (b : den tId) : dC iI mh kL ge 1000 (aI ge) (Env.of (a6 lF (a, b, ()) 0) []) = lZ a b := by kernel_rfl
end Go.Proofs.Ytiaplhcifflibaa
namespace Go.Proofs.Ytiaplhcifflibaa
open Go Go.RowKit
noncomputable abbrev ef : bN := ⟨lF, kL, fun x => (fY x.1 x.2.1, ()), fun _ => True, true⟩
theorem lK : aM prog [] dn ef :=
 sU (sm mY) qI qW (by kernel_rfl) (fun _ _ => trivial) (A := mh) (T := fun x => lZ x.1 x.2.1) (fun x => oB x.1 x.2.1) fun O w0 x hk _ => by
  obtain ⟨la, ba⟩ := jB hk.1
  obtain ⟨lb, bb⟩ := jB hk.2.1
  have hc : ∀ l : List Int, l.length = 32 → g6 (.int .u8) l 0 32 = l := fun l hl => by
   show (l.take 32).drop 0 = l
   rw [List.drop_zero, ← hl, List.take_length]
  refine ⟨⟨Int.le_refl _, by decide, Int.le_refl _⟩, ⟨Int.le_refl _, by decide, Int.le_refl _⟩, trivial, _, rfl, ?_⟩
  have e := w7 (a := x.1) (b := x.2.1) (by rw [la, lb]) ba bb
  show (lj (g6 (.int .u8) x.1 0 32) (g6 (.int .u8) x.2.1 0 32), PUnit.unit) = (fY x.1 x.2.1, ())
  rw [hc x.1 la, hc x.2.1 lb, e]
  rfl
def jW (x a b : List Int) : Bool :=
 if a = b then true else if vB a < vB b then decide (vB a < vB x) && decide (vB x ≤ vB b) else decide (vB a < vB x) || decide (vB x ≤ vB b)
theorem rN {a b : List Int} : fY a b < 0 ↔ vB a < vB b := by
 unfold fY fb; split
 ·exact ⟨fun _ => by omega, fun _ => by omega⟩
 ·split <;> exact ⟨fun _ => by omega, fun _ => by omega⟩
theorem yE {a b : List Int} : fY a b ≤ 0 ↔ vB a ≤ vB b := by
 unfold fY fb; split
 ·exact ⟨fun _ => by omega, fun _ => by omega⟩
 ·split <;> exact ⟨fun _ => by omega, fun _ => by omega⟩
end Go.Proofs.Ytiaplhcifflibaa
namespace Go.Proofs.Ytiaplhcifflibaa
open Go Go.RowKit
noncomputable abbrev j8 : au := { T := bR, F := [(fR, gT), (dn, ef)], n := (iD).ntmps }
noncomputable abbrev ru : Ann := { }
theorem xy (h_ident_Far : aM prog [] fR gT) (h_ident_Compare : aM prog [] dn ef) : bO prog j8 := tc (aS (aS (bt bA bc) h_ident_Compare) h_ident_Far)
theorem wQ : cT j8 = true := by kernel_rfl
noncomputable def j7 (x : den tId) (a : den tId) (b : den tId) : aF := aF.ite (eqb tId a b) (aF.ret (K.val (Ty.pair Ty.bool Ty.unit) (true, PUnit.unit))) (aF.req True (aF.req (s7 [(!eqb tId (aD a x) (List.replicate 32 (zero (Ty.int IntKind.u8))), true)] True) (aF.req (s7 [(!eqb tId (aD a x) (List.replicate 32 (zero (Ty.int IntKind.u8))), true)] True) (aF.ret (K.val (Ty.pair Ty.bool Ty.unit) (bif !eqb tId (aD a x) (List.replicate 32 (zero (Ty.int IntKind.u8))) then decide (fY (aD a x) (aD a b) ≤ 0) else false, PUnit.unit))))))
theorem t6 (x : den tId) (a : den tId) (b : den tId) : dC j8 ru mC iD 1000 (aI iD) (Env.of (a6 qn (x, a, b, ()) 0) []) = j7 x a b := by kernel_rfl
end Go.Proofs.Ytiaplhcifflibaa
namespace Go.Proofs.Ytiaplhcifflibaa
open Go Go.RowKit
theorem A4 {x y W : Int} (hx : 0 ≤ x ∧ x < W) (hy : 0 ≤ y ∧ y < W) : (y - x) % W = if x ≤ y then y - x else y - x + W := by
 split
 ·exact Int.emod_eq_of_lt (by omega) (by omega)
 ·rw [← Int.add_emod_right]
  exact Int.emod_eq_of_lt (by omega) (by omega)
theorem gf {a : List Int} (ha : a.length = 32 ∧ byt a) : 0 ≤ vB a ∧ vB a < bq := by
 have := i6 ha.2; rw [ha.1] at this; exact this
theorem rz {a b : List Int} (ha : a.length = 32 ∧ byt a) (hb : b.length = 32 ∧ byt b) : vB (aD a b) = if vB a ≤ vB b then vB b - vB a else vB b - vB a + bq := by
 have ra := gf ha
 have rb := gf hb
 rw [← A4 ra rb]
 exact (nq 32 (Int.emod_nonneg _ (by decide)) (Int.emod_lt_of_pos _ (by decide))).2
theorem xh {a b : List Int} : (aD a b).length = 32 ∧ byt (aD a b) :=
 ⟨kb _ _, (nq 32 (Int.emod_nonneg _ (by decide)) (Int.emod_lt_of_pos _ (by decide))).1⟩
theorem uL : vB (List.replicate 32 (0 : Int)) = 0 := by decide
theorem zB : byt (List.replicate 32 (0 : Int)) := fun x h => by
 have := List.eq_of_mem_replicate h
 omega
theorem vZ {a b : List Int} (ha : a.length = 32 ∧ byt a) (hb : b.length = 32 ∧ byt b) : aD a b = List.replicate 32 (0 : Int) ↔ vB a = vB b := by
 have ra := gf ha
 have rb := gf hb
 have h1 := rz ha hb
 refine ⟨fun h => ?_, fun h => ?_⟩
 ·rw [h, uL] at h1
  split at h1 <;> omega
 ·refine uV (by rw [xh.1, List.length_replicate]) xh.2 zB ?_
  rw [h1, uL, if_pos (by omega)]; omega
noncomputable abbrev nE : bN := ⟨qn, mC, fun x => (jW x.1 x.2.1 x.2.2.1, ()), fun _ => True, true⟩
theorem yw {x a b : List Int} (hx : x.length = 32 ∧ byt x) (ha : a.length = 32 ∧ byt a) (hb : b.length = 32 ∧ byt b) (h : ¬ a = b) :
    (bif !decide (aD a x = List.replicate 32 (0 : Int)) then decide (fY (aD a x) (aD a b) ≤ 0) else false) = jW x a b := by
  have rx := gf hx
  have ra := gf ha
  have rb := gf hb
  have hne : ¬ vB a = vB b := fun e => h (uV (by rw [ha.1, hb.1]) ha.2 hb.2 e)
  simp only [yE, vZ ha hx, rz ha hx, rz ha hb]
  rw [jW, if_neg h]
  by_cases e1 : vB a = vB x
  · simp only [e1, decide_true, Bool.not_true, cond_false]
    split
    · simp
    · symm; simp; omega
  · simp only [e1, decide_false, Bool.not_false, cond_true]
    rw [Bool.eq_iff_iff]
    split <;> split <;> split <;> simp only [Bool.and_eq_true, Bool.or_eq_true, decide_eq_true_eq] <;> omega
theorem wn (O : Nat → Prop) (w0 : World) (x a b : List Int) (hx : x.length = 32 ∧ byt x) (ha : a.length = 32 ∧ byt a) (hb : b.length = 32 ∧ byt b) : aT prog j8 O w0 iD mC (fun y => y = (jW x a b, ())) (j7 x a b) := by
 unfold j7
 rw [xr, xr]
 refine ⟨fun h => ⟨_, rfl, ?_⟩, fun h => ⟨trivial, fun _ => trivial, fun _ => trivial, _, rfl, ?_⟩⟩
 ·have h : a = b := of_decide_eq_true h
  simp [jW, h]
 ·have h : ¬ a = b := of_decide_eq_false h
  rw [← yw hx ha hb h]; rfl
theorem yo : aM prog [] kw nE :=
 sU (xy p9 lK) wQ wP (by kernel_rfl) (fun _ _ => trivial) (A := ru) (T := fun x => j7 x.1 x.2.1 x.2.2.1) (fun x => t6 x.1 x.2.1 x.2.2.1) fun O w0 x hk _ =>
  wn O w0 x.1 x.2.1 x.2.2.1 (jB hk.1) (jB hk.2.1) (jB hk.2.2.1)
end Go.Proofs.Ytiaplhcifflibaa
namespace Go.Proofs.Ytiaplhcifflibaa
open Go Go.RowKit
noncomputable abbrev ni : Fx := { fn := jR, ann := { } }
noncomputable abbrev od : bz := { D := { T := bR, F := [(fR, gT), (dn, ef)], R := [], ovl := [] }, inl := [] }
noncomputable abbrev tY : cV := .data m7
theorem uf (h_ident_Far : aM prog [] fR gT) (h_ident_Compare : aM prog [] dn ef) : XOk prog od := xok (aS (aS (bt bA bc) h_ident_Compare) h_ident_Far) (by kernel_rfl) bX cC cD
noncomputable def oa (a : den ab) (b : den ab) (id : den (Ty.ref tId)) : af := af.req True (af.req True (af.req True (af.ret (K.val (Ty.pair ae Ty.unit) (fY (aD id (Prod.fst (Prod.snd a))) (aD id (Prod.fst (Prod.snd b))), PUnit.unit)))))
theorem qq (a : den ab) (b : den ab) (id : den (Ty.ref tId)) : ay od tY 5000 [] ni (aI jR) (Env.of (a6 m9 (a, b, id, ()) 0) []) = oa a b id := by kernel_rfl
noncomputable abbrev mq : Fx := { fn := jh, ann := { } }
noncomputable abbrev mO : bz := { D := { T := bR, F := [], R := [], ovl := [] }, inl := [] }
noncomputable abbrev sy : cV := .data lP
theorem sO : XOk prog mO := xok ((bt bA bc)) (by kernel_rfl) bX cC cD
noncomputable def mR (x : den ab) (m : den (Ty.ref ab)) : af := af.ret (K.val (Ty.pair Ty.bool Ty.unit) (bif decide (Prod.fst x = Prod.fst m) then true else eqb tId (Prod.fst (Prod.snd x)) (Prod.fst (Prod.snd m)), PUnit.unit))
theorem pS (x : den ab) (m : den (Ty.ref ab)) : ay mO sy 5000 [] mq (aI jh) (Env.of (a6 l8 (x, m, ()) 0) []) = mR x m := by kernel_rfl
noncomputable abbrev lw : Fx := { fn := iC, ann := { } }
noncomputable abbrev mm : bz := { D := { T := bR, F := [], R := [], ovl := [] }, inl := [] }
noncomputable abbrev rh : cV := .data kN
theorem sr : XOk prog mm := xok ((bt bA bc)) (by kernel_rfl) bX cC cD
noncomputable def lJ (m : den ab) (no : den (Ty.ref ae)) : af := af.ret (K.val (Ty.pair Ty.bool Ty.unit) (decide (Prod.fst m = no), PUnit.unit))
theorem oJ (m : den ab) (no : den (Ty.ref ae)) : ay mm rh 5000 [] lw (aI iC) (Env.of (a6 lk (m, no, ()) 0) []) = lJ m no := by kernel_rfl
noncomputable abbrev bj : Fx := { fn := aZ, ann := { loops := [(2, { keep := [0, 1, 7, 8] })] } }
noncomputable abbrev cH : bz := { D := { T := bR, F := [], R := [], ovl := [] }, inl := [] }
noncomputable abbrev fV : cV := .data du
theorem dA : XOk prog cH := xok ((bt bA bc)) (by kernel_rfl) bX cC cD
noncomputable def gb (s : den (Ty.slc ab)) (f : den (Ty.fn (Ty.pair ab Ty.unit) (Ty.pair Ty.bool Ty.unit))) : af := af.loop [] bj (lp aZ 2) [(0, K.val (Ty.slc ab) s), (1, K.val (Ty.fn (Ty.pair ab Ty.unit) (Ty.pair Ty.bool Ty.unit)) f), (7, K.val ae (lnx ab s)), (8, K.val ae 0)] []
theorem i7 (s : den (Ty.slc ab)) (f : den (Ty.fn (Ty.pair ab Ty.unit) (Ty.pair Ty.bool Ty.unit))) : ay cH fV 5000 [] bj (aI aZ) (Env.of (a6 fF (s, f, ()) 0) []) = gb s f := by kernel_rfl
noncomputable def ff (v0 : den (Ty.slc ab)) (v1 : den (Ty.fn (Ty.pair ab Ty.unit) (Ty.pair Ty.bool Ty.unit))) (v7 : den ae) (v8 : den ae) : Env := Env.of [(0, K.val (Ty.slc ab) v0), (1, K.val (Ty.fn (Ty.pair ab Ty.unit) (Ty.pair Ty.bool Ty.unit)) v1), (7, K.val ae v7), (8, K.val ae v8)] []
noncomputable def i4 (v0 : den (Ty.slc ab)) (v1 : den (Ty.fn (Ty.pair ab Ty.unit) (Ty.pair Ty.bool Ty.unit))) (v7 : den ae) (v8 : den ae) : af := af.ite (decide (v8 < v7)) (af.req (inB v8 (lnx ab v0)) (af.req (nV (Ty.pair ab Ty.unit) (Ty.pair Ty.bool Ty.unit) v1) (af.ite (Prod.fst (ss (Ty.pair ab Ty.unit) (Ty.pair Ty.bool Ty.unit) v1 (el ab v0 v8, PUnit.unit))) (af.ret (K.val (Ty.pair ae Ty.unit) (v8, PUnit.unit))) (af.loop [] bj (lp aZ 2) [(0, K.val (Ty.slc ab) v0), (1, K.val (Ty.fn (Ty.pair ab Ty.unit) (Ty.pair Ty.bool Ty.unit)) v1), (7, K.val ae v7), (8, K.val ae (IntKind.wrap IntKind.i64 (v8 + 1)))] [])))) (af.ret (K.val (Ty.pair ae Ty.unit) (-1, PUnit.unit)))
theorem dW (v0 : den (Ty.slc ab)) (v1 : den (Ty.fn (Ty.pair ab Ty.unit) (Ty.pair Ty.bool Ty.unit))) (v7 : den ae) (v8 : den ae) : ay cH fV 5000 [] bj (lp aZ 2) (ff v0 v1 v7 v8) = i4 v0 v1 v7 v8 := by kernel_rfl
noncomputable abbrev be : Fx := { fn := aX, ann := { loops := [(5, { keep := [0, 1, 4, 5, 6] })] } }
noncomputable abbrev cZ : bz := { D := { T := bR, F := [], R := [], ovl := [] }, inl := [] }
noncomputable abbrev gL : cV := .data dR
theorem dX : XOk prog cZ := xok ((bt bA bc)) (by kernel_rfl) bX cC cD
noncomputable def gO (x : den (Ty.slc ab)) (cmp : den (Ty.fn (Ty.pair ab (Ty.pair ab Ty.unit)) (Ty.pair ae Ty.unit))) : af := af.ite (decide (lnx ab x < 1)) (af.bad (100000 + 1000 * 0 + 0)) (af.req (inB 0 (lnx ab x)) (af.loop [] be (lp aX 5) [(0, K.val (Ty.slc ab) x), (1, K.val (Ty.fn (Ty.pair ab (Ty.pair ab Ty.unit)) (Ty.pair ae Ty.unit)) cmp), (4, K.ptr 0 ab []), (5, K.ptr (0 + 1) ab []), (6, K.val ae 1)] [(0, Bx.cell ab (zero ab)), (0 + 1, Bx.cell ab (el ab x 0))]))
theorem jK (x : den (Ty.slc ab)) (cmp : den (Ty.fn (Ty.pair ab (Ty.pair ab Ty.unit)) (Ty.pair ae Ty.unit))) : ay cZ gL 5000 [] be (aI aX) (Env.of (a6 gk (x, cmp, ()) 0) []) = gO x cmp := by kernel_rfl
noncomputable def ga (v0 : den (Ty.slc ab)) (v1 : den (Ty.fn (Ty.pair ab (Ty.pair ab Ty.unit)) (Ty.pair ae Ty.unit))) (v6 : den ae) (b0 : den ab) (b1 : den ab) : Env := Env.of [(0, K.val (Ty.slc ab) v0), (1, K.val (Ty.fn (Ty.pair ab (Ty.pair ab Ty.unit)) (Ty.pair ae Ty.unit)) v1), (4, K.ptr 0 ab []), (5, K.ptr (0 + 1) ab []), (6, K.val ae v6)] [(0, Bx.cell ab b0), (1, Bx.cell ab b1)]
noncomputable def jZ (v0 : den (Ty.slc ab)) (v1 : den (Ty.fn (Ty.pair ab (Ty.pair ab Ty.unit)) (Ty.pair ae Ty.unit))) (v6 : den ae) (b0 : den ab) (b1 : den ab) : af := af.ite (decide (v6 < lnx ab v0)) (af.req (inB v6 (lnx ab v0)) (af.req (nV (Ty.pair ab (Ty.pair ab Ty.unit)) (Ty.pair ae Ty.unit) v1) (af.ite (decide (Prod.fst (ss (Ty.pair ab (Ty.pair ab Ty.unit)) (Ty.pair ae Ty.unit) v1 (el ab v0 v6, b1, PUnit.unit)) < 0)) (af.req (inB v6 (lnx ab v0)) (af.loop [] be (lp aX 5) [(0, K.val (Ty.slc ab) v0), (1, K.val (Ty.fn (Ty.pair ab (Ty.pair ab Ty.unit)) (Ty.pair ae Ty.unit)) v1), (4, K.ptr 0 ab []), (5, K.ptr (0 + 1) ab []), (6, K.val ae (IntKind.wrap IntKind.i64 (v6 + 1)))] [(0, Bx.cell ab b0), (0 + 1, Bx.cell ab (el ab v0 v6))])) (af.loop [] be (lp aX 5) [(0, K.val (Ty.slc ab) v0), (1, K.val (Ty.fn (Ty.pair ab (Ty.pair ab Ty.unit)) (Ty.pair ae Ty.unit)) v1), (4, K.ptr 0 ab []), (5, K.ptr (0 + 1) ab []), (6, K.val ae (IntKind.wrap IntKind.i64 (v6 + 1)))] [(0, Bx.cell ab b0), (0 + 1, Bx.cell ab b1)])))) (af.ret (K.val (Ty.pair ab Ty.unit) (b1, PUnit.unit)))
theorem eO (v0 : den (Ty.slc ab)) (v1 : den (Ty.fn (Ty.pair ab (Ty.pair ab Ty.unit)) (Ty.pair ae Ty.unit))) (v6 : den ae) (b0 : den ab) (b1 : den ab) : ay cZ gL 5000 [] be (lp aX 5) (ga v0 v1 v6 b0 b1) = jZ v0 v1 v6 b0 b1 := by kernel_rfl
noncomputable abbrev r6 : Fx := { fn := o0, ann := { } }
noncomputable abbrev tN : bz := { D := { T := bR, F := [], R := [], ovl := [] }, inl := [] }
noncomputable abbrev zp : cV := .data sw
theorem yI : XOk prog tN := xok ((bt bA bc)) (by kernel_rfl) bX cC cD
noncomputable def tP (l : den (Ty.slc ab)) : af := af.req (bK 0 (mz (lnx ab l) 18) (lnx ab l)) (af.ret (K.val (Ty.pair (Ty.slc ab) Ty.unit) (g6 ab l 0 (mz (lnx ab l) 18), PUnit.unit)))
theorem vj (l : den (Ty.slc ab)) : ay tN zp 5000 [] r6 (aI o0) (Env.of (a6 rl (l, ()) 0) []) = tP l := by kernel_rfl
end Go.Proofs.Ytiaplhcifflibaa
namespace Go.Proofs.Ytiaplhcifflibaa
open Go Go.RowKit
abbrev Mem := den ab
abbrev iB (a : List Int) : Prop := a.length = 32 ∧ byt a
theorem w8 {x : den tId} (h : okT tId x) : iB x := jB h
def un (a b : List Int) : List Int := toB 32 ((vB a + vB b) % bq)
def pw0 : List Int := List.replicate 31 0 ++ [1]
theorem Bz : vB pw0 = 1 := by kernel_rfl
def fU (x m : Mem) : Bool := bif decide (x.1 = m.1) then true else eqb tId x.2.1 m.2.1
noncomputable abbrev gC : bN := ⟨l8, lP, fun x => (fU x.1 x.2.1, ()), fun _ => True, true⟩
theorem sJ : aM prog [] gH gC :=
 eC (S := gC) sO (fx := mq) rY (by kernel_rfl) (fun _ _ => trivial) (T := fun x => mR x.1 x.2.1) (fun x => pS x.1 x.2.1) fun O w0 x _ _ => ⟨_, rfl, rfl⟩
noncomputable abbrev gg : bN := ⟨lk, kN, fun x => (decide (x.1.1 = x.2.1), ()), fun _ => True, true⟩
theorem rH : aM prog [] gc gg :=
 eC (S := gg) sr (fx := lw) qV (by kernel_rfl) (fun _ _ => trivial) (T := fun x => lJ x.1 x.2.1) (fun x => oJ x.1 x.2.1) fun O w0 x _ _ => ⟨_, rfl, rfl⟩
noncomputable abbrev hY : bN := ⟨m9, m7, fun x => (fY (aD x.2.2.1 x.1.2.1) (aD x.2.2.1 x.2.1.2.1), ()), fun _ => True, true⟩
theorem um : aM prog [] hK hY :=
 eC (S := hY) (uf p9 lK) (fx := ni) sA (by kernel_rfl) (fun _ _ => trivial) (T := fun x => oa x.1 x.2.1 x.2.2.1) (fun x => qq x.1 x.2.1 x.2.2.1) fun O w0 x _ _ => ⟨trivial, trivial, trivial, _, rfl, rfl⟩
def prM (f : den (.fn (.pair ab .unit) (.pair .bool .unit))) (m : Mem) : Bool := (ss (.pair ab .unit) (.pair .bool .unit) f (m, ())).1
def ixP (p : Mem → Bool) : List Mem → Int → Int
 | [], _ => -1
 | x :: l, i => bif p x then i else ixP p l (i + 1)
theorem l7 (p : Mem → Bool) : ∀ (l : List Mem) (i : Int), 0 ≤ i → (l.any p = true → i ≤ ixP p l i ∧ ixP p l i < i + l.length) ∧ (l.any p = false → ixP p l i = -1)
 | [], i, _ => ⟨fun h => (by cases h), fun _ => rfl⟩
 | x :: l, i, hi => by
  obtain ⟨h1, h2⟩ := l7 p l (i + 1) (by omega)
  rw [List.any_cons, List.length_cons]
  show (_ → _ ≤ (bif p x then i else ixP p l (i + 1)) ∧ (bif p x then i else ixP p l (i + 1)) < _) ∧ (_ → (bif p x then i else ixP p l (i + 1)) = -1)
  cases p x with
  | true => exact ⟨fun _ => ⟨Int.le_refl _, by show i < _; omega⟩, fun h => (by cases h)⟩
  | false =>
   refine ⟨fun h => ?_, fun h => h2 h⟩
   have := h1 h
   exact ⟨by show i ≤ ixP p l (i + 1); omega, by show ixP p l (i + 1) < _; omega⟩
theorem AS (p : Mem → Bool) (l : List Mem) : decide (0 ≤ ixP p l 0) = l.any p := by
 obtain ⟨h1, h2⟩ := l7 p l 0 (Int.le_refl _)
 cases h : l.any p with
 | true => exact decide_eq_true (h1 h).1
 | false => rw [h2 h]; rfl
theorem y5 (p : Mem → Bool) : ∀ (l : List Mem) (i : Int), l.any p = true → ∃ k : Nat, ∃ h : k < l.length, ixP p l i = i + (k : Int) ∧ p l[k] = true
 | [], _, h => by cases h
 | x :: l, i, h => by
  show ∃ k : Nat, ∃ h : k < l.length + 1, (bif p x then i else ixP p l (i + 1)) = i + (k : Int) ∧ p (x :: l)[k] = true
  cases hx : p x with
  | true => exact ⟨0, by omega, by simp, hx⟩
  | false =>
   rw [List.any_cons, hx, Bool.false_or] at h
   obtain ⟨k, hk, h1, h2⟩ := y5 p l (i + 1) h
   exact ⟨k + 1, by omega, by show ixP p l (i + 1) = _; rw [h1]; omega, h2⟩
noncomputable abbrev bl : bN := ⟨fF, du, fun x => (ixP (prM x.2.1) x.1 0, ()), fun x => nV (.pair ab .unit) (.pair .bool .unit) x.2.1, false⟩
abbrev GIx (O : Nat → Prop) (w0 : World) (y : Int) := bS prog cH (Cx.base O w0) (c6 prog O w0 du fun z => z = (y, ()))
def u9 (O : Nat → Prop) (w0 : World) (xs : List Mem) (f : den (.fn (.pair ab .unit) (.pair .bool .unit))) (hf : nV (.pair ab .unit) (.pair .bool .unit) f) (hm : xs.length ≤ maxLen) (y : Int) (hy : y = ixP (prM f) xs 0) :=
 PLift.up <| iu (σ := Unit) xs.length (fun i _ => ixP (prM f) (xs.drop i) (i : Nat) = y)
  (fun i _ => GIx O w0 y [] bj (lp aZ 2) (ff xs f (lnx ab xs) (i : Nat)))
  (fun i _ hi hs ih => cL dA (dW xs f _ _) (by
   rw [List.drop_eq_getElem_cons hi] at hs
   have hs : (bif prM f xs[i] then ((i : Nat) : Int) else ixP (prM f) (xs.drop (i + 1)) (((i : Nat) : Int) + 1)) = y := hs
   refine ⟨fun _ => ⟨dK hi, hf, ?_⟩, fun hc => absurd hi (by rw [m8] at hc; exact of_decide_eq_false hc)⟩
   rw [fm hi, lz hi hm]
   refine ⟨fun hc => ⟨_, rfl, ?_⟩, fun hc => ih () ?_⟩
   ·have hc : prM f xs[i] = true := hc
    rw [hc] at hs
    rw [← hs]
    rfl
   ·have hc : prM f xs[i] = false := hc
    rw [hc] at hs
    exact hs))
  (fun _ hs => cL dA (dW xs f _ _) (by
   refine ⟨fun hc => absurd (of_decide_eq_true hc) (Int.lt_irrefl _), fun _ => ⟨_, rfl, ?_⟩⟩
   rw [List.drop_length] at hs
   rw [← hs]
   rfl))
theorem fW : aM prog [] bm bl :=
 eC (S := bl) dA (fx := bj) jN (by kernel_rfl) (fun h => by cases h) (T := fun x => gb x.1 x.2.1) (fun x => i7 x.1 x.2.1) fun O w0 x hk hp =>
  (u9 O w0 x.1 x.2.1 hp hk.1.1 _ rfl).down 0 () (Nat.zero_le _) rfl
def ny (k : Mem → Mem → Int) : Mem → List Mem → Mem
 | b, [] => b
 | b, x :: l => ny k (if k x b < 0 then x else b) l
def cmM (f : den (.fn (.pair ab (.pair ab .unit)) (.pair ae .unit))) (x y : Mem) : Int := (ss (.pair ab (.pair ab .unit)) (.pair ae .unit) f (x, y, ())).1
def uz (k : Mem → Mem → Int) : List Mem → Mem
 | [] => zero ab
 | b :: l => ny k b l
noncomputable abbrev cW : bN := ⟨gk, dR, fun x => (uz (cmM x.2.1) x.1, ()), fun x => nV (.pair ab (.pair ab .unit)) (.pair ae .unit) x.2.1 ∧ 0 < List.length x.1, false⟩
abbrev GMi (O : Nat → Prop) (w0 : World) (y : Mem) := bS prog cZ (Cx.base O w0) (c6 prog O w0 dR fun z => z = (y, ()))
def yh (O : Nat → Prop) (w0 : World) (xs : List Mem) (f : den (.fn (.pair ab (.pair ab .unit)) (.pair ae .unit))) (hf : nV (.pair ab (.pair ab .unit)) (.pair ae .unit) f) (hm : xs.length ≤ maxLen) (z y : Mem) :=
 PLift.up <| iu (σ := Mem) xs.length (fun i b => ny (cmM f) b (xs.drop i) = y)
  (fun i b => GMi O w0 y [] be (lp aX 5) (ga xs f (i : Nat) z b))
  (fun i b hi hs ih => cL dX (eO xs f _ z b) (by
   rw [List.drop_eq_getElem_cons hi] at hs
   have hs : ny (cmM f) (if cmM f xs[i] b < 0 then xs[i] else b) (xs.drop (i + 1)) = y := hs
   refine ⟨fun _ => ⟨dK hi, hf, ?_⟩, fun hc => absurd hi (by rw [m8] at hc; exact of_decide_eq_false hc)⟩
   rw [fm hi, lz hi hm]
   refine ⟨fun hc => ⟨dK hi, ih _ ?_⟩, fun hc => ih _ ?_⟩
   ·have hc : cmM f xs[i] b < 0 := of_decide_eq_true hc
    rw [if_pos hc] at hs
    exact hs
   ·have hc : ¬ cmM f xs[i] b < 0 := of_decide_eq_false hc
    rw [if_neg hc] at hs
    exact hs))
  (fun b hs => cL dX (eO xs f _ z b) (by
   refine ⟨fun hc => absurd (of_decide_eq_true hc) (Int.lt_irrefl _), fun _ => ⟨_, rfl, ?_⟩⟩
   rw [List.drop_length] at hs
   rw [← hs]
   rfl))
theorem lH : aM prog [] cX cW :=
 eC (S := cW) dX (fx := be) lc (by kernel_rfl) (fun h => by cases h) (T := fun x => gO x.1 x.2.1) (fun x => jK x.1 x.2.1) fun O w0 x hk hp => by
  obtain ⟨xs, f, ⟨⟩⟩ := x
  have hm : List.length xs ≤ maxLen := hk.1.1
  have h0 : 0 < List.length xs := hp.2
  refine ⟨fun hc => ?_, fun _ => ⟨dK (i := 0) h0, ?_⟩⟩
  ·exfalso
   have hc : ((xs.length : Nat) : Int) < 1 := of_decide_eq_true hc
   omega
  ·rw [show (0 : Int) = ((0 : Nat) : Int) from rfl, fm h0]
   refine (yh O w0 xs f hp.1 hm (zero ab) (uz (cmM f) xs)).down 1 _ h0 ?_
   cases xs with
   | nil => cases h0
   | cons b l => rfl
theorem xm (x y : Mem) : eqb ab x y = decide (x = y) := by
 have := kF (t := ab) rfl x y
 cases h : eqb ab x y
 ·have : ¬ x = y := fun e => by rw [this.2 e] at h; cases h
  simp [this]
 ·simp [this.1 h]
noncomputable abbrev lI : bN := ⟨rl, sw, fun x => (List.take 18 x.1, ()), fun _ => True, true⟩
theorem zD : aM prog [] lW lI :=
 eC (S := lI) yI (fx := r6) yp (by kernel_rfl) (fun _ _ => trivial) (T := fun x => tP x.1) (fun x => vj x.1) fun O w0 x _ _ => by
  obtain ⟨l, ⟨⟩⟩ := x
  have hc := BQ (e := ab) l 18
  refine ⟨hc.2, _, rfl, ?_⟩
  show (g6 ab l 0 (mz (lnx ab l) ((18 : Nat) : Int)), ()) = (List.take 18 l, ())
  rw [hc.1]
end Go.Proofs.Ytiaplhcifflibaa
namespace Go.Proofs.Ytiaplhcifflibaa
def rky (W a p : Int) : Int := if a ≤ p then p - a else p - a + W
def rup (W a : Int) : Int := if a + 1 = W then 0 else a + 1
theorem i5 {W a p : Int} (ha : 0 ≤ a ∧ a < W) (hp : 0 ≤ p ∧ p < W) : 0 ≤ rky W a p ∧ rky W a p < W := by unfold rky; split <;> omega
theorem vA {W a p q : Int} (_ : 0 ≤ a ∧ a < W) (hp : 0 ≤ p ∧ p < W) (hq : 0 ≤ q ∧ q < W) (h : rky W a p = rky W a q) : p = q := by unfold rky at h; split at h <;> split at h <;> omega
theorem sG {W a : Int} : rky W a a = 0 := by unfold rky; rw [if_pos (Int.le_refl _)]; omega
theorem sS {W a p : Int} (ha : 0 ≤ a ∧ a < W) (hp : 0 ≤ p ∧ p < W) (h : rky W a p = 0) : p = a := by unfold rky at h; split at h <;> omega
theorem uQ {W a m p : Int} (ha : 0 ≤ a ∧ a < W) (hm : 0 ≤ m ∧ m < W) (hp : 0 ≤ p ∧ p < W) : rky W m p = if rky W a m ≤ rky W a p then rky W a p - rky W a m else rky W a p - rky W a m + W := by
 unfold rky
 split <;> split <;> split <;> split <;> omega
theorem qZ {W m p : Int} (hm : 0 ≤ m ∧ m < W) (hp : 0 ≤ p ∧ p < W) : rky W (rup W m) p = if p = m then W - 1 else rky W m p - 1 := by
 unfold rky rup
 split <;> split <;> split <;> (try split) <;> omega
theorem zo {W m : Int} (hm : 0 ≤ m ∧ m < W) : 0 ≤ rup W m ∧ rup W m < W := by unfold rup; split <;> omega
section
variable {M : Type} {pos : M → Int} {W : Int}
structure uS (pos : M → Int) (W : Int) (l : List M) : Prop where
 in' : ∀ m ∈ l, 0 ≤ pos m ∧ pos m < W
 inj : ∀ x ∈ l, ∀ y ∈ l, pos x = pos y → x = y
def dY (pos : M → Int) (W a : Int) (l : List M) (m : M) : Prop := m ∈ l ∧ ∀ x ∈ l, rky W a (pos m) ≤ rky W a (pos x)
theorem dY.uniq {l : List M} (h : uS pos W l) {a : Int} (ha : 0 ≤ a ∧ a < W) {m n : M} (hm : dY pos W a l m) (hn : dY pos W a l n) : m = n :=
 h.inj m hm.1 n hn.1 (vA ha (h.in' m hm.1) (h.in' n hn.1) (Int.le_antisymm (hm.2 n hn.1) (hn.2 m hm.1)))
theorem dY.mem {l : List M} {a : Int} {m : M} (h : dY pos W a l m) : m ∈ l := h.1
theorem dY.sub {l l' : List M} {a : Int} {m : M} (h : dY pos W a l m) (hs : ∀ x ∈ l', x ∈ l) (hm : m ∈ l') : dY pos W a l' m := ⟨hm, fun x hx => h.2 x (hs x hx)⟩
def gF (k : M → Int) : M → List M → M
 | b, [] => b
 | b, x :: l => gF k (if k x < k b then x else b) l
theorem xU (k : M → Int) (b x : M) (l : List M) : gF k b (x :: l) = gF k (if k x < k b then x else b) l := rfl
theorem nP (k : M → Int) : ∀ (l : List M) (b : M), gF k b l ∈ b :: l ∧ k (gF k b l) ≤ k b ∧ ∀ x ∈ l, k (gF k b l) ≤ k x
 | [], b => ⟨List.mem_cons_self, Int.le_refl _, fun x hx => by cases hx⟩
 | x :: l, b => by
  rw [xU]
  by_cases h : k x < k b
  ·rw [if_pos h]
   obtain ⟨h1, h2, h3⟩ := nP k l x
   refine ⟨List.mem_cons_of_mem _ h1, by omega, fun y hy => ?_⟩
   rcases List.mem_cons.1 hy with rfl | hy
   ·exact h2
   ·exact h3 y hy
  ·rw [if_neg h]
   obtain ⟨h1, h2, h3⟩ := nP k l b
   refine ⟨?_, h2, fun y hy => ?_⟩
   ·rcases List.mem_cons.1 h1 with e | h'
    ·rw [e]; exact List.mem_cons_self
    ·exact List.mem_cons_of_mem _ (List.mem_cons_of_mem _ h')
   ·rcases List.mem_cons.1 hy with rfl | hy
    ·omega
    ·exact h3 y hy
structure ii (pos : M → Int) (W a : Int) (l s : List M) : Prop where
 mem : ∀ x, x ∈ s ↔ x ∈ l
 lt : s.Pairwise fun x y => rky W a (pos x) < rky W a (pos y)
theorem ii.get {a : Int} {l s : List M} (h : ii pos W a l s) {i j : Nat} (hi : i < j) (hj : j < s.length) : rky W a (pos s[i]) < rky W a (pos s[j]) := List.pairwise_iff_getElem.1 h.lt i j (by omega) hj hi
theorem ii.nodup {a : Int} {l s : List M} (h : ii pos W a l s) {i j : Nat} (hi : i < s.length) (hj : j < s.length) (e : s[i] = s[j]) : i = j := by
 rcases Nat.lt_trichotomy i j with h1 | h1 | h1
 ·have := h.get h1 hj; rw [e] at this; omega
 ·exact h1
 ·have := h.get h1 hi; rw [e] at this; omega
theorem ii.first {a : Int} {l s : List M} (h : ii pos W a l s) (h0 : 0 < s.length) : dY pos W a l s[0] :=
 ⟨(h.mem _).1 (List.getElem_mem h0), fun x hx => by
  obtain ⟨j, hj, rfl⟩ := List.getElem_of_mem ((h.mem x).2 hx)
  rcases Nat.eq_zero_or_pos j with e | e
  ·subst e; exact Int.le_refl _
  ·exact Int.le_of_lt (h.get e hj)⟩
theorem ii.next {a : Int} {l s : List M} (hl : uS pos W l) (ha : 0 ≤ a ∧ a < W) (h : ii pos W a l s) {i : Nat} (hi : i < s.length) :
    dY pos W (rup W (pos s[i])) l (s[(i + 1) % s.length]'(Nat.mod_lt _ (by omega))) := by
  have hr : ∀ j (hj : j < s.length), 0 ≤ pos s[j] ∧ pos s[j] < W := fun j hj => hl.in' _ ((h.mem _).1 (List.getElem_mem hj))
  have hn : (i + 1) % s.length < s.length := Nat.mod_lt _ (by omega)
  refine ⟨(h.mem _).1 (List.getElem_mem hn), fun x hx => ?_⟩
  obtain ⟨j, hj, rfl⟩ := List.getElem_of_mem ((h.mem x).2 hx)
  have key : ∀ k (hk : k < s.length), rky W (rup W (pos s[i])) (pos s[k]) = if k = i then W - 1 else (if i < k then rky W a (pos s[k]) - rky W a (pos s[i]) - 1 else rky W a (pos s[k]) - rky W a (pos s[i]) + W - 1) := fun k hk => by
    rw [qZ (hr i hi) (hr k hk)]
    by_cases e : k = i
    · subst e; rw [if_pos rfl, if_pos rfl]
    · have hne : ¬ pos s[k] = pos s[i] := fun hp => e (h.nodup hk hi (hl.inj _ ((h.mem _).1 (List.getElem_mem hk)) _ ((h.mem _).1 (List.getElem_mem hi)) hp))
      rw [if_neg hne, if_neg e, uQ ha (hr i hi) (hr k hk)]
      by_cases h1 : i < k
      · have := h.get h1 hk
        rw [if_pos h1, if_pos (by omega)]
      · have := h.get (show k < i by omega) hi
        rw [if_neg h1, if_neg (by omega)]
  rw [key _ hn, key j hj]
  have rg : ∀ k (hk : k < s.length), 0 ≤ rky W a (pos s[k]) ∧ rky W a (pos s[k]) < W := fun k hk => i5 ha (hr k hk)
  have ri := rg i hi
  have rj := rg j hj
  by_cases hlast : i + 1 < s.length
  · have e : (i + 1) % s.length = i + 1 := Nat.mod_eq_of_lt hlast
    simp only [e]
    rw [if_neg (by omega), if_pos (by omega)]
    have r1 := rg (i + 1) hlast
    have g1 := h.get (show i < i + 1 by omega) hlast
    by_cases e1 : j = i
    · rw [if_pos e1]; omega
    · rw [if_neg e1]
      by_cases e2 : i < j
      · rw [if_pos e2]
        rcases Nat.lt_or_ge (i + 1) j with e3 | e3
        · have := h.get e3 hj; omega
        · have : j = i + 1 := by omega
          subst this; omega
      · rw [if_neg e2]; omega
  · have e : (i + 1) % s.length = 0 := by rw [show i + 1 = s.length by omega, Nat.mod_self]
    simp only [e]
    by_cases e0 : 0 = i
    · subst e0
      have : j = 0 := by omega
      subst this
      exact Int.le_refl _
    · rw [if_neg e0, if_neg (by omega)]
      have r0 := rg 0 (by omega)
      have g0 := h.get (show 0 < i by omega) hi
      by_cases e1 : j = i
      · rw [if_pos e1]; omega
      · rw [if_neg e1, if_neg (by omega)]
        rcases Nat.eq_zero_or_pos j with e2 | e2
        · subst e2; omega
        · have := h.get e2 hj; omega
theorem ii.self {l s : List M} (hl : uS pos W l) {m : M} (hm : m ∈ l) (h : ii pos W (pos m) l s) (h0 : 0 < s.length) : s[0] = m :=
 dY.uniq hl (hl.in' m hm) (h.first h0) ⟨hm, fun x hx => by rw [sG]; exact (i5 (hl.in' m hm) (hl.in' x hx)).1⟩
theorem Aq {l : List M} (hl : uS pos W l) {b m : M} {a : Int} (ha : 0 ≤ a ∧ a < W) (hb : b ∈ l) (hn : dY pos W (rup W (pos b)) l m) (hne : ¬ b = m) : (0 < rky W (pos b) a ∧ rky W (pos b) a ≤ rky W (pos b) (pos m)) ↔ dY pos W a l m := by
 have rb := hl.in' b hb
 have rm := hl.in' m hn.1
 have hpm : ¬ pos m = pos b := fun e => hne (hl.inj b hb m hn.1 e.symm)
 have am := qZ rb rm
 rw [if_neg hpm] at am
 have hmin : ∀ x ∈ l, ¬ pos x = pos b → rky W (pos b) (pos m) ≤ rky W (pos b) (pos x) := fun x hx hxb => by
  have h1 := hn.2 x hx
  rw [am, qZ rb (hl.in' x hx), if_neg hxb] at h1
  omega
 have sh : ∀ x ∈ l, rky W a (pos x) = if rky W (pos b) a ≤ rky W (pos b) (pos x) then rky W (pos b) (pos x) - rky W (pos b) a else rky W (pos b) (pos x) - rky W (pos b) a + W := fun x hx => uQ rb ha (hl.in' x hx)
 have hbb : rky W (pos b) (pos b) = 0 := sG
 have ra := i5 rb ha
 have rm2 := i5 rb rm
 constructor
 ·rintro ⟨h1, h2⟩
  refine ⟨hn.1, fun x hx => ?_⟩
  rw [sh m hn.1, sh x hx, if_pos h2]
  by_cases hxb : pos x = pos b
  ·rw [hxb, hbb, if_neg (by omega)]; omega
  ·have := hmin x hx hxb
   rw [if_pos (by omega)]; omega
 ·intro h
  have h1 := h.2 b hb
  rw [sh m hn.1, sh b hb, hbb] at h1
  by_cases h0 : rky W (pos b) a = 0
  ·rw [h0, if_pos rm2.1, if_pos (Int.le_refl _)] at h1
   have : rky W (pos b) (pos m) = 0 := by omega
   exact absurd (sS rb rm this) hpm
  ·refine ⟨by omega, ?_⟩
   rcases Int.lt_or_le (rky W (pos b) (pos m)) (rky W (pos b) a) with h2 | h2
   ·rw [if_neg (by omega), if_neg (by omega)] at h1
    have : rky W (pos b) (pos m) = 0 := by omega
    exact absurd (sS rb rm this) hpm
   ·exact h2
end
end Go.Proofs.Ytiaplhcifflibaa
namespace Go.Proofs
open Go.Shelf
def Try.sortMember_ren : Go.Shelf.Ren := ⟨fun | 6 => 36 | 15 => 48 | 14 => 47 | 28 => 58 | 29 => 59 | 20 => 50 | 21 => 51 | 22 => 52 | 23 => 53 | 24 => 54 | 25 => 55 | 26 => 56 | 27 => 57 | 46 => 61 | 47 => 62 | 48 => 63 | 49 => 64 | 50 => 65 | 57 => 66 | n => n, fun | 22 => 22 | 24 => 30 | 25 => 52 | 3 => 3 | 39 => 71 | 0 => 0 | 53 => 82 | 55 => 84 | 4 => 4 | 46 => 75 | 45 => 74 | 50 => 79 | 5 => 5 | 9 => 9 | 66 => 86 | 70 => 90 | 76 => 92 | 77 => 93 | n => n, fun | n => n⟩
theorem Try.sortMember : Go.Proofs.SlLaysF0.n6 Try.prog Try.sortMember_ren := {
 mixed := by kernel_rfl
 f6 := ⟨Try.f36.name, by decide, Try.func36.trans (congrArg some (by kernel_rfl))⟩
 f14 := ⟨Try.f47.name, by decide, Try.func47.trans (congrArg some (by kernel_rfl))⟩
 f15 := Try.func48.trans (congrArg some (by kernel_rfl))
 f20 := ⟨Try.f50.name, by decide, Try.func50.trans (congrArg some (by kernel_rfl))⟩
 f21 := ⟨Try.f51.name, by decide, Try.func51.trans (congrArg some (by kernel_rfl))⟩
 f22 := ⟨Try.f52.name, by decide, Try.func52.trans (congrArg some (by kernel_rfl))⟩
 f23 := ⟨Try.f53.name, by decide, Try.func53.trans (congrArg some (by kernel_rfl))⟩
 f24 := ⟨Try.f54.name, by decide, Try.func54.trans (congrArg some (by kernel_rfl))⟩
 f25 := ⟨Try.f55.name, by decide, Try.func55.trans (congrArg some (by kernel_rfl))⟩
 f26 := ⟨Try.f56.name, by decide, Try.func56.trans (congrArg some (by kernel_rfl))⟩
 f27 := ⟨Try.f57.name, by decide, Try.func57.trans (congrArg some (by kernel_rfl))⟩
 f28 := Try.func58.trans (congrArg some (by kernel_rfl))
 f29 := Try.func59.trans (congrArg some (by kernel_rfl))
 f46 := ⟨Try.f61.name, by decide, Try.func61.trans (congrArg some (by kernel_rfl))⟩
 f47 := Try.func62.trans (congrArg some (by kernel_rfl))
 f48 := Try.func63.trans (congrArg some (by kernel_rfl))
 f49 := ⟨Try.f64.name, by decide, Try.func64.trans (congrArg some (by kernel_rfl))⟩
 f50 := ⟨Try.f65.name, by decide, Try.func65.trans (congrArg some (by kernel_rfl))⟩
 f57 := ⟨Try.f66.name, by decide, Try.func66.trans (congrArg some (by kernel_rfl))⟩
 t0 := Try.underlying0
 a0 := Try.isAgg0
 z0 := Try.sizeOf0
 v0 := Try.zeroValue0
 t3 := Try.underlying3
 a3 := Try.isAgg3
 z3 := Try.sizeOf3
 v3 := Try.zeroValue3
 t4 := Try.underlying4
 a4 := Try.isAgg4
 z4 := Try.sizeOf4
 v4 := Try.zeroValue4
 t5 := Try.underlying5
 a5 := Try.isAgg5
 z5 := Try.sizeOf5
 v5 := Try.zeroValue5
 t9 := Try.underlying9
 a9 := Try.isAgg9
 z9 := Try.sizeOf9
 v9 := Try.zeroValue9
 t22 := Try.underlying22
 a22 := Try.isAgg22
 z22 := Try.sizeOf22
 v22 := Try.zeroValue22
 t25 := Try.underlying52
 a25 := Try.isAgg52
 z25 := Try.sizeOf52
 v25 := Try.zeroValue52
 t39 := Try.underlying71
 a39 := Try.isAgg71
 z39 := Try.sizeOf71
 v39 := Try.zeroValue71
 t45 := Try.underlying74
 a45 := Try.isAgg74
 z45 := Try.sizeOf74
 v45 := Try.zeroValue74
 t46 := Try.underlying75
 a46 := Try.isAgg75
 z46 := Try.sizeOf75
 v46 := Try.zeroValue75
 t50 := Try.underlying79
 a50 := Try.isAgg79
 z50 := Try.sizeOf79
 v50 := Try.zeroValue79
 t53 := Try.underlying82
 a53 := Try.isAgg82
 z53 := Try.sizeOf82
 v53 := Try.zeroValue82
 t55 := Try.underlying84
 a55 := Try.isAgg84
 z55 := Try.sizeOf84
 v55 := Try.zeroValue84
 t66 := Try.underlying86
 a66 := Try.isAgg86
 z66 := Try.sizeOf86
 v66 := Try.zeroValue86
 t70 := Try.underlying90
 a70 := Try.isAgg90
 z70 := Try.sizeOf90
 v70 := Try.zeroValue90
 t76 := Try.underlying92
 a76 := Try.isAgg92
 z76 := Try.sizeOf92
 v76 := Try.zeroValue92
 t77 := Try.underlying93
 a77 := Try.isAgg93
 z77 := Try.sizeOf93
 v77 := Try.zeroValue93 }
theorem Try.sortMember_none (p : Option Addr) (cap : Nat) (fv : Value) (w : World) :
    Calls Try.prog 36 #[.slice p 0 cap, fv] w fun e w' => e = .returned (.tuple #[]) ∧ w' = w := AnyF.slices_SortFunc_none Try.sortMember p cap fv w
end Go.Proofs
namespace Go.Proofs.Ytiaplhcifflibaa
open Go Go.RowKit
@[reducible] def dQ : d9 := AA ab
theorem jH : kg prog [] cK dQ :=
 Ac (e := ab) rfl rfl (jn kz (by kernel_rfl) (by kernel_rfl)) (fun p cap fv w => Try.sortMember_none p cap fv w) fun enc hk h1 cf hO g cb blk off cap d w eg hcmp hH hblk hsz hT =>
  Go.Proofs.AnyQ.slices_SortFunc_total Try.sortMember 33 (fun w => (gG bA (show List.lookup (Try.sortMember_ren.t 24) bR = some ab by kernel_rfl)).isAgg w) (fun w => (gG bA (show List.lookup (Try.sortMember_ren.t 24) bR = some ab by kernel_rfl)).sizeOf w) enc hk h1 cf hO g cb blk off cap d w eg hcmp hH hblk hsz hT
abbrev BA : Ty := .clo dH (.pair (.ref (.slc ab)) .unit)
abbrev gx : Ty := .pair BA .unit
noncomputable abbrev c9 : bN := ⟨gQ, gx, fun x => ((x.1, ()), ()), fun _ => True, false⟩
abbrev eV : Ty := .pair BA (.pair (lO ab) .unit)
noncomputable abbrev cw : bN := ⟨eV, dh, fun x => (dc ab x.2.1 x.1.1, ()), fun x => eY ab x.2.1 x.1.1, false⟩
def br (id : List Int) : den (lO ab) := some fun y => (fY (aD id y.1.2.1) (aD id y.2.1.2.1), ())
noncomputable abbrev fK : bN := ⟨oy, px, fun x => (br x.1, ()), fun _ => True, true⟩
noncomputable abbrev cj : bN := ⟨eQ, eN, fun x => (x.1.any (prM x.2.1), ()), fun x => nV (.pair ab .unit) (.pair .bool .unit) x.2.1, false⟩
def oK : List Mem → List Mem → Bool
 | _, [] => true
 | pre, m :: l => (!(pre.any fun x => fU x m)) && decide (0 ≤ m.1) && decide (m.1 < 16) && oK (pre ++ [m]) l
def aA (l : List Mem) : Bool := oK [] l && decide (l.length ≤ 16)
noncomputable abbrev cr : bN := ⟨ob, jY, fun x => (aA x.1, ()), fun _ => True, true⟩
def cp (l : List Mem) (id : List Int) : Mem × Int := bif !aA l then (zero ab, 1) else bif decide (lnx ab l = 0) then (zero ab, 6) else (uz (cmM (br id)) l, 0)
noncomputable abbrev dL : bN := ⟨n5, jL, fun x => ((cp x.1 x.2.1).1, (cp x.1 x.2.1).2, ()), fun _ => True, true⟩
def gR (l : List Mem) (no : Int) : Int := ixP (fun m => decide (m.1 = no)) l 0
def aC (l : List Mem) (no : Int) : List Mem × Int := bif !aA l then ([], 1) else bif decide (gR l no < 0) then ([], 6) else (dc ab (br (el ab l (gR l no)).2.1) l, 0)
noncomputable abbrev dv : bN := ⟨nd, iW, fun x => ((aC x.1 x.2.1).1, (aC x.1 x.2.1).2, ()), fun _ => True, true⟩
def mM (all : List Mem) : Nat → List Mem
 | 0 => []
 | i + 1 => mM all i ++ [el ab all (Int.tmod ((i : Int) + 1) all.length)]
def cQ (l : List Mem) (no many : Int) : List Mem × Int := bif (bif decide (many < 0) then true else decide (16 < many)) then ([], 1) else bif !decide ((aC l no).2 = 0) then ([], (aC l no).2) else (mM (aC l no).1 many.toNat, 0)
noncomputable abbrev gn : bN := ⟨nY, fA, fun x => ((cQ x.1 x.2.1 x.2.2.1).1, (cQ x.1 x.2.1 x.2.2.1).2, ()), fun _ => True, true⟩
def cn (l : List Mem) (no : Int) : Mem × Int := bif !decide ((aC l no).2 = 0) then (zero ab, (aC l no).2) else (el ab (aC l no).1 ((aC l no).1.length - 1), 0)
noncomputable abbrev fE : bN := ⟨nm, ji, fun x => ((cn x.1 x.2.1).1, (cn x.1 x.2.1).2, ()), fun _ => True, true⟩
def noM : Mem := (-1, zero (Ty.pair tId Ty.unit))
def mG (id : List Int) (b m : Mem) : Mem := bif (bif decide (b.1 < 0) then true else decide (fY (aD id m.2.1) (aD id b.2.1) < 0)) then m else b
def vD (l : List Mem) (id : List Int) : Mem := l.foldl (mG id) noM
def cP (l : List Mem) (m : Mem) : Mem := vD l (un m.2.1 pw0)
def o7 (l : List Mem) : Mem → Nat → List Mem × Mem
 | m, 0 => ([], m)
 | m, i + 1 => ((o7 l m i).1 ++ [cP l (o7 l m i).2], cP l (o7 l m i).2)
noncomputable abbrev jq : bN := ⟨pe, oD, fun _ => (true, ()), fun _ => True, true⟩
end Go.Proofs.Ytiaplhcifflibaa
namespace Go.Proofs.Ytiaplhcifflibaa
open Go Go.RowKit
noncomputable abbrev eP : Fx := { fn := c5, ann := { } }
noncomputable abbrev eW : bz := { D := { T := bR, F := [(bm, bl)], R := [], ovl := [] }, inl := [] }
noncomputable abbrev jg : cV := .data eN
theorem iV (h_slices_IndexFunc_Member : aM prog [] bm bl) : XOk prog eW := xok (aS (bt bA bc) h_slices_IndexFunc_Member) (by kernel_rfl) bX cC cD
noncomputable def fc (s : den (Ty.slc ab)) (f : den (Ty.fn (Ty.pair ab Ty.unit) (Ty.pair Ty.bool Ty.unit))) : af := af.req (∃ (h : den (Ty.pair ab Ty.unit) → den (Ty.pair Ty.bool Ty.unit)), f = some h) (af.ret (K.val (Ty.pair Ty.bool Ty.unit) (decide (0 ≤ ixP (prM f) s 0), PUnit.unit)))
theorem iw (s : den (Ty.slc ab)) (f : den (Ty.fn (Ty.pair ab Ty.unit) (Ty.pair Ty.bool Ty.unit))) : ay eW jg 5000 [] eP (aI c5) (Env.of (a6 eQ (s, f, ()) 0) []) = fc s f := by kernel_rfl
noncomputable abbrev gP : Fx := { fn := eH, ann := { frz := [(1, [1])] } }
noncomputable abbrev gV : bz := { D := { T := bR, F := [], R := [], ovl := [] }, inl := [] }
noncomputable abbrev mN : cV := .data gx
theorem mB : XOk prog gV := xok ((bt bA bc)) (by kernel_rfl) bX cC cD
noncomputable def gY (s : den (Ty.slc ab)) : af := af.ret (K.val (Ty.pair (Ty.clo 37 (Ty.pair (Ty.ref (Ty.slc ab)) Ty.unit)) Ty.unit) ((s, PUnit.unit), PUnit.unit))
theorem ku (s : den (Ty.slc ab)) : ay gV mN 5000 [] gP (aI eH) (Env.of (a6 gQ (s, ()) 0) []) = gY s := by kernel_rfl
noncomputable abbrev oS : Fx := { fn := mD, ann := { frz := [(1, [1])] } }
noncomputable abbrev qg : bz := { D := { T := bR, F := [(hK, hY)], R := [], ovl := [] }, inl := [] }
noncomputable abbrev wW : cV := .data px
theorem wg (h_ring_from_1 : aM prog [] hK hY) : XOk prog qg := xok (aS (bt bA bc) h_ring_from_1) (by kernel_rfl) bX cC cD
noncomputable def p8 (id : den tId) : af := af.req (∀ (y : den (Ty.pair ab (Ty.pair ab Ty.unit))), True) (af.ret (K.val (Ty.pair (Ty.fn (Ty.pair ab (Ty.pair ab Ty.unit)) (Ty.pair ae Ty.unit)) Ty.unit) (some fun (y : den (Ty.pair ab (Ty.pair ab Ty.unit))) ↦ (fY (aD id (Prod.fst (Prod.snd (Prod.fst y)))) (aD id (Prod.fst (Prod.snd (Prod.fst (Prod.snd y))))), PUnit.unit), PUnit.unit)))
theorem sD (id : den tId) : ay qg wW 5000 [] oS (aI mD) (Env.of (a6 oy (id, ()) 0) []) = p8 id := by kernel_rfl
noncomputable abbrev d2 : Fx := { fn := dO, ann := { loops := [(2, { keep := [0, 6, 7, 8] })], frz := [(4, [4])] } }
noncomputable abbrev gq : bz := { D := { T := bR, F := [(ci, cj), (gH, gC)], R := [], ovl := [] }, inl := [] }
noncomputable abbrev oE : cV := .data jY
theorem vI (h_slices_ContainsFunc_Member : aM prog [] ci cj) (h_ring_Right_1 : aM prog [] gH gC) : XOk prog gq := xok (aS (aS (bt bA bc) h_ring_Right_1) h_slices_ContainsFunc_Member) (by kernel_rfl) bX cC cD
noncomputable def pl (l : den (Ty.slc ab)) : af := af.loop [] d2 (lp dO 2) [(0, K.val (Ty.slc ab) l), (6, K.val (Ty.slc ab) l), (7, K.val ae (lnx ab l)), (8, K.val ae 0)] []
theorem se (l : den (Ty.slc ab)) : ay gq oE 5000 [] d2 (aI dO) (Env.of (a6 ob (l, ()) 0) []) = pl l := by kernel_rfl
noncomputable def nh (v0 : den (Ty.slc ab)) (v6 : den (Ty.slc ab)) (v7 : den ae) (v8 : den ae) : Env := Env.of [(0, K.val (Ty.slc ab) v0), (6, K.val (Ty.slc ab) v6), (7, K.val ae v7), (8, K.val ae v8)] []
noncomputable def rS (v0 : den (Ty.slc ab)) (v6 : den (Ty.slc ab)) (v7 : den ae) (v8 : den ae) : af := af.ite (decide (v8 < v7)) (af.req (inB v8 (lnx ab v6)) (af.req (bK 0 v8 (lnx ab v0)) (af.req (∀ (y : den (Ty.pair ab Ty.unit)), True) (af.req (∃ (h : den (Ty.pair ab Ty.unit) → den (Ty.pair Ty.bool Ty.unit)), (some fun (y : den (Ty.pair ab Ty.unit)) ↦ (fU (Prod.fst y) (el ab v6 v8), PUnit.unit)) = some h) (af.ite (bif bif List.any (g6 ab v0 0 v8) (prM (some fun (y : den (Ty.pair ab Ty.unit)) ↦ (fU (Prod.fst y) (el ab v6 v8), PUnit.unit))) then true else decide (Prod.fst (el ab v6 v8) < 0) then true else decide (16 ≤ Prod.fst (el ab v6 v8))) (af.ret (K.val (Ty.pair Ty.bool Ty.unit) (false, PUnit.unit))) (af.loop [] d2 (lp dO 2) [(0, K.val (Ty.slc ab) v0), (6, K.val (Ty.slc ab) v6), (7, K.val ae v7), (8, K.val ae (IntKind.wrap IntKind.i64 (v8 + 1)))] [])))))) (af.ret (K.val (Ty.pair Ty.bool Ty.unit) (decide (lnx ab v0 ≤ 16), PUnit.unit)))
theorem ju (v0 : den (Ty.slc ab)) (v6 : den (Ty.slc ab)) (v7 : den ae) (v8 : den ae) : ay gq oE 5000 [] d2 (lp dO 2) (nh v0 v6 v7 v8) = rS v0 v6 v7 v8 := by kernel_rfl
noncomputable abbrev oc : Fx := { fn := lg, ann := { } }
noncomputable abbrev ox : bz := { D := { T := bR, F := [(cq, cr), (fM, fK), (cX, cW)], R := [], ovl := [] }, inl := [] }
noncomputable abbrev wb : cV := .data jL
theorem uF (h_ring_Right : aM prog [] cq cr) (h_ring_from : aM prog [] fM fK) (h_slices_MinFunc_Member : aM prog [] cX cW) : XOk prog ox := xok (aS (aS (aS (bt bA bc) h_slices_MinFunc_Member) h_ring_from) h_ring_Right) (by kernel_rfl) bX cC cD
noncomputable def o3 (l : den (Ty.slc ab)) (id : den tId) : af := af.req True (af.ite (!aA l) (af.ret (K.val (Ty.pair ab (Ty.pair ae Ty.unit)) (zero (Ty.pair ae (Ty.pair tId Ty.unit)), 1, PUnit.unit))) (af.ite (decide (lnx ab l = 0)) (af.ret (K.val (Ty.pair ab (Ty.pair ae Ty.unit)) (zero (Ty.pair ae (Ty.pair tId Ty.unit)), 6, PUnit.unit))) (af.req True (af.req ((∃ (h : den (Ty.pair ab (Ty.pair ab Ty.unit)) → den (Ty.pair ae Ty.unit)), br id = some h) ∧ 0 < List.length l) (af.ret (K.val (Ty.pair ab (Ty.pair ae Ty.unit)) (uz (cmM (br id)) l, 0, PUnit.unit)))))))
theorem rQ (l : den (Ty.slc ab)) (id : den tId) : ay ox wb 5000 [] oc (aI lg) (Env.of (a6 n5 (l, id, ()) 0) []) = o3 l id := by kernel_rfl
noncomputable abbrev np : Fx := { fn := jJ, ann := { frz := [(3, [3])] } }
noncomputable abbrev oh : bz := { D := { T := bR, F := [(cq, cr), (bm, bl), (gc, gg), (c8, c9), (fM, fK), (cv, cw)], R := [], ovl := [] }, inl := [] }
noncomputable abbrev ub : cV := .data iW
theorem ud (h_ring_Right : aM prog [] cq cr) (h_slices_IndexFunc_Member : aM prog [] bm bl) (h_ring_turned_1 : aM prog [] gc gg) (h_slices_Values_Member : aM prog [] c8 c9) (h_ring_from : aM prog [] fM fK) (h_slices_SortedFunc_Member : aM prog [] cv cw) : XOk prog oh := xok (aS (aS (aS (aS (aS (aS (bt bA bc) h_slices_SortedFunc_Member) h_ring_from) h_slices_Values_Member) h_ring_turned_1) h_slices_IndexFunc_Member) h_ring_Right) (by kernel_rfl) bX cC cD
noncomputable def og (l : den (Ty.slc ab)) (no : den ae) : af := af.req True (af.ite (!aA l) (af.ret (K.val (Ty.pair (Ty.slc ab) (Ty.pair ae Ty.unit)) ([], 1, PUnit.unit))) (af.req (∀ (y : den (Ty.pair ab Ty.unit)), True) (af.req (∃ (h : den (Ty.pair ab Ty.unit) → den (Ty.pair Ty.bool Ty.unit)), (some fun (y : den (Ty.pair ab Ty.unit)) ↦ (decide (Prod.fst (Prod.fst y) = no), PUnit.unit)) = some h) (af.ite (decide (ixP (prM (some fun (y : den (Ty.pair ab Ty.unit)) ↦ (decide (Prod.fst (Prod.fst y) = no), PUnit.unit))) l 0 < 0)) (af.ret (K.val (Ty.pair (Ty.slc ab) (Ty.pair ae Ty.unit)) ([], 6, PUnit.unit))) (af.req True (af.req (inB (ixP (prM (some fun (y : den (Ty.pair ab Ty.unit)) ↦ (decide (Prod.fst (Prod.fst y) = no), PUnit.unit))) l 0) (lnx ab l)) (af.req True (af.req (eY ab (br (Prod.fst (Prod.snd (el ab l (ixP (prM (some fun (y : den (Ty.pair ab Ty.unit)) ↦ (decide (Prod.fst (Prod.fst y) = no), PUnit.unit))) l 0))))) l) (af.ret (K.val (Ty.pair (Ty.slc ab) (Ty.pair ae Ty.unit)) (dc ab (br (Prod.fst (Prod.snd (el ab l (ixP (prM (some fun (y : den (Ty.pair ab Ty.unit)) ↦ (decide (Prod.fst (Prod.fst y) = no), PUnit.unit))) l 0))))) l, 0, PUnit.unit)))))))))))
theorem qo (l : den (Ty.slc ab)) (no : den ae) : ay oh ub 5000 [] np (aI jJ) (Env.of (a6 nd (l, no, ()) 0) []) = og l no := by kernel_rfl
noncomputable abbrev d3 : Fx := { fn := dI, ann := { loops := [(8, { keep := [8, 10, 27, 28], own := [(10, ab)] })] }, share := true }
noncomputable abbrev iQ : bz := { D := { T := bR, F := [(d4, dv)], R := [], ovl := [] }, inl := [] }
noncomputable abbrev oV : cV := .data fA
theorem lr (h_ring_turned : aM prog [] d4 dv) : XOk prog iQ := xok (aS (bt bA bc) h_ring_turned) (by kernel_rfl) bX cC cD
noncomputable def o6 (l : den (Ty.slc ab)) (no : den ae) (many : den ae) : af := af.ite (bif decide (many < 0) then true else decide (16 < many)) (af.ret (K.val (Ty.pair (Ty.slc ab) (Ty.pair ae Ty.unit)) ([], 1, PUnit.unit))) (af.req True (af.all (den (Ty.pair (Ty.slc ab) (Ty.pair ae Ty.unit))) (fun (q3 : den (Ty.pair (Ty.slc ab) (Ty.pair ae Ty.unit))) ↦ q3 = (Prod.fst (aC l no), Prod.snd (aC l no), PUnit.unit)) fun (q3 : den (Ty.pair (Ty.slc ab) (Ty.pair ae Ty.unit))) ↦ af.ite (!decide (Prod.fst (Prod.snd q3) = 0)) (af.ret (K.val (Ty.pair (Ty.slc ab) (Ty.pair ae Ty.unit)) ([], Prod.fst (Prod.snd q3), PUnit.unit))) (af.loop [] d3 (lp dI 8) [(8, K.val (Ty.slc ab) (Prod.fst q3)), (10, K.sl 0 ab), (27, K.val ae many), (28, K.val ae 0)] [(0, Bx.row ab [])])))
theorem sk (l : den (Ty.slc ab)) (no : den ae) (many : den ae) : ay iQ oV 5000 [] d3 (aI dI) (Env.of (a6 nY (l, no, many, ()) 0) []) = o6 l no many := by kernel_rfl
noncomputable def mQ (v8 : den (Ty.slc ab)) (v27 : den ae) (v28 : den ae) (b0 : List (den ab)) : Env := Env.of [(8, K.val (Ty.slc ab) v8), (10, K.sl 0 ab), (27, K.val ae v27), (28, K.val ae v28)] [(0, Bx.row ab b0)]
noncomputable def rU (v8 : den (Ty.slc ab)) (v27 : den ae) (v28 : den ae) (b0 : List (den ab)) : af := af.ite (decide (v28 < v27)) (af.req (nz (lnx ab v8)) (af.req (inB (Int.tmod (IntKind.wrap IntKind.i64 (v28 + 1)) (lnx ab v8)) (lnx ab v8)) (af.req (List.length (b0 ++ List.set (List.replicate 1 (zero ab)) 0 (el ab v8 (Int.tmod (IntKind.wrap IntKind.i64 (v28 + 1)) (lnx ab v8)))) ≤ cM) (af.loop [] d3 (lp dI 8) [(8, K.val (Ty.slc ab) v8), (10, K.sl 0 ab), (27, K.val ae v27), (28, K.val ae (IntKind.wrap IntKind.i64 (v28 + 1)))] [(0, Bx.row ab (b0 ++ List.set (List.replicate 1 (zero ab)) 0 (el ab v8 (Int.tmod (IntKind.wrap IntKind.i64 (v28 + 1)) (lnx ab v8)))))])))) (af.ret (K.val (Ty.pair (Ty.slc ab) (Ty.pair ae Ty.unit)) (b0, 0, PUnit.unit)))
theorem jE (v8 : den (Ty.slc ab)) (v27 : den ae) (v28 : den ae) (b0 : List (den ab)) : ay iQ oV 5000 [] d3 (lp dI 8) (mQ v8 v27 v28 b0) = rU v8 v27 v28 b0 := by kernel_rfl
noncomputable abbrev mU : Fx := { fn := jX, ann := { }, share := true }
noncomputable abbrev nZ : bz := { D := { T := bR, F := [(d4, dv)], R := [], ovl := [] }, inl := [] }
noncomputable abbrev ua : cV := .data ji
theorem uj (h_ring_turned : aM prog [] d4 dv) : XOk prog nZ := xok (aS (bt bA bc) h_ring_turned) (by kernel_rfl) bX cC cD
noncomputable def n1 (l : den (Ty.slc ab)) (no : den ae) : af := af.req True (af.all (den (Ty.pair (Ty.slc ab) (Ty.pair ae Ty.unit))) (fun (q2 : den (Ty.pair (Ty.slc ab) (Ty.pair ae Ty.unit))) ↦ q2 = (Prod.fst (aC l no), Prod.snd (aC l no), PUnit.unit)) fun (q2 : den (Ty.pair (Ty.slc ab) (Ty.pair ae Ty.unit))) ↦ af.ite (!decide (Prod.fst (Prod.snd q2) = 0)) (af.ret (K.val (Ty.pair ab (Ty.pair ae Ty.unit)) (zero (Ty.pair ae (Ty.pair tId Ty.unit)), Prod.fst (Prod.snd q2), PUnit.unit))) (af.req (inB (IntKind.wrap IntKind.i64 (lnx ab (Prod.fst q2) - 1)) (lnx ab (Prod.fst q2))) (af.ret (K.val (Ty.pair ab (Ty.pair ae Ty.unit)) (el ab (Prod.fst q2) (IntKind.wrap IntKind.i64 (lnx ab (Prod.fst q2) - 1)), 0, PUnit.unit)))))
theorem qR (l : den (Ty.slc ab)) (no : den ae) : ay nZ ua 5000 [] mU (aI jX) (Env.of (a6 nm (l, no, ()) 0) []) = n1 l no := by kernel_rfl
noncomputable abbrev bu : Fx := { fn := bf, ann := { } }
noncomputable abbrev bh : Fx := { fn := ai, ann := { }, own := [2] }
noncomputable abbrev aY : Fx := { fn := aV, ann := { loops := [(1, { keep := [0, 5, 6, 7] })], frz := [(1000001, [2]), (3000001, [1])] } }
noncomputable abbrev aU : Fx := { fn := aQ, ann := { } }
noncomputable abbrev bg : bz := { D := { T := bR, F := [], R := [(cK, dQ)], ovl := [] }, inl := [(gM, bu), (f9, bh), (dH, aY)] }
noncomputable abbrev dw : cV := .data dh
theorem jV (h_slices_SortFunc_Member : kg prog [] cK dQ) : XOk prog bg := xok ((bt bA bc)) (by kernel_rfl) (Aa h_slices_SortFunc_Member bX) (sZ kM (by kernel_rfl) (sZ jU (by kernel_rfl) (sZ ka (by kernel_rfl) cC))) cD
noncomputable def fH (seq : den (Ty.clo 37 (Ty.pair (Ty.ref (Ty.slc ab)) Ty.unit))) (cmp : den (Ty.fn (Ty.pair ab (Ty.pair ab Ty.unit)) (Ty.pair ae Ty.unit))) : af := af.loop [{ fx := bh, todo := iF ai 3, dst := none, s := ofS [(2, K.ptr (0 + 1) (Ty.slc ab) [])], rng := some 0 }, { fx := bu, todo := fP bf 1 1, dst := some 4, s := ofS [] }, { fx := aU, todo := fP aQ 1 1, dst := some 7, s := ofS [(1, K.val (Ty.fn (Ty.pair ab (Ty.pair ab Ty.unit)) (Ty.pair ae Ty.unit)) cmp)] }] aY (lp aV 1) [(0, K.yld 0), (5, K.val (Ty.slc ab) (Prod.fst seq)), (6, K.val ae (lnx ab (Prod.fst seq))), (7, K.val ae 0)] [(0, Bx.lop LoopState.ready none [(2, K.ptr (0 + 1) (Ty.slc ab) [])] 13 (vu ai 3) (k8 ai 3) (oQ ai 3)), (0 + 1, Bx.obj (Ty.slc ab) K.nilsl)]
theorem iS (seq : den (Ty.clo 37 (Ty.pair (Ty.ref (Ty.slc ab)) Ty.unit))) (cmp : den (Ty.fn (Ty.pair ab (Ty.pair ab Ty.unit)) (Ty.pair ae Ty.unit))) : ay bg dw 5000 [] aU (aI aQ) (Env.of (a6 eV (seq, cmp, ()) 0) []) = fH seq cmp := by kernel_rfl
noncomputable def dz (w2_1 : den (Ty.fn (Ty.pair ab (Ty.pair ab Ty.unit)) (Ty.pair ae Ty.unit))) (v5 : den (Ty.slc ab)) (v6 : den ae) (v7 : den ae) : List bv := [{ fx := bh, todo := iF ai 3, dst := none, s := ofS [(2, K.ptr (0 + 1) (Ty.slc ab) [])], rng := some 0 }, { fx := bu, todo := fP bf 1 1, dst := some 4, s := ofS [] }, { fx := aU, todo := fP aQ 1 1, dst := some 7, s := ofS [(1, K.val (Ty.fn (Ty.pair ab (Ty.pair ab Ty.unit)) (Ty.pair ae Ty.unit)) w2_1)] }]
noncomputable def dx (w2_1 : den (Ty.fn (Ty.pair ab (Ty.pair ab Ty.unit)) (Ty.pair ae Ty.unit))) (v5 : den (Ty.slc ab)) (v6 : den ae) (v7 : den ae) : Env := Env.of [(0, K.yld 0), (5, K.val (Ty.slc ab) v5), (6, K.val ae v6), (7, K.val ae v7)] [(0, Bx.lop LoopState.ready none [(2, K.ptr (0 + 1) (Ty.slc ab) [])] 13 (vu ai 3) (k8 ai 3) (oQ ai 3)), (1, Bx.obj (Ty.slc ab) K.nilsl)]
noncomputable def dt (w2_1 : den (Ty.fn (Ty.pair ab (Ty.pair ab Ty.unit)) (Ty.pair ae Ty.unit))) (v5 : den (Ty.slc ab)) (v6 : den ae) (v7 : den ae) : af := af.ite (decide (v7 < v6)) (af.req (inB v7 (lnx ab v5)) (af.req (List.length (List.set (List.replicate 1 (zero ab)) 0 (el ab v5 v7)) ≤ cM) (af.ite (!true) (af.req (eY ab w2_1 (List.set (List.replicate 1 (zero ab)) 0 (el ab v5 v7))) (af.ret (K.val (Ty.pair (Ty.slc ab) Ty.unit) (dc ab w2_1 (List.set (List.replicate 1 (zero ab)) 0 (el ab v5 v7)), PUnit.unit)))) (af.loop [{ fx := bh, todo := iF ai 3, dst := none, s := ofS [(2, K.ptr (0 + 1) (Ty.slc ab) [])], rng := some 0 }, { fx := bu, todo := fP bf 1 1, dst := some 4, s := ofS [] }, { fx := aU, todo := fP aQ 1 1, dst := some 7, s := ofS [(1, K.val (Ty.fn (Ty.pair ab (Ty.pair ab Ty.unit)) (Ty.pair ae Ty.unit)) w2_1)] }] aY (lp aV 1) [(0, K.yld 0), (5, K.val (Ty.slc ab) v5), (6, K.val ae v6), (7, K.val ae (IntKind.wrap IntKind.i64 (v7 + 1)))] [(0, Bx.lop LoopState.ready none [(2, K.ptr (0 + 1) (Ty.slc ab) [])] 13 (vu ai 3) (k8 ai 3) (oQ ai 3)), (0 + 1, Bx.obj (Ty.slc ab) (K.sl (0 + 1 + 1) ab)), (0 + 1 + 1, Bx.row ab (List.set (List.replicate 1 (zero ab)) 0 (el ab v5 v7)))])))) (af.req (eY ab w2_1 []) (af.ret (K.val (Ty.pair (Ty.slc ab) Ty.unit) ([], PUnit.unit))))
theorem db (w2_1 : den (Ty.fn (Ty.pair ab (Ty.pair ab Ty.unit)) (Ty.pair ae Ty.unit))) (v5 : den (Ty.slc ab)) (v6 : den ae) (v7 : den ae) : ay bg dw 5000 (dz w2_1 v5 v6 v7) aY (lp aV 1) (dx w2_1 v5 v6 v7) = dt w2_1 v5 v6 v7 := by kernel_rfl
noncomputable def bG (w2_1 : den (Ty.fn (Ty.pair ab (Ty.pair ab Ty.unit)) (Ty.pair ae Ty.unit))) (v5 : den (Ty.slc ab)) (v6 : den ae) (v7 : den ae) (b2 : List (den ab)) : List bv := [{ fx := bh, todo := iF ai 3, dst := none, s := ofS [(2, K.ptr (0 + 1) (Ty.slc ab) [])], rng := some 0 }, { fx := bu, todo := fP bf 1 1, dst := some 4, s := ofS [] }, { fx := aU, todo := fP aQ 1 1, dst := some 7, s := ofS [(1, K.val (Ty.fn (Ty.pair ab (Ty.pair ab Ty.unit)) (Ty.pair ae Ty.unit)) w2_1)] }]
noncomputable def bF (w2_1 : den (Ty.fn (Ty.pair ab (Ty.pair ab Ty.unit)) (Ty.pair ae Ty.unit))) (v5 : den (Ty.slc ab)) (v6 : den ae) (v7 : den ae) (b2 : List (den ab)) : Env := Env.of [(0, K.yld 0), (5, K.val (Ty.slc ab) v5), (6, K.val ae v6), (7, K.val ae v7)] [(0, Bx.lop LoopState.ready none [(2, K.ptr (0 + 1) (Ty.slc ab) [])] 13 (vu ai 3) (k8 ai 3) (oQ ai 3)), (1, Bx.obj (Ty.slc ab) (K.sl (0 + 1 + 1) ab)), (2, Bx.row ab b2)]
noncomputable def dl (w2_1 : den (Ty.fn (Ty.pair ab (Ty.pair ab Ty.unit)) (Ty.pair ae Ty.unit))) (v5 : den (Ty.slc ab)) (v6 : den ae) (v7 : den ae) (b2 : List (den ab)) : af := af.ite (decide (v7 < v6)) (af.req (inB v7 (lnx ab v5)) (af.req (List.length (b2 ++ List.set (List.replicate 1 (zero ab)) 0 (el ab v5 v7)) ≤ cM) (af.ite (!true) (af.req (eY ab w2_1 (b2 ++ List.set (List.replicate 1 (zero ab)) 0 (el ab v5 v7))) (af.ret (K.val (Ty.pair (Ty.slc ab) Ty.unit) (dc ab w2_1 (b2 ++ List.set (List.replicate 1 (zero ab)) 0 (el ab v5 v7)), PUnit.unit)))) (af.loop [{ fx := bh, todo := iF ai 3, dst := none, s := ofS [(2, K.ptr (0 + 1) (Ty.slc ab) [])], rng := some 0 }, { fx := bu, todo := fP bf 1 1, dst := some 4, s := ofS [] }, { fx := aU, todo := fP aQ 1 1, dst := some 7, s := ofS [(1, K.val (Ty.fn (Ty.pair ab (Ty.pair ab Ty.unit)) (Ty.pair ae Ty.unit)) w2_1)] }] aY (lp aV 1) [(0, K.yld 0), (5, K.val (Ty.slc ab) v5), (6, K.val ae v6), (7, K.val ae (IntKind.wrap IntKind.i64 (v7 + 1)))] [(0, Bx.lop LoopState.ready none [(2, K.ptr (0 + 1) (Ty.slc ab) [])] 13 (vu ai 3) (k8 ai 3) (oQ ai 3)), (0 + 1, Bx.obj (Ty.slc ab) (K.sl (0 + 1 + 1) ab)), (0 + 1 + 1, Bx.row ab (b2 ++ List.set (List.replicate 1 (zero ab)) 0 (el ab v5 v7)))])))) (af.req (eY ab w2_1 b2) (af.ret (K.val (Ty.pair (Ty.slc ab) Ty.unit) (dc ab w2_1 b2, PUnit.unit))))
theorem bo (w2_1 : den (Ty.fn (Ty.pair ab (Ty.pair ab Ty.unit)) (Ty.pair ae Ty.unit))) (v5 : den (Ty.slc ab)) (v6 : den ae) (v7 : den ae) (b2 : List (den ab)) : ay bg dw 5000 (bG w2_1 v5 v6 v7 b2) aY (lp aV 1) (bF w2_1 v5 v6 v7 b2) = dl w2_1 v5 v6 v7 b2 := by kernel_rfl
end Go.Proofs.Ytiaplhcifflibaa
